/-
  Walks: the reference's search for the strongest atom.
  The strongest atom at a model of the dice: a plain law.
  Walks: InvariantStrongest.
  Walks: the atoms of the laws of chapter 32.
  Walks: InvariantWeaker.
  Walks: InvariantHolds, the whole law.
  Closed facts of rows, one by one.
  Closed facts of rows, together.
-/
import Derived.Test.YtlldkikmjeeamaaGreatg9
import Derived.Test.YtlldkikmjeeamaaGreatg7
/-! ## CrH -/
namespace Go.AM
open Go Go.Proofs Go.RowKit

def rpotV (c : List Int) (mod : Int) : Option (List Int) → AV
  | some w => .tup [.ag [vs 2 c, vi mod, vs 3 w], vb true, vi 0]
  | none => .tup [noA, vb false, vi 0]
theorem rep_step (i : Nat) : List.map vi (List.replicate (i + 1) (1099511627776 : Int)) = List.map vi (List.replicate i 1099511627776) ++ [.sc (.int .i64 1099511627776)] := by
  rw [List.replicate_succ', List.map_append]; rfl
set_option maxRecDepth 100000 in
set_option maxHeartbeats 8000000 in
theorem con_rPotential (m : MD) (c : List Int) (mod : Int) (v0 : List Int) (h : PlainM m 0 v0) (hc : c.length = m.places.length) (h4 : SmallI 4 c) (hm : ModOk mod) :
    Con Tryz.prog 58 [vM m, vs 0 c, vi mod] [] fun x _ => x = rpotV c mod (potR mod c m.rules m.states.length v0) := by
  refine Con.intro Tryz.func58 rfl Tryz.ntmps58 Tryz.results58 (by kernel_rfl) (by simp) 0 (by simp) ?_
  have h1 := h.good.states
  have h2 := h.good.places
  have h3 := h.good.few
  have hmo := hm
  unfold ModOk at hmo
  have c1 : ((c.length : Int) != (m.places.length : Int)) = false := by rw [hc]; simp
  have hsum := sum_small h4 h.conf.small
  have hs6 := mul_le6 (n := c.length) (by omega)
  have hl0 := h.conf.len
  have hk : m.start.kids = .mk 0 [] :: v0.map fun n => .mk n [] := by rw [h.start]; rfl
  have hn0 : m.start.n = 0 := by rw [h.start]; rfl
  have hg0 : (m.start.kids.map vV)[0]? = some (.ag [.sc (.int .i64 0), .sl 0 2 []]) := by rw [hk]; exact getvV (l := .mk 0 [] :: v0.map fun n => CV.mk n []) (by simp)
  have hkl : 0 < m.start.kids.length := by rw [hk]; simp
  have hn := con_rNumbers m.start.n (.mk 0 []) (v0.map fun n => .mk n []) (by simp; omega)
  rw [cfg_nums, ← hk] at hn
  have hrc : roomFor c.length 8 := by simp only [roomFor]; omega
  simp only [go_sem, cM, vss]
  refine CallU.free (con_rplain m h.good h.still) (by simp only [go_sem]) (by simp only [go_sem, vM, cM, vss]) ?_
  rintro r bx rfl
  simp only [go_sem, List.length_map, c1]
  refine CallU.free (con_rRight c mod (by omega) h4 hm) (by simp only [go_sem]) (by simp only [go_sem]) ?_
  rintro r bx rfl
  simp only [go_sem, List.length_map, hrc]
  refine LoopK.intro (fun i : Nat => ⟨153, [(1, vs 0 c), (2, vi mod), (3, .pb 0 0), (6, .pb 1 0), (10, .pb 2 0), (11, vi i)], [cM m, [.any, .any, .any], [vs 2496 c, vi mod, vs 3328 (List.replicate i 1099511627776)]]⟩)
    (fun i => m.states.length - i) (fun i => i ≤ m.states.length) 0 (by omega) ?_ ?_
  · simp only [go_sem, cM, vss, List.replicate_zero, List.map_nil]
  rintro i hi
  by_cases hlt : i < m.states.length
  · have hw : IntKind.i64.wrap (i + 1) = i + 1 := wrap_in (by omega) (by omega)
    have hr : roomFor (i + 1) 8 := by simp only [roomFor]; omega
    have e := rep_step i
    simp only [go_sem, cM, vss, List.length_map, List.length_replicate, hlt, hw, hr]
    refine roundK.intro (i + 1) (by omega) (by omega) ?_
    simp only [go_sem, e]
  obtain rfl : i = m.states.length := by omega
  simp only [go_sem, cM, vss, List.length_map, hlt]
  refine CallU.free hn (by simp only [go_sem]) (by simp only [go_sem]) ?_
  rintro r bx rfl
  simp only [go_sem]
  refine CallU.flat (con_rsum c v0 (by omega) (by omega) h4 h.conf.small) (by simp only [go_sem]) (by simp only [go_sem]) ?_
  rintro r bx rfl
  by_cases hp0 : 0 < mod
  · simp only [go_sem, hp0]
    refine CallU.free (con_rr (sumF c v0) mod (by omega) (by omega)) (by simp only [go_sem]) (by simp only [go_sem]) ?_
    rintro r bx rfl
    have hf : restF (sumF c v0) mod = firstF mod (sumF c v0) := by unfold firstF; rw [if_pos hp0]
    rw [hf]
    simp only [go_sem]
    refine DrawK.meet ⟨153, [(1, vs 0 c), (2, vi mod), (3, .pb 0 0), (6, .pb 1 0), (10, .pb 2 0)], [cM m, [.any, .any, .any], [vs 2496 c, vi mod, vs 3328 (beginF mod m.states.length (sumF c v0))]]⟩ ?_ ?_
    · refine DrawK.walk 10 mixed (by kernel_rfl) ?_
      simp only [go_sem, hkl, hg0, List.length_replicate, cM, vss]
      refine ⟨by omega, ?_⟩
      rw [begin_set]
      exact leV_refl _
    · simp only [go_sem]
      have hR : RulesIn m.states.length m.rules := fun r hr => by have := (h.fine r hr).right; unfold RightR at this; omega
      have hE : ∀ r ∈ m.rules, -50331648 ≤ effectF c r ∧ effectF c r ≤ 50331648 := fun r hr => effect_small (h.fine r hr) (by omega) h4
      refine LoopK.intro (fun q : Nat × Nat × List Int => ⟨153, [(1, vs 0 c), (2, vi mod), (3, .pb 0 0), (6, .pb 1 0), (10, .pb 2 0), (13, vi q.1)], cM m :: [.any, .any, .any] :: [vs 2496 c, vi mod, vs 3328 q.2.2] :: Rk 14 q.2.1⟩)
        (fun q => m.states.length + 1 - q.1) (fun q => q.1 ≤ m.states.length + 1 ∧ q.2.2.length = m.states.length ∧ InB (25165824 + q.1 * 603979776) q.2.2 ∧ (if q.1 ≤ m.states.length then potF mod c m.rules (m.states.length - q.1) q.2.2 else none) = potR mod c m.rules m.states.length v0) (0, 0, beginF mod m.states.length (sumF c v0)) ⟨by simp, begin_len _ _ _, by simpa using begin_bnd (by omega) hm ⟨by omega, by omega⟩, by rw [if_pos (Nat.zero_le _)]; rfl⟩ ?_ ?_
      · simp only [go_sem, cM, vss]
        all_goals exact leB_self _
      rintro ⟨j, k, w⟩ ⟨hj, hw, hB, he⟩
      simp only at hj hw hB he
      by_cases hjl : j ≤ m.states.length
      case neg =>
        rw [if_neg hjl] at he
        rw [← he]
        simp only [go_sem, cM, vss, List.length_map, hjl, rpotV]
      have hwj : IntKind.i64.wrap (j + 1) = j + 1 := wrap_in (by omega) (by omega)
      rw [if_pos hjl] at he
      simp only [go_sem, cM, vss, List.length_map, hjl]
      refine LoopK.intro (fun q : Nat × Bool × List Int => ⟨153, [(1, vs 0 c), (2, vi mod), (3, .pb 0 0), (6, .pb 1 0), (10, .pb 2 0), (13, vi j), (14, vb q.2.1), (15, vi q.1)], cM m :: [.any, .any, .any] :: [vs 2496 c, vi mod, vs 3328 q.2.2] :: Rk 14 (k + q.1)⟩)
        (fun q => m.rules.length - q.1) (fun q => q.1 ≤ m.rules.length ∧ q.2.2.length = m.states.length ∧ InB ((25165824 + j * 603979776) + q.1 * 50331648) q.2.2 ∧ roundF mod c (m.rules.drop q.1) q.2.1 q.2.2 = roundF mod c m.rules false w) (0, false, w) ⟨by simp, hw, by simpa using hB, rfl⟩ ?_ ?_
      · simp only [go_sem, cM, vss]
        all_goals exact leB_self _
      rintro ⟨i, ch, u⟩ ⟨hi, hu, hBu, hr⟩
      simp only at hi hu hBu hr
      by_cases hil : i < m.rules.length
      · have hg := getRule hil
        have hwi : IntKind.i64.wrap (i + 1) = i + 1 := wrap_in (by omega) (by omega)
        have hB' := Rk_len 14 (k + i)
        have n0 := fun L : List (List AV) => app_at0 (L := L) hB'
        have s0 := fun (L : List (List AV)) z => app_set0 (L := L) (z := z) hB'
        have hfr := h.fine m.rules[i]! (mem_bangI hil)
        generalize hrr : m.rules[i]! = r at hg hfr
        obtain ⟨r1, r2, r3, r4, r5, r6⟩ := hfr.right
        have hsl : r.src.toNat < u.length := by omega
        have hdl : r.dst.toNat < u.length := by omega
        have gs := getv hsl
        have gd := getv hdl
        have ed : m.rules.drop i = r :: m.rules.drop (i + 1) := by rw [List.drop_eq_getElem_cons hil, ← getElem!_pos m.rules i hil, hrr]
        rw [ed, roundF] at hr
        have hb2 := flow_bnd (mod := mod) (coefs := c) (r := r) (v := u) (by omega) (by omega) (by omega) (effect_small hfr (by omega) h4) hBu
        have hl2 := flow_len mod c r u
        have ha1 : r.src < (u.length : Int) := by omega
        have ha2 : r.dst < (u.length : Int) := by omega
        simp only [go_sem, cM, vss, List.length_map, hil, hg, hB', n0, s0, r1, gs, ha1]
        by_cases ho : u[r.src.toNat]! = 1099511627776
        · have e : flowF mod c r u = (false, true, u) := by unfold flowF omegaI; rw [if_pos ho]
          have ho' : (u[r.src.toNat]! == 1099511627776) = true := beq_iff_eq.2 ho
          rw [e, if_pos rfl, Bool.or_false] at hr
          simp only [go_sem, ho', hwi]
          refine roundK.intro (i + 1, ch, u) ⟨by show i + 1 ≤ m.rules.length; omega, hu, hBu.mono (by show _ ≤ (25165824 + (j : Int) * 603979776) + ((i + 1 : Nat) : Int) * 50331648; omega), hr⟩ (by show m.rules.length - (i + 1) < m.rules.length - i; omega) ?_
          simp only [go_sem, ← Nat.add_assoc, Rk_succ]
          exact leB_RkA ⟨leC_any _ 14 rfl, trivial⟩
        have ho' : (u[r.src.toNat]! == 1099511627776) = false := beq_eq_false_iff_ne.2 ho
        have hEr := effect_small hfr (by omega) h4
        have hV := (hBu r.src.toNat).resolve_left ho
        have hw2 : IntKind.i64.wrap (u[r.src.toNat]! + effectF c r) = u[r.src.toNat]! + effectF c r := wrap_in (by omega) (by omega)
        have hset : (List.map vi u).modify r.dst.toNat (updElem 0 [AV.sc (.int .i64 (nextF mod c r u))]) = (u.set r.dst.toNat (nextF mod c r u)).map vi := modify_vi
        simp only [go_sem, ho']
        refine DrawK.walk 10 mixed (by kernel_rfl) ?_
        simp only [go_sem, n0, r1, gs, ha1]
        refine CallY.mk (con_reffect c r (by omega) (by omega) (by omega) h4 hfr.give hfr.need) (by simp only [go_sem]) (by simp only [go_sem]) (.inl (by simp only [go_sem])) ?_
        have hm0 : (mod == 0) = false := beq_eq_false_iff_ne.2 (by omega)
        have hn2 : restF (u[r.src.toNat]! + effectF c r) mod = nextF mod c r u := by unfold nextF; rw [if_pos hp0]
        simp only [go_sem, hw2, hp0]
        refine CallU.free (con_rr (u[r.src.toNat]! + effectF c r) mod (by omega) (by omega)) (by simp only [go_sem]) (by simp only [go_sem]) ?_
        rintro x bx rfl
        rw [hn2]
        by_cases hd : u[r.dst.toNat]! = 1099511627776
        · have e : flowF mod c r u = (true, true, u.set r.dst.toNat (nextF mod c r u)) := by unfold flowF omegaI; rw [if_neg ho, if_pos (.inl hd)]
          have hd' : (u[r.dst.toNat]! == 1099511627776) = true := beq_iff_eq.2 hd
          have hd2 : (u[r.dst.toNat]! != 1099511627776) = false := by unfold bne; rw [hd']; rfl
          rw [e, if_pos rfl, Bool.or_true] at hr
          rw [e] at hb2
          simp only [go_sem, n0, r3, gd, ha2, hd', hd2, hset, hp0, hwi]
          refine roundK.intro (i + 1, true, u.set r.dst.toNat (nextF mod c r u)) ⟨by show i + 1 ≤ m.rules.length; omega, by show (u.set _ _).length = _; rw [List.length_set]; exact hu, hb2.mono (by show _ ≤ (25165824 + (j : Int) * 603979776) + ((i + 1 : Nat) : Int) * 50331648; omega), hr⟩ (by show m.rules.length - (i + 1) < m.rules.length - i; omega) ?_
          simp only [go_sem, ← Nat.add_assoc, Rk_succ]
          exact leB_RkA ⟨leC_any _ 14 rfl, trivial⟩
        have hd' : (u[r.dst.toNat]! == 1099511627776) = false := beq_eq_false_iff_ne.2 hd
        have hd2 : (u[r.dst.toNat]! != 1099511627776) = true := by unfold bne; rw [hd']; rfl
        by_cases hq : nextF mod c r u = u[r.dst.toNat]!
        · have e : flowF mod c r u = (false, true, u) := by unfold flowF omegaI; rw [if_neg ho, if_neg (by omega), if_neg (fun h => h.2 hq)]
          have hq' : (u[r.dst.toNat]! != nextF mod c r u) = false := by rw [hq]; simp
          rw [e, if_pos rfl, Bool.or_false] at hr
          simp only [go_sem, n0, r3, gd, ha2, hd', hd2, hm0, hp0, hq', hwi]
          refine roundK.intro (i + 1, ch, u) ⟨by show i + 1 ≤ m.rules.length; omega, hu, hBu.mono (by show _ ≤ (25165824 + (j : Int) * 603979776) + ((i + 1 : Nat) : Int) * 50331648; omega), hr⟩ (by show m.rules.length - (i + 1) < m.rules.length - i; omega) ?_
          simp only [go_sem, ← Nat.add_assoc, Rk_succ]
          exact leB_RkA ⟨leC_any _ 14 rfl, trivial⟩
        · have e : flowF mod c r u = (false, false, u) := by unfold flowF omegaI; rw [if_neg ho, if_neg (by omega), if_pos ⟨hp0, hq⟩]
          have hq' : (u[r.dst.toNat]! != nextF mod c r u) = true := bne_iff_ne.2 (Ne.symm hq)
          rw [e, if_neg Bool.false_ne_true] at hr
          have hp : potF mod c m.rules (m.states.length - j) w = none := by
            cases hh : m.states.length - j with
            | zero => rw [potF, ← hr]
            | succ n => rw [potF, ← hr]
          rw [hp] at he
          rw [← he]
          simp only [go_sem, n0, r3, gd, ha2, hd2, hp0, hq', rpotV]
      · have hie : i = m.rules.length := by omega
        rw [hie, List.drop_length, roundF] at hr
        cases ch
        · have hp : potF mod c m.rules (m.states.length - j) w = some u := by
            cases hh : m.states.length - j with
            | zero => rw [potF, ← hr]
            | succ n => rw [potF, ← hr]
          rw [hp] at he
          rw [← he]
          simp only [go_sem, cM, vss, List.length_map, hil, rpotV]
        · have hq : (if j + 1 ≤ m.states.length then potF mod c m.rules (m.states.length - (j + 1)) u else none) = potR mod c m.rules m.states.length v0 := by
            rw [← he]
            by_cases hj1 : j + 1 ≤ m.states.length
            · rw [if_pos hj1, show m.states.length - j = (m.states.length - (j + 1)) + 1 by omega, potF, ← hr]
            · rw [if_neg hj1, show m.states.length - j = 0 by omega, potF, ← hr]
          simp only [go_sem, cM, vss, List.length_map, hil, hwj]
          refine roundK.intro (j + 1, k + i, u) ⟨by show j + 1 ≤ m.states.length + 1; omega, hu, hBu.mono (by show (25165824 + (j : Int) * 603979776) + (i : Int) * 50331648 ≤ (25165824 : Int) + ((j + 1 : Nat) : Int) * 603979776; omega), hq⟩ (by show m.states.length + 1 - (j + 1) < m.states.length + 1 - j; omega) ?_
          simp only [go_sem]
  · have hf : sumF c v0 = firstF mod (sumF c v0) := by unfold firstF; rw [if_neg hp0]
    rw [hf]
    simp only [go_sem, hp0]
    refine DrawK.meet ⟨153, [(1, vs 0 c), (2, vi mod), (3, .pb 0 0), (6, .pb 1 0), (10, .pb 2 0)], [cM m, [.any, .any, .any], [vs 2496 c, vi mod, vs 3328 (beginF mod m.states.length (sumF c v0))]]⟩ ?_ ?_
    · refine DrawK.walk 10 mixed (by kernel_rfl) ?_
      simp only [go_sem, hkl, hg0, List.length_replicate, cM, vss]
      refine ⟨by omega, ?_⟩
      rw [begin_set]
      exact leV_refl _
    · simp only [go_sem]
      have hR : RulesIn m.states.length m.rules := fun r hr => by have := (h.fine r hr).right; unfold RightR at this; omega
      have hE : ∀ r ∈ m.rules, -50331648 ≤ effectF c r ∧ effectF c r ≤ 50331648 := fun r hr => effect_small (h.fine r hr) (by omega) h4
      refine LoopK.intro (fun q : Nat × Nat × List Int => ⟨153, [(1, vs 0 c), (2, vi mod), (3, .pb 0 0), (6, .pb 1 0), (10, .pb 2 0), (13, vi q.1)], cM m :: [.any, .any, .any] :: [vs 2496 c, vi mod, vs 3328 q.2.2] :: Rk 14 q.2.1⟩)
        (fun q => m.states.length + 1 - q.1) (fun q => q.1 ≤ m.states.length + 1 ∧ q.2.2.length = m.states.length ∧ InB (25165824 + q.1 * 603979776) q.2.2 ∧ (if q.1 ≤ m.states.length then potF mod c m.rules (m.states.length - q.1) q.2.2 else none) = potR mod c m.rules m.states.length v0) (0, 0, beginF mod m.states.length (sumF c v0)) ⟨by simp, begin_len _ _ _, by simpa using begin_bnd (by omega) hm ⟨by omega, by omega⟩, by rw [if_pos (Nat.zero_le _)]; rfl⟩ ?_ ?_
      · simp only [go_sem, cM, vss]
        all_goals exact leB_self _
      rintro ⟨j, k, w⟩ ⟨hj, hw, hB, he⟩
      simp only at hj hw hB he
      by_cases hjl : j ≤ m.states.length
      case neg =>
        rw [if_neg hjl] at he
        rw [← he]
        simp only [go_sem, cM, vss, List.length_map, hjl, rpotV]
      have hwj : IntKind.i64.wrap (j + 1) = j + 1 := wrap_in (by omega) (by omega)
      rw [if_pos hjl] at he
      simp only [go_sem, cM, vss, List.length_map, hjl]
      refine LoopK.intro (fun q : Nat × Bool × List Int => ⟨153, [(1, vs 0 c), (2, vi mod), (3, .pb 0 0), (6, .pb 1 0), (10, .pb 2 0), (13, vi j), (14, vb q.2.1), (15, vi q.1)], cM m :: [.any, .any, .any] :: [vs 2496 c, vi mod, vs 3328 q.2.2] :: Rk 14 (k + q.1)⟩)
        (fun q => m.rules.length - q.1) (fun q => q.1 ≤ m.rules.length ∧ q.2.2.length = m.states.length ∧ InB ((25165824 + j * 603979776) + q.1 * 50331648) q.2.2 ∧ roundF mod c (m.rules.drop q.1) q.2.1 q.2.2 = roundF mod c m.rules false w) (0, false, w) ⟨by simp, hw, by simpa using hB, rfl⟩ ?_ ?_
      · simp only [go_sem, cM, vss]
        all_goals exact leB_self _
      rintro ⟨i, ch, u⟩ ⟨hi, hu, hBu, hr⟩
      simp only at hi hu hBu hr
      by_cases hil : i < m.rules.length
      · have hg := getRule hil
        have hwi : IntKind.i64.wrap (i + 1) = i + 1 := wrap_in (by omega) (by omega)
        have hB' := Rk_len 14 (k + i)
        have n0 := fun L : List (List AV) => app_at0 (L := L) hB'
        have s0 := fun (L : List (List AV)) z => app_set0 (L := L) (z := z) hB'
        have hfr := h.fine m.rules[i]! (mem_bangI hil)
        generalize hrr : m.rules[i]! = r at hg hfr
        obtain ⟨r1, r2, r3, r4, r5, r6⟩ := hfr.right
        have hsl : r.src.toNat < u.length := by omega
        have hdl : r.dst.toNat < u.length := by omega
        have gs := getv hsl
        have gd := getv hdl
        have ed : m.rules.drop i = r :: m.rules.drop (i + 1) := by rw [List.drop_eq_getElem_cons hil, ← getElem!_pos m.rules i hil, hrr]
        rw [ed, roundF] at hr
        have hb2 := flow_bnd (mod := mod) (coefs := c) (r := r) (v := u) (by omega) (by omega) (by omega) (effect_small hfr (by omega) h4) hBu
        have hl2 := flow_len mod c r u
        have ha1 : r.src < (u.length : Int) := by omega
        have ha2 : r.dst < (u.length : Int) := by omega
        simp only [go_sem, cM, vss, List.length_map, hil, hg, hB', n0, s0, r1, gs, ha1]
        by_cases ho : u[r.src.toNat]! = 1099511627776
        · have e : flowF mod c r u = (false, true, u) := by unfold flowF omegaI; rw [if_pos ho]
          have ho' : (u[r.src.toNat]! == 1099511627776) = true := beq_iff_eq.2 ho
          rw [e, if_pos rfl, Bool.or_false] at hr
          simp only [go_sem, ho', hwi]
          refine roundK.intro (i + 1, ch, u) ⟨by show i + 1 ≤ m.rules.length; omega, hu, hBu.mono (by show _ ≤ (25165824 + (j : Int) * 603979776) + ((i + 1 : Nat) : Int) * 50331648; omega), hr⟩ (by show m.rules.length - (i + 1) < m.rules.length - i; omega) ?_
          simp only [go_sem, ← Nat.add_assoc, Rk_succ]
          exact leB_RkA ⟨leC_any _ 14 rfl, trivial⟩
        have ho' : (u[r.src.toNat]! == 1099511627776) = false := beq_eq_false_iff_ne.2 ho
        have hEr := effect_small hfr (by omega) h4
        have hV := (hBu r.src.toNat).resolve_left ho
        have hw2 : IntKind.i64.wrap (u[r.src.toNat]! + effectF c r) = u[r.src.toNat]! + effectF c r := wrap_in (by omega) (by omega)
        have hset : (List.map vi u).modify r.dst.toNat (updElem 0 [AV.sc (.int .i64 (nextF mod c r u))]) = (u.set r.dst.toNat (nextF mod c r u)).map vi := modify_vi
        simp only [go_sem, ho']
        refine DrawK.walk 10 mixed (by kernel_rfl) ?_
        simp only [go_sem, n0, r1, gs, ha1]
        refine CallY.mk (con_reffect c r (by omega) (by omega) (by omega) h4 hfr.give hfr.need) (by simp only [go_sem]) (by simp only [go_sem]) (.inl (by simp only [go_sem])) ?_
        have hz : mod = 0 := by omega
        have hm0 : (mod == 0) = true := beq_iff_eq.2 hz
        have hn2 : u[r.src.toNat]! + effectF c r = nextF mod c r u := by unfold nextF; rw [if_neg hp0]
        have hw3 : IntKind.i64.wrap (nextF mod c r u) = nextF mod c r u := by rw [← hn2]; exact hw2
        by_cases hd : u[r.dst.toNat]! = 1099511627776
        · have e : flowF mod c r u = (true, true, u.set r.dst.toNat (nextF mod c r u)) := by unfold flowF omegaI; rw [if_neg ho, if_pos (.inl hd)]
          have hd' : (u[r.dst.toNat]! == 1099511627776) = true := beq_iff_eq.2 hd
          rw [e, if_pos rfl, Bool.or_true] at hr
          rw [e] at hb2
          simp only [go_sem, n0, hw3, hn2, r3, gd, ha2, hd', hset, hp0, hwi]
          refine roundK.intro (i + 1, true, u.set r.dst.toNat (nextF mod c r u)) ⟨by show i + 1 ≤ m.rules.length; omega, by show (u.set _ _).length = _; rw [List.length_set]; exact hu, hb2.mono (by show _ ≤ (25165824 + (j : Int) * 603979776) + ((i + 1 : Nat) : Int) * 50331648; omega), hr⟩ (by show m.rules.length - (i + 1) < m.rules.length - i; omega) ?_
          simp only [go_sem, ← Nat.add_assoc, Rk_succ]
          exact leB_RkA ⟨leC_any _ 14 rfl, trivial⟩
        have hd' : (u[r.dst.toNat]! == 1099511627776) = false := beq_eq_false_iff_ne.2 hd
        by_cases hq : nextF mod c r u < u[r.dst.toNat]!
        · have e : flowF mod c r u = (true, true, u.set r.dst.toNat (nextF mod c r u)) := by unfold flowF omegaI; rw [if_neg ho, if_pos (.inr ⟨hz, hq⟩)]
          rw [e, if_pos rfl, Bool.or_true] at hr
          rw [e] at hb2
          simp only [go_sem, n0, hw3, hn2, r3, gd, ha2, hd', hm0, hq, hset, hp0, hwi]
          refine roundK.intro (i + 1, true, u.set r.dst.toNat (nextF mod c r u)) ⟨by show i + 1 ≤ m.rules.length; omega, by show (u.set _ _).length = _; rw [List.length_set]; exact hu, hb2.mono (by show _ ≤ (25165824 + (j : Int) * 603979776) + ((i + 1 : Nat) : Int) * 50331648; omega), hr⟩ (by show m.rules.length - (i + 1) < m.rules.length - i; omega) ?_
          simp only [go_sem, ← Nat.add_assoc, Rk_succ]
          exact leB_RkA ⟨leC_any _ 14 rfl, trivial⟩
        · have e : flowF mod c r u = (false, true, u) := by unfold flowF omegaI; rw [if_neg ho, if_neg (by omega), if_neg (fun h => hp0 h.1)]
          rw [e, if_pos rfl, Bool.or_false] at hr
          simp only [go_sem, n0, hw3, hn2, r3, gd, ha2, hd', hm0, hq, hp0, hwi]
          refine roundK.intro (i + 1, ch, u) ⟨by show i + 1 ≤ m.rules.length; omega, hu, hBu.mono (by show _ ≤ (25165824 + (j : Int) * 603979776) + ((i + 1 : Nat) : Int) * 50331648; omega), hr⟩ (by show m.rules.length - (i + 1) < m.rules.length - i; omega) ?_
          simp only [go_sem, ← Nat.add_assoc, Rk_succ]
          exact leB_RkA ⟨leC_any _ 14 rfl, trivial⟩
      · have hie : i = m.rules.length := by omega
        rw [hie, List.drop_length, roundF] at hr
        cases ch
        · have hp : potF mod c m.rules (m.states.length - j) w = some u := by
            cases hh : m.states.length - j with
            | zero => rw [potF, ← hr]
            | succ n => rw [potF, ← hr]
          rw [hp] at he
          rw [← he]
          simp only [go_sem, cM, vss, List.length_map, hil, rpotV]
        · have hq : (if j + 1 ≤ m.states.length then potF mod c m.rules (m.states.length - (j + 1)) u else none) = potR mod c m.rules m.states.length v0 := by
            rw [← he]
            by_cases hj1 : j + 1 ≤ m.states.length
            · rw [if_pos hj1, show m.states.length - j = (m.states.length - (j + 1)) + 1 by omega, potF, ← hr]
            · rw [if_neg hj1, show m.states.length - j = 0 by omega, potF, ← hr]
          simp only [go_sem, cM, vss, List.length_map, hil, hwj]
          refine roundK.intro (j + 1, k + i, u) ⟨by show j + 1 ≤ m.states.length + 1; omega, hu, hBu.mono (by show (25165824 + (j : Int) * 603979776) + (i : Int) * 50331648 ≤ (25165824 : Int) + ((j + 1 : Nat) : Int) * 603979776; omega), hq⟩ (by show m.states.length + 1 - (j + 1) < m.states.length + 1 - j; omega) ?_
          simp only [go_sem]
end Go.AM

/-! ## CnC -/
namespace Go.AM
open Go Go.Proofs Go.RowKit

/-! ### values modulo a number -/
def InMod (mod : Int) (v : List Int) : Prop := ∀ s : Nat, v[s]! = omegaI ∨ (0 ≤ v[s]! ∧ v[s]! < mod)
theorem flow_mod {mod : Int} {c : List Int} {r : RD} {v : List Int} (hm : 0 < mod) (hy : r.dst.toNat < v.length) (h : InMod mod v) : InMod mod (flowF mod c r v).2.2 := by
  unfold flowF
  split
  · exact h
  · split
    · intro s
      show (v.set r.dst.toNat (nextF mod c r v))[s]! = omegaI ∨ 0 ≤ (v.set r.dst.toNat (nextF mod c r v))[s]! ∧ (v.set r.dst.toNat (nextF mod c r v))[s]! < mod
      rw [set_bang hy]
      split
      · right
        unfold nextF
        rw [if_pos hm, restF_emod hm]
        exact ⟨Int.emod_nonneg _ (by omega), Int.emod_lt_of_pos _ hm⟩
      · exact h s
    · split <;> exact h
theorem begin_mod {mod f0 : Int} {ns : Nat} (hns : 0 < ns) (hm : 0 < mod) : InMod mod (beginF mod ns f0) := fun s => by
  by_cases hs : s < ns
  · cases s with
    | zero =>
      right
      rw [begin_zero hns]
      unfold firstF
      rw [if_pos hm, restF_emod hm]
      exact ⟨Int.emod_nonneg _ (by omega), Int.emod_lt_of_pos _ hm⟩
    | succ s => left; exact begin_succ hns hs
  · have : (beginF mod ns f0)[s]! = 0 := by rw [getElem!_neg _ s (by rw [begin_len]; exact hs)]; rfl
    rw [this]; right; omega
theorem mem_bangS {l : List Int} {x : Int} (h : x ∈ l) : ∃ s : Nat, l[s]! = x := by
  obtain ⟨i, hi, e⟩ := List.getElem_of_mem h
  exact ⟨i, by rw [getElem!_pos l i hi, e]⟩
theorem values_mod {mod : Int} {w : List Int} (hm : 0 < mod) (h : InMod mod w) : valuesB mod w = true := by
  unfold valuesB
  simp only [Bool.not_eq_true', List.any_eq_false]
  intro x hx
  obtain ⟨s, rfl⟩ := mem_bangS hx
  unfold badV lowF highF
  rw [if_pos hm, if_pos hm]
  rcases h s with h | h
  · rw [h, show (omegaI != 1099511627776) = false from rfl, Bool.false_and]; exact Bool.false_ne_true
  · simp only [Bool.and_eq_true, Bool.or_eq_true, decide_eq_true_eq, not_and]
    intro _; omega
theorem values_zero {w : List Int} (h : InB 1099511627775 w) : valuesB 0 w = true := by
  unfold valuesB
  simp only [Bool.not_eq_true', List.any_eq_false]
  intro x hx
  obtain ⟨s, rfl⟩ := mem_bangS hx
  unfold badV lowF highF
  rw [if_neg (by omega), if_neg (by omega)]
  rcases h s with h | h
  · rw [h, show (omegaI != 1099511627776) = false from rfl, Bool.false_and]; exact Bool.false_ne_true
  · simp only [Bool.and_eq_true, Bool.or_eq_true, decide_eq_true_eq, not_and]
    intro _; omega

section
variable {ns np : Nat} {rules : List RD} {v0 c : List Int} {mod : Int}
theorem deal_in (hd : DealM ns np rules v0) : RulesIn ns rules := fun r hr => by
  have := (hd.rules r hr).dst; omega
theorem sum_deal (hd : DealM ns np rules v0) (hc : c.length = np) (h4 : SmallI 4 c) {v : List Int} (hv : SmallI 1048576 v) : -25165824 ≤ sumF c v ∧ sumF c v ≤ 25165824 := by
  have := sum_small h4 hv
  have := hd.hnp
  omega
theorem start_small (hd : DealM ns np rules v0) : SmallI 1048576 v0 := fun x hx => by have := hd.start.2 x hx; omega
/-- what is found is closed -/
theorem found_closed (hd : DealM ns np rules v0) (hc : c.length = np) (h4 : SmallI 4 c) (hm : ModOk mod) {w : List Int} (h : potR mod c rules ns v0 = some w) :
    w.length = ns ∧ valuesB mod w = true ∧ closedF rules 0 v0 ⟨c, mod, w⟩ = 0 := by
  have hns : 0 < ns := by have := hd.hns; omega
  have hm0 : 0 ≤ mod := by unfold ModOk at hm; omega
  have hs := sum_deal hd hc h4 (start_small hd)
  have hE : ∀ r ∈ rules, -50331648 ≤ effectF c r ∧ effectF c r ≤ 50331648 := fun r hr => effect_small (rule_fine (deal_rule (hd.rules r hr)).1) (by have := hd.hnp; omega) h4
  unfold potR at h
  have hb := pot_bnd (by omega) (deal_in hd) hE (begin_len mod ns (sumF c v0)) (show mod ≤ 25165824 by unfold ModOk at hm; omega) (begin_bnd hns hm hs) h
  have hin := pot_inv (P := fun v => v.length = ns ∧ (0 < mod → InMod mod v)) (fun r hr v ⟨g1, g2⟩ => ⟨by rw [flow_len, g1], fun hp => flow_mod hp (by rw [g1]; exact deal_in hd r hr) (g2 hp)⟩) ⟨begin_len mod ns (sumF c v0), fun hp => begin_mod hns hp⟩ h
  refine ⟨hb.1, ?_, ?_⟩
  · rcases hm with rfl | hm
    · refine values_zero (hb.2.mono ?_)
      have := hd.len; have := hd.hns
      have h5 : ((ns + 1 : Nat) : Int) * (rules.length * 50331648) ≤ 3 * (3 * 50331648) := Int.mul_le_mul (by omega) (by omega) (by omega) (by omega)
      omega
    · exact values_mod (by omega) (hin.2 (by omega))
  · unfold closedF
    have e1 : holdsF ⟨c, mod, w⟩ 0 v0 = true := pot_start hns (deal_in hd) hm0 (by unfold ModOk at hm; unfold omegaI; omega) (by show sumF c v0 < 1099511627776; omega) h
    have e2 : rules.all (keepsF ⟨c, mod, w⟩) = true := List.all_eq_true.2 fun r hr => pot_keeps hm0 h r hr
    rw [e1, e2]; rfl
theorem closed_zero {b : AtomD} (h : closedF rules 0 v0 b = 0) : holdsF b 0 v0 = true ∧ ∀ r ∈ rules, keepsF b r = true := by
  unfold closedF at h
  split at h
  · rename_i h1
    split at h
    · rename_i h2; exact ⟨h1, List.all_eq_true.1 h2⟩
    · cases h
  · cases h
/-- what is found is the strongest -/
theorem found_strongest {b : AtomD} (hd : DealM ns np rules v0) (hbc : b.coefs.length = np) (hbl : b.values.length = ns) (hm : ModOk b.mod) (hb : closedF rules 0 v0 b = 0) {w : List Int}
    (h : potR b.mod b.coefs rules ns v0 = some w) (s : Nat) (v : List Int) (hf : holdsF ⟨b.coefs, b.mod, w⟩ s v = true) : holdsF b s v = true := by
  have hns : 0 < ns := by have := hd.hns; omega
  have hm0 : 0 ≤ b.mod := by unfold ModOk at hm; omega
  obtain ⟨h1, h2⟩ := closed_zero hb
  exact follows_above (a := ⟨b.coefs, b.mod, w⟩) rfl (pot_above hns hbl (deal_in hd) hm0 h1 h2 h s) hf
theorem first_begin {b : AtomD} {f0 : Int} (hm : 0 ≤ b.mod) (hf : f0 < omegaI) (hm2 : b.mod ≤ omegaI) (h : followsF b f0 0 = true) : Q1 b (firstF b.mod f0) := by
  have h1 := first_lt hf hm2
  unfold followsF at h
  split at h
  · cases h
  · rename_i h0
    refine ⟨by omega, h0, ?_⟩
    unfold firstF
    split
    · rename_i hz
      rw [if_pos hz] at h
      rw [if_neg (by omega)]
      exact of_decide_eq_true h
    · rename_i hz
      rw [if_neg hz] at h
      rw [if_pos (by omega)]
      exact (beq_iff_eq.1 h).symm
theorem next_small {mod : Int} {c : List Int} {r : RD} {v : List Int} (hm : ModOk mod) (hv : v[r.src.toNat]! ≤ 25165824) (hE : effectF c r ≤ 50331648) : nextF mod c r v ≠ omegaI := by
  unfold nextF omegaI
  split
  · rename_i hp
    rw [restF_emod hp]
    have := Int.emod_lt_of_pos (v[r.src.toNat]! + effectF c r) hp
    unfold ModOk at hm; omega
  · omega
/-- where a closed atom is, one is found -/
theorem found_some {b : AtomD} (hd : DealM ns np rules v0) (hbc : b.coefs.length = np) (h4 : SmallI 4 b.coefs) (hbl : b.values.length = ns) (hm : ModOk b.mod) (hb : closedF rules 0 v0 b = 0) : ∃ w, potR b.mod b.coefs rules ns v0 = some w := by
  have hm0 : 0 ≤ b.mod := by unfold ModOk at hm; omega
  have hm2 : b.mod ≤ omegaI := by unfold ModOk at hm; unfold omegaI; omega
  obtain ⟨h1, h2⟩ := closed_zero hb
  have hs := sum_deal hd hbc h4 (start_small hd)
  have hq := first_begin hm0 (by unfold omegaI; omega) hm2 h1
  have hE : ∀ r ∈ rules, -50331648 ≤ effectF b.coefs r ∧ effectF b.coefs r ≤ 50331648 := fun r hr => effect_small (rule_fine (deal_rule (hd.rules r hr)).1) (by have := hd.hnp; omega) h4
  have hfb : firstF b.mod (sumF b.coefs v0) ≤ 25165824 := by
    unfold firstF
    split
    · rename_i hp
      rw [restF_emod hp]
      have := Int.emod_lt_of_pos (sumF b.coefs v0) hp
      unfold ModOk at hm; omega
    · omega
  unfold potR
  obtain rfl | rfl : ns = 1 ∨ ns = 2 := by have := hd.hns; omega
  · refine ⟨_, pot_one hm0 hbl hq fun r hr => ?_⟩
    have g1 := (hd.rules r hr).src; have g2 := (hd.rules r hr).dst
    exact ⟨by omega, by omega, h2 r hr⟩
  · refine pot_two (u := omegaI) hm0 hbl hq (.inl rfl) fun r hr => ?_
    have g1 := (hd.rules r hr).src; have g2 := (hd.rules r hr).dst
    refine ⟨⟨by omega, by omega⟩, h2 r hr, fun u hu => ?_⟩
    refine next_small hm ?_ (hE r hr).2
    rw [hu]; exact hfb
end
end Go.AM

/-! ## CnD -/
namespace Go.AM
open Go Go.Proofs Go.RowKit

theorem last_modify {vals : List Int} {x y : Int} : (List.map vi vals ++ [AV.sc (.int .i64 x)]).modify vals.length (updElem 0 [.sc (.int .i64 y)]) = List.map vi vals ++ [AV.sc (.int .i64 y)] := by
  have := modify_vi (Z := vals ++ [x]) (q := vals.length) (x := y)
  rw [List.set_append_right _ _ (Nat.le_refl _), Nat.sub_self, List.set_cons_zero, List.map_append, List.map_append] at this
  exact this
theorem last_at {vals : List Int} {x : Int} : (List.map vi vals ++ [AV.sc (.int .i64 x)])[vals.length]? = some (AV.sc (.int .i64 x)) := by
  rw [List.getElem?_append_right (by simp), List.length_map, Nat.sub_self]; rfl
theorem last_len {vals : List Int} {x : Int} : (List.map vi vals ++ [AV.sc (.int .i64 x)]).length = vals.length + 1 := by simp
set_option maxRecDepth 100000 in
set_option maxHeartbeats 8000000 in
theorem con_strongestLaw (l : List Int) (hl : l.length ≤ 9223372036854775807) (hx : ∀ x ∈ l, 0 ≤ x ∧ x < 256) :
    Con Tryz.prog 8 [.sl 0 1 (l.map vu)] [] fun r _ => r = vb true := by
  refine Con.intro Tryz.func8 rfl Tryz.ntmps8 Tryz.results8 (by kernel_rfl) (by simp) 0 (by simp) ?_
  have hs : Seeds (l.take 200) := ⟨by rw [List.length_take]; omega, fun x h => hx x (List.mem_of_mem_take h)⟩
  simp only [go_sem]
  refine CallU.free con_sane32 (by simp only [go_sem]) (by simp only [go_sem]) ?_
  rintro r bx rfl
  simp only [go_sem]
  refine CallU.news (bx0 := []) (con_new l hl) (by simp only [go_sem]) (by simp only [go_sem]) (by simp only [go_sem]) (by simp only [go_sem]) (by simp only [go_sem]) ?_
  rintro r bx ⟨rfl, rfl⟩
  generalize l.take 200 = l at hs
  simp only [go_sem]
  refine CallU.boxes (i := 0) (is := []) (bx0 := [diceA l 0]) (con_Counter l 0 hs (by omega)) (by simp only [go_sem]) (by simp only [go_sem]) (by simp only [go_sem]) (by simp only [go_sem]) (by simp only [go_sem]) ?_
  rintro r bx ⟨ns, np, rules, v0, at1, hd, ha1, rfl, rfl⟩
  have hP := deal_plain hd
  have hns := hd.hns
  have hnp := hd.hnp
  have l1 : (dealM ns np rules v0).states.length = ns := states_len hns.2
  have l2 : (dealM ns np rules v0).places.length = np := places_len hnp.2
  have ek : (dealM ns np rules v0).kind = 1 := rfl
  have er : (dealM ns np rules v0).rules = rules := rfl
  generalize dealM ns np rules v0 = m at hP l1 l2 ek er
  have hp2 := pickA_le ha1
  have hp3 := pickA_le hp2
  simp only [go_sem, vM, cM, vss]
  refine DrawK.effs0 0 [1, 4] [] 10 (.one 10 (.one 11 .done)) none (diceA l at1) mixed (by kernel_rfl) (by kernel_rfl) (by simp only [go_sem]) (by simp only [go_sem]) ?_
  simp only [go_sem]
  refine EffK.mk (con_pickF l at1 5 hs ha1 (by omega)) (by simp only [go_sem]) (by simp only [go_sem]) (by simp only [go_sem]) (by simp only [go_sem]) ?_
  have q1 := pickV_lt (l := l) (at_ := at1) (show (1 : Int) ≤ 5 by omega)
  have q2 := pickV_lt (l := l) (at_ := pickA l at1) (show (1 : Int) ≤ 5 by omega)
  have w1 : IntKind.i64.wrap (pickV l at1 5 - 2) = pickV l at1 5 - 2 := wrap_in (by omega) (by omega)
  have w2 : IntKind.i64.wrap (pickV l (pickA l at1) 5 - 2) = pickV l (pickA l at1) 5 - 2 := wrap_in (by omega) (by omega)
  simp only [go_sem, w1]
  refine EffK.mk (con_pickF l (pickA l at1) 5 hs hp2 (by omega)) (by simp only [go_sem]) (by simp only [go_sem]) (by simp only [go_sem]) (by simp only [go_sem]) ?_
  simp only [go_sem, w2, List.length_map, l2]
  refine ⟨⟨hnp.2, ?_⟩, trivial⟩
  obtain ⟨c, hc, hcl, h4⟩ : ∃ c : List Int, List.take np [AV.sc (.int .i64 (pickV l at1 5 - 2)), AV.sc (.int .i64 (pickV l (pickA l at1) 5 - 2))] = c.map vi ∧ c.length = np ∧ SmallI 4 c := by
    refine ⟨List.take np [pickV l at1 5 - 2, pickV l (pickA l at1) 5 - 2], by rw [List.map_take]; rfl, by rw [List.length_take]; simp only [List.length_cons, List.length_nil]; omega, fun x hx => ?_⟩
    have := List.mem_of_mem_take hx
    simp only [List.mem_cons, List.not_mem_nil, or_false] at this
    rcases this with rfl | rfl <;> omega
  generalize pickA l at1 = at2 at hp2 hp3 hc q2 w2
  have hp4 := pickA_le hp3
  have q3 := pickV_lt (l := l) (at_ := pickA l at2) (show (1 : Int) ≤ 4 by omega)
  obtain ⟨X, eX, hX⟩ : ∃ X : Nat, pickV l (pickA l at2) 4 = X ∧ X < 4 := ⟨(pickV l (pickA l at2) 4).toNat, by omega, by omega⟩
  obtain ⟨mod, hg, hm⟩ : ∃ mod : Int, [AV.sc (.int .i64 0), AV.sc (.int .i64 2), AV.sc (.int .i64 3), AV.sc (.int .i64 5)][X]? = some (.sc (.int .i64 mod)) ∧ ModOk mod := by
    obtain rfl | rfl | rfl | rfl : X = 0 ∨ X = 1 ∨ X = 2 ∨ X = 3 := by omega
    · exact ⟨0, rfl, .inl rfl⟩
    · exact ⟨2, rfl, .inr ⟨by decide, by decide⟩⟩
    · exact ⟨3, rfl, .inr ⟨by decide, by decide⟩⟩
    · exact ⟨5, rfl, .inr ⟨by decide, by decide⟩⟩
  refine CallU.boxes (i := 0) (is := []) (bx0 := [diceA l (pickA l at2)]) (con_pickF l (pickA l at2) 4 hs hp3 (by omega)) (by simp only [go_sem]) (by simp only [go_sem]) (by simp only [go_sem]) (by simp only [go_sem]) (by simp only [go_sem]) ?_
  rintro r b ⟨rfl, rfl⟩
  rw [eX]
  generalize pickA l (pickA l at2) = at3 at hp4
  simp only [go_sem, hg, hX, hc]
  have hPot := con_Potential m c mod v0 hP (hcl.trans l2.symm) h4 hm
  rw [er, l1] at hPot
  cases hpo : potR mod c rules ns v0 with
  | none =>
    rw [hpo] at hPot
    refine CallU.freeze hPot (by simp only [go_sem]) (by simp only [go_sem, vM, cM, vss]) ?_
    rintro r b rfl
    simp only [go_sem, potV, List.length_map, l1]
    refine LoopK.intro (fun p : List Int × Nat => ⟨120, [(2, vb false), (3, .pb 0 0), (4, .pb 1 0), (5, vs 0 c), (6, vi mod), (7, .pb 2 0), (8, vb false), (9, vi 0), (10, .pb 3 0), (60, vi ns), (61, vi p.1.length)], [diceA l p.2, cM m, [.nil, vi 0, .nil], [vs 0 c, vi mod, vs 4416 p.1]]⟩)
      (fun p => ns - p.1.length) (fun p => p.1.length ≤ ns ∧ p.2 ≤ l.length) ([], at3) ⟨by simp, hp4⟩ ?_ ?_
    · simp only [go_sem, List.length_nil, List.map_nil, cM, vss]
    rintro ⟨vals, at4⟩ ⟨k1, k2⟩
    simp only at k1 k2
    by_cases h : vals.length < ns
    · have hw : IntKind.i64.wrap (vals.length + 1) = vals.length + 1 := wrap_in (by omega) (by omega)
      simp only [go_sem, h, cM, vss]
      refine DrawK.effs0 0 [3] [] 5 (.one 5 (.one 6 (.one 7 .done))) none (diceA l at4) mixed (by kernel_rfl) (by kernel_rfl) (by simp only [go_sem]) (by simp only [go_sem]) ?_
      simp only [go_sem]
      refine EffK.mk (con_pickF l at4 4 hs k2 (by omega)) (by simp only [go_sem]) (by simp only [go_sem]) (by simp only [go_sem]) (by simp only [go_sem]) ?_
      have hr : roomFor (vals.length + 1) 8 := by unfold roomFor; omega
      have k3 := pickA_le k2
      have q4 := pickV_lt (l := l) (at_ := at4) (show (1 : Int) ≤ 4 by omega)
      generalize pickV l at4 4 = x at q4
      simp only [go_sem, hr]
      refine ⟨?_, trivial⟩
      by_cases h0 : (0 : Int) < mod
      · have hne : ¬ mod = 0 := by omega
        have w6 : IntKind.i64.wrap ((vals.length : Int) + 1 - 1) = vals.length := by rw [wrap_in (by omega) (by omega)]; omega
        have hmb := Int.emod_lt_of_pos x h0
        have hmn := Int.emod_nonneg x hne
        have hte : Int.tmod x mod = x % mod := Int.tmod_eq_emod_of_nonneg q4.1
        have hm8 : mod ≤ 8 := by unfold ModOk at hm; omega
        have w7 : IntKind.i64.wrap (x % mod) = x % mod := wrap_in (by omega) (by omega)
        have hla := last_at (vals := vals) (x := x)
        have hlm := last_modify (vals := vals) (x := x) (y := x % mod)
        have hll := last_len (vals := vals) (x := x)
        simp only [go_sem, h0, hll, w6]
        refine ⟨by omega, ?_⟩
        simp only [go_sem, hla, hlm, hne, hte, w6, hll, hw]
        refine ⟨by omega, roundK.intro (vals ++ [x % mod], pickA l at4) ⟨by simp; omega, k3⟩ (by simp; omega) ?_⟩
        simp only [go_sem, List.map_append, List.length_append, List.map_cons, List.map_nil, List.length_cons, List.length_nil]
      · simp only [go_sem, h0, hw]
        refine roundK.intro (vals ++ [x], pickA l at4) ⟨by simp; omega, k3⟩ (by simp; omega) ?_
        simp only [go_sem, List.map_append, List.length_append, List.map_cons, List.map_nil, List.length_cons, List.length_nil]
    · have e : vals.length = ns := by omega
      have hFb : FormA m ⟨c, mod, vals⟩ := ⟨hcl.trans l2.symm, h4, hm, e.trans l1.symm⟩
      have hCb := con_Closed m ⟨c, mod, vals⟩ 0 v0 hP hFb
      rw [er] at hCb
      obtain ⟨z, hz⟩ : ∃ z : Int, z = if valuesB mod vals = true then closedF rules 0 v0 ⟨c, mod, vals⟩ else 44 := ⟨_, rfl⟩
      rw [← hz] at hCb
      simp only [go_sem, h]
      refine CallU.freeze hCb (by simp only [go_sem]) (by simp only [go_sem, vM, cM, vss]) ?_
      rintro r b rfl
      by_cases hz0 : z = 0
      · have hv : valuesB mod vals = true := by
          cases hv : valuesB mod vals
          · rw [hv, hz0] at hz; cases hz
          · rfl
        rw [hv, if_pos rfl, hz0] at hz
        have hcb := hz.symm
        obtain ⟨w, hw⟩ := found_some (b := ⟨c, mod, vals⟩) hd hcl h4 e hm hcb
        rw [hpo] at hw; cases hw
      · have hzn : (z != 0) = true := bne_iff_ne.2 hz0
        simp only [go_sem, hzn]
  | some w =>
    obtain ⟨hw1, hw2, hw3⟩ := found_closed hd hcl h4 hm hpo
    rw [hpo] at hPot
    have hFa : FormA m ⟨c, mod, w⟩ := ⟨hcl.trans l2.symm, h4, hm, hw1.trans l1.symm⟩
    have hCa := con_Closed m ⟨c, mod, w⟩ 0 v0 hP hFa
    rw [er, hw3, hw2] at hCa
    refine CallU.freeze hPot (by simp only [go_sem]) (by simp only [go_sem, vM, cM, vss]) ?_
    rintro r b rfl
    simp only [go_sem, potV]
    refine CallU.freeze hCa (by simp only [go_sem]) (by simp only [go_sem, vM, cM, vss]) ?_
    rintro r b rfl
    simp only [go_sem, if_true, List.length_map, l1]
    refine LoopK.intro (fun p : List Int × Nat => ⟨120, [(2, vb false), (3, .pb 0 0), (4, .pb 1 0), (5, vs 0 c), (6, vi mod), (7, .pb 2 0), (8, vb true), (9, vi 0), (10, .pb 3 0), (60, vi ns), (61, vi p.1.length)], [diceA l p.2, cM m, [vs 0 c, vi mod, vs 0 w], [vs 0 c, vi mod, vs 4416 p.1]]⟩)
      (fun p => ns - p.1.length) (fun p => p.1.length ≤ ns ∧ p.2 ≤ l.length) ([], at3) ⟨by simp, hp4⟩ ?_ ?_
    · simp only [go_sem, List.length_nil, List.map_nil, cM, vss]
    rintro ⟨vals, at4⟩ ⟨k1, k2⟩
    simp only at k1 k2
    by_cases h : vals.length < ns
    · have hw : IntKind.i64.wrap (vals.length + 1) = vals.length + 1 := wrap_in (by omega) (by omega)
      simp only [go_sem, h, cM, vss]
      refine DrawK.effs0 0 [3] [] 5 (.one 5 (.one 6 (.one 7 .done))) none (diceA l at4) mixed (by kernel_rfl) (by kernel_rfl) (by simp only [go_sem]) (by simp only [go_sem]) ?_
      simp only [go_sem]
      refine EffK.mk (con_pickF l at4 4 hs k2 (by omega)) (by simp only [go_sem]) (by simp only [go_sem]) (by simp only [go_sem]) (by simp only [go_sem]) ?_
      have hr : roomFor (vals.length + 1) 8 := by unfold roomFor; omega
      have k3 := pickA_le k2
      have q4 := pickV_lt (l := l) (at_ := at4) (show (1 : Int) ≤ 4 by omega)
      generalize pickV l at4 4 = x at q4
      simp only [go_sem, hr]
      refine ⟨?_, trivial⟩
      by_cases h0 : (0 : Int) < mod
      · have hne : ¬ mod = 0 := by omega
        have w6 : IntKind.i64.wrap ((vals.length : Int) + 1 - 1) = vals.length := by rw [wrap_in (by omega) (by omega)]; omega
        have hmb := Int.emod_lt_of_pos x h0
        have hmn := Int.emod_nonneg x hne
        have hte : Int.tmod x mod = x % mod := Int.tmod_eq_emod_of_nonneg q4.1
        have hm8 : mod ≤ 8 := by unfold ModOk at hm; omega
        have w7 : IntKind.i64.wrap (x % mod) = x % mod := wrap_in (by omega) (by omega)
        have hla := last_at (vals := vals) (x := x)
        have hlm := last_modify (vals := vals) (x := x) (y := x % mod)
        have hll := last_len (vals := vals) (x := x)
        simp only [go_sem, h0, hll, w6]
        refine ⟨by omega, ?_⟩
        simp only [go_sem, hla, hlm, hne, hte, w6, hll, hw]
        refine ⟨by omega, roundK.intro (vals ++ [x % mod], pickA l at4) ⟨by simp; omega, k3⟩ (by simp; omega) ?_⟩
        simp only [go_sem, List.map_append, List.length_append, List.map_cons, List.map_nil, List.length_cons, List.length_nil]
      · simp only [go_sem, h0, hw]
        refine roundK.intro (vals ++ [x], pickA l at4) ⟨by simp; omega, k3⟩ (by simp; omega) ?_
        simp only [go_sem, List.map_append, List.length_append, List.map_cons, List.map_nil, List.length_cons, List.length_nil]
    · have e : vals.length = ns := by omega
      have hFb : FormA m ⟨c, mod, vals⟩ := ⟨hcl.trans l2.symm, h4, hm, e.trans l1.symm⟩
      have hCb := con_Closed m ⟨c, mod, vals⟩ 0 v0 hP hFb
      rw [er] at hCb
      obtain ⟨z, hz⟩ : ∃ z : Int, z = if valuesB mod vals = true then closedF rules 0 v0 ⟨c, mod, vals⟩ else 44 := ⟨_, rfl⟩
      rw [← hz] at hCb
      simp only [go_sem, h]
      refine CallU.freeze hCb (by simp only [go_sem]) (by simp only [go_sem, vM, cM, vss]) ?_
      rintro r b rfl
      by_cases hz0 : z = 0
      · have hv : valuesB mod vals = true := by
          cases hv : valuesB mod vals
          · rw [hv, hz0] at hz; cases hz
          · rfl
        rw [hv, if_pos rfl, hz0] at hz
        have hcb := hz.symm
        subst hz0
        simp only [go_sem]
        have hCf := con_ConfigC l at4 m hs k2 ek (by rw [l1]; omega) (by rw [l2]; omega)
        rw [l1, l2] at hCf
        obtain ⟨S, hS, hSl⟩ : ∃ S : Nat, S = rollS l at4 ns ∧ S < ns := ⟨_, rfl, (rollS_lt hns.1).1⟩
        obtain ⟨v, hv1, hv2, hv3⟩ : ∃ v : List Int, v = rollV l (pickA l at4) 3 np ∧ v.length = np ∧ ∀ x ∈ v, 0 ≤ x ∧ x ≤ 1048576 := ⟨_, rfl, rollV_len np, fun x hx => by have := rollV_low (show (0 : Int) ≤ 3 by omega) np x hx; omega⟩
        rw [← hS, ← hv1] at hCf
        have hGc : GoodC m S v := ⟨by rw [l1]; exact hSl, hv2.trans l2.symm, hv3⟩
        have hHa := con_Holds m ⟨c, mod, w⟩ 0 v0 S v hP hFa hGc
        have hHb := con_Holds m ⟨c, mod, vals⟩ 0 v0 S v hP hFb hGc
        have himp := found_strongest (b := ⟨c, mod, vals⟩) hd hcl e hm hcb hpo S v
        unfold acheckF at hHa hHb
        rw [hw2] at hHa
        rw [hv] at hHb
        refine CallU.boxes (i := 0) (is := []) (bx0 := [diceA l at4]) hCf (by simp only [go_sem]) (by simp only [go_sem]) (by simp only [go_sem]) (by simp only [go_sem]) (by simp only [go_sem]) ?_
        rintro r b ⟨rfl, rfl⟩
        have e0 := vV_eq (cfgC S v)
        simp only [go_sem, e0]
        refine CallU.freeze hHa (by simp only [go_sem]) (by simp only [go_sem, vM, cM, vss, e0]) ?_
        rintro r b rfl
        simp only [go_sem]
        refine CallU.freeze hHb (by simp only [go_sem]) (by simp only [go_sem, vM, cM, vss, e0]) ?_
        rintro r b rfl
        cases hA : holdsF ⟨c, mod, w⟩ S v
        · cases hB : holdsF ⟨c, mod, vals⟩ S v
          all_goals simp only [go_sem, Bool.true_and, if_true]
        · rw [himp hA]
          simp only [go_sem, Bool.true_and, if_true]
      · have hzn : (z != 0) = true := bne_iff_ne.2 hz0
        simp only [go_sem, hzn]
end Go.AM

/-! ## CrI -/
namespace Go.AM
open Go Go.Proofs Go.RowKit

set_option maxRecDepth 100000 in
theorem con_rcandidateBad (k n : Nat) (h1 : 1 ≤ k) (h2 : k ≤ 6) (hn : 8 * 3 ^ k ≤ n) : Con Tryz.prog 61 [vi k, vi n] [] fun r _ => r = .tup [.nil, vi 0, vb false] := by
  refine Con.intro Tryz.func61 rfl Tryz.ntmps61 Tryz.results61 (by kernel_rfl) (by simp) 0 (by simp) ?_
  have a1 : ¬ ((n : Int) < 0) := by omega
  have a2 : ((8 * 3 ^ k : Nat) : Int) ≤ (n : Int) := Int.ofNat_le.2 hn
  simp only [go_sem, a1]
  refine CallU.free (con_rcandidates k h1 h2) (by simp only [go_sem]) (by simp only [go_sem]) ?_
  rintro r bx rfl
  simp only [go_sem, a2]
set_option maxRecDepth 100000 in
theorem con_rPotentialBad (m : MD) (v0 : List Int) (h : PlainM m 0 v0) : Con Tryz.prog 58 [vM m, .nil, vi 0] [] fun x _ => x = .tup [noA, vb false, vi 3] := by
  refine Con.intro Tryz.func58 rfl Tryz.ntmps58 Tryz.results58 (by kernel_rfl) (by simp) 0 (by simp) ?_
  have h2 := h.good.places
  have c1 : ((0 : Int) != (m.places.length : Int)) = true := bne_iff_ne.2 (by omega)
  simp only [go_sem, vM, cM, vss]
  refine CallU.free (con_rplain m h.good h.still) (by simp only [go_sem]) (by simp only [go_sem, vM, cM, vss]) ?_
  rintro r bx rfl
  simp only [go_sem, List.length_map, c1]
def atomTree : Tr := .one 5 (.one 6 (.alt (.one 7 (.alt (.one 8 (.alt (.one 9 (.one 10 (.one 11 (.one 12 .done)))) (.one 10 (.alt (.one 9 (.one 11 (.one 12 .done))) (.one 11 (.one 9 (.one 12 .done))))))) (.alt (.one 9 (.alt (.one 8 (.one 10 (.one 11 (.one 12 .done)))) (.one 10 (.one 8 (.one 11 (.one 12 .done)))))) (.one 10 (.alt (.one 8 (.alt (.one 9 (.one 11 (.one 12 .done))) (.one 11 (.one 9 (.one 12 .done))))) (.one 9 (.one 8 (.one 11 (.one 12 .done))))))))) (.alt (.one 8 (.alt (.one 7 (.alt (.one 9 (.one 10 (.one 11 (.one 12 .done)))) (.one 10 (.alt (.one 9 (.one 11 (.one 12 .done))) (.one 11 (.one 9 (.one 12 .done))))))) (.one 9 (.one 7 (.one 10 (.one 11 (.one 12 .done))))))) (.one 9 (.alt (.one 7 (.alt (.one 8 (.one 10 (.one 11 (.one 12 .done)))) (.one 10 (.one 8 (.one 11 (.one 12 .done)))))) (.one 8 (.one 7 (.one 10 (.one 11 (.one 12 .done))))))))))
/-- an atom that is not one: no coefficients -/
def badA (a : AtomD) : Prop := a.coefs = [] ∧ a.mod = 0
theorem digs_small (k c : Nat) : SmallI 4 (digs k c) := fun x hx => by
  obtain ⟨i, hi, e⟩ := List.getElem_of_mem hx
  rw [digs_len] at hi
  have h2 := digs_at k c i hi
  rw [getElem!_pos _ i (by rw [digs_len]; exact hi), e] at h2
  omega
theorem candMod_ok {k n : Nat} (hn : n < 8 * 3 ^ k) : ModOk (candMod k n) := by
  have hpos : 0 < 3 ^ k := Nat.pow_pos (by decide)
  have hlt : n / 3 ^ k < 8 := (Nat.div_lt_iff_lt_mul hpos).2 hn
  unfold candMod ModOk
  split
  · left; rfl
  · rename_i h0
    right
    have := Nat.pos_of_ne_zero h0
    generalize n / 3 ^ k = y at *
    omega
theorem in_set {B y : Int} {v : List Int} {X : Nat} (h : InB B v) (hX : X < v.length) (h1 : -B ≤ y) (h2 : y ≤ B) : InB B (v.set X y) := fun s => by
  rw [set_bang hX]
  split
  · exact .inr ⟨h1, h2⟩
  · exact h s
theorem in_zero (n : Nat) : InB 10000000000 (List.replicate n (0 : Int)) := fun s => by
  have : (List.replicate n (0 : Int))[s]! = 0 := by
    by_cases hs : s < n
    · rw [getElem!_pos _ s (by simpa using hs)]; simp
    · rw [getElem!_neg _ s (by simpa using hs)]; rfl
  rw [this]; right; omega
theorem pot_in10 {m : MD} {v0 c w : List Int} {mod : Int} (h : PlainM m 0 v0) (hc : c.length = m.places.length) (h4 : SmallI 4 c) (hm : ModOk mod) (hp : potR mod c m.rules m.states.length v0 = some w) : InB 10000000000 w := by
  have h1 := h.good.states
  have h2 := h.good.places
  have h3 := h.good.few
  have hsum := sum_small h4 h.conf.small
  have hR : RulesIn m.states.length m.rules := fun r hr => by have := (h.fine r hr).right; unfold RightR at this; omega
  have hE : ∀ r ∈ m.rules, -50331648 ≤ effectF c r ∧ effectF c r ≤ 50331648 := fun r hr => effect_small (h.fine r hr) (by omega) h4
  unfold potR at hp
  have hb := pot_bnd (by omega) hR hE (begin_len mod m.states.length (sumF c v0)) (show mod ≤ 25165824 by unfold ModOk at hm; omega) (begin_bnd (by omega) hm ⟨by omega, by omega⟩) hp
  refine hb.2.mono ?_
  have h5 : ((m.states.length + 1 : Nat) : Int) * (m.rules.length * 50331648) ≤ 9 * (12 * 50331648) := Int.mul_le_mul (by omega) (by omega) (by omega) (by omega)
  omega
theorem pot_len {mod : Int} {c : List Int} {rules : List RD} {ns : Nat} {v0 w : List Int} (h : potR mod c rules ns v0 = some w) : w.length = ns :=
  pot_inv (P := fun v => v.length = ns) (fun r _ v hv => by rw [flow_len]; exact hv) (begin_len _ _ _) h
set_option maxRecDepth 100000 in
set_option maxHeartbeats 4000000 in
theorem con_atom (l : List Int) (at_ : Nat) (m : MD) (v0 : List Int) (hs : Seeds l) (ha : at_ ≤ l.length) (h : PlainM m 0 v0) :
    Con Tryz.prog 32 [.pb 0 0, vM m] [diceA l at_] fun r b => ∃ (a : AtomD) (at' : Nat), (FormA m a ∧ InB 10000000000 a.values ∨ badA a) ∧ at' ≤ l.length ∧ b = [diceA l at'] ∧ leV (r.freeze fun _ => true) (vAtom a) := by
  refine Con.intro Tryz.func32 rfl Tryz.ntmps32 Tryz.results32 (by kernel_rfl) (by simp) 1 (by simp) ?_
  have h1 := h.good.states
  have h2 := h.good.places
  have q1 := pickV_lt (l := l) (at_ := at_) (show (1 : Int) ≤ 72 by omega)
  obtain ⟨n, en, hn⟩ : ∃ n : Nat, pickV l at_ 72 = n ∧ n < 72 := ⟨(pickV l at_ 72).toNat, by omega, by omega⟩
  have hp1 := pickA_le ha
  unfold vM cM
  simp only [go_sem, vss]
  obtain ⟨cv, cm, cb, hcand, hcase⟩ : ∃ (cv : AV) (cm : Int) (cb : Bool), Con Tryz.prog 61 [vi m.places.length, vi n] [] (fun r _ => r = .tup [cv, vi cm, vb cb]) ∧ ((∃ c, cv = vs 0 c ∧ c.length = m.places.length ∧ SmallI 4 c ∧ ModOk cm) ∨ (cv = .nil ∧ cm = 0)) := by
    by_cases hlt : n < 8 * 3 ^ m.places.length
    · refine ⟨vs 0 (digs m.places.length (n % 3 ^ m.places.length)), candMod m.places.length n, true, ?_, .inl ⟨_, rfl, digs_len .., digs_small _ _, candMod_ok hlt⟩⟩
      exact ((con_rcandidate m.places.length n h2.1 h2.2 hlt).freezeB fun _ => true).mono fun r b ⟨r1, b1, e1, e2, e3⟩ => by
        subst e1; subst e2; rfl
    · exact ⟨.nil, 0, false, con_rcandidateBad m.places.length n h2.1 h2.2 (by omega), .inr ⟨rfl, rfl⟩⟩
  refine DrawK.meet ⟨64, [(0, .pb 0 0), (3, .pb 1 0), (4, .pb 2 0), (5, cv), (6, vi cm)], [diceA l (pickA l at_), cM m, [.any, .any, .any]]⟩ ?_ ?_
  · refine DrawK.effs0 0 [4] [] 5 atomTree none (diceA l at_) mixed (by kernel_rfl) (by kernel_rfl) (by simp only [go_sem]) (by simp only [go_sem]) ?_
    simp only [go_sem, List.length_map]
    refine EffK.mk (con_pickF l at_ 72 hs ha (by omega)) (by simp only [go_sem]) (by simp only [go_sem]) (by simp only [go_sem]) (by simp only [go_sem]) ?_
    rw [en]
    rcases hcase with ⟨c, rfl, hc1, hc2, hc3⟩ | ⟨rfl, rfl⟩
    all_goals
      unfold atomTree
      simp only [go_sem]
      refine ⟨CallU.free hcand (by simp only [go_sem]) (by simp only [go_sem]) ?_, trivial⟩
      rintro r bx rfl
      repeat' (first | with_reducible apply andK_mk | simp only [go_sem])
  · obtain ⟨at2, hat2⟩ : ∃ x, x = pickA l (pickA l at_) := ⟨_, rfl⟩
    have hp2 := pickA_le hp1
    rw [← hat2] at hp2
    generalize hat1 : pickA l at_ = at1 at hp1 hat2
    have hrep : List.replicate m.states.length (AV.sc (.int .i64 0)) = (List.replicate m.states.length (0 : Int)).map vi := by rw [List.map_replicate]; rfl
    rcases hcase with ⟨c, rfl, hc1, hc2, hc3⟩ | ⟨rfl, rfl⟩
    · have hPot := (con_rPotential m c cm v0 h hc1 hc2 hc3).freezeB fun _ => true
      have hPot2 : Con Tryz.prog 58 [vM m, vs 0 c, vi cm] [] fun x _ => x = (match potR cm c m.rules m.states.length v0 with
        | some w => .tup [.ag [vs 0 c, vi cm, vs 0 w], vb true, vi 0]
        | none => .tup [noA, vb false, vi 0]) := hPot.mono fun r b ⟨r1, b1, e1, e2, e3⟩ => by
          subst e1; subst e2
          cases potR cm c m.rules m.states.length v0 <;> rfl
      simp only [go_sem, cM, vss]
      refine CallU.free hPot2 (by simp only [go_sem]) (by simp only [go_sem, vM, cM, vss]) ?_
      rintro r bx rfl
      cases hpo : potR cm c m.rules m.states.length v0 with
      | some w =>
        simp only [go_sem]
        subst hat2
        have hvl : (w).length = m.states.length := pot_len hpo
        have hvp : (0 : Int) < ((w).length : Int) := by omega
        have hvb : InB 10000000000 (w) := pot_in10 h hc1 hc2 hc3 hpo
        have hrm : roomFor (0 + (w).length) 8 := by simp only [roomFor]; omega
        generalize (w) = vals at hvl hvp hrm hvb
        refine CallU.boxes (i := 0) (is := []) (bx0 := [diceA l at1]) (con_pickF l at1 3 hs hp1 (by omega)) (by simp only [go_sem]) (by simp only [go_sem]) (by simp only [go_sem]) (by simp only [go_sem]) (by simp only [go_sem]) ?_
        rintro r b ⟨rfl, rfl⟩
        by_cases hz : pickV l at1 3 = 0
        · have hz' : (pickV l at1 3 == 0) = true := beq_iff_eq.2 hz
          simp only [go_sem, hz', hvp, hrm, List.length_map]
          refine DrawK.effs0 0 [6, 8] [] 10 (.one 10 (.one 11 .done)) none (diceA l (pickA l at1)) mixed (by kernel_rfl) (by kernel_rfl) (by simp only [go_sem]) (by simp only [go_sem]) ?_
          simp only [go_sem, List.length_map]
          refine EffK.mk (con_pickF l (pickA l at1) vals.length hs hp2 (by omega)) (by simp only [go_sem]) (by simp only [go_sem]) (by simp only [go_sem]) (by simp only [go_sem]) ?_
          have q3 := pickV_lt (l := l) (at_ := (pickA l at1)) (n := (vals.length : Int)) (by omega)
          obtain ⟨X, eX, hX⟩ : ∃ X : Nat, pickV l (pickA l at1) vals.length = X ∧ X < vals.length := ⟨(pickV l (pickA l at1) vals.length).toNat, by omega, by omega⟩
          rw [eX]
          simp only [go_sem]
          refine EffK.mk (con_pickF l (pickA l (pickA l at1)) 4 hs (pickA_le hp2) (by omega)) (by simp only [go_sem]) (by simp only [go_sem]) (by simp only [go_sem]) (by simp only [go_sem]) ?_
          have q4 := pickV_lt (l := l) (at_ := pickA l (pickA l at1)) (show (1 : Int) ≤ 4 by omega)
          have w4 : IntKind.i64.wrap (pickV l (pickA l (pickA l at1)) 4 - 1) = pickV l (pickA l (pickA l at1)) 4 - 1 := wrap_in (by omega) (by omega)
          have hset : (List.map vi vals).modify X (updElem 0 [AV.sc (.int .i64 (pickV l (pickA l (pickA l at1)) 4 - 1))]) = (vals.set X (pickV l (pickA l (pickA l at1)) 4 - 1)).map vi := modify_vi
          have hsb : InB 10000000000 (vals.set X (pickV l (pickA l (pickA l at1)) 4 - 1)) := in_set hvb hX (by omega) (by omega)
          simp only [go_sem, w4, hX, hset, List.length_map]
          exact ⟨⟨⟨c, cm, vals.set X (pickV l (pickA l (pickA l at1)) 4 - 1)⟩, pickA l (pickA l (pickA l at1)), .inl ⟨⟨hc1, hc2, hc3, by show (vals.set _ _).length = _; rw [List.length_set]; exact hvl⟩, hsb⟩, pickA_le (pickA_le hp2), rfl, leV_refl _⟩, trivial⟩
        · have hz' : (pickV l at1 3 == 0) = false := beq_eq_false_iff_ne.2 hz
          simp only [go_sem, hz']
          exact ⟨⟨c, cm, vals⟩, (pickA l at1), .inl ⟨⟨hc1, hc2, hc3, hvl⟩, hvb⟩, hp2, rfl, leV_refl _⟩
      | none =>
        simp only [go_sem, List.length_map]
        subst hat2
        refine ⟨Nat.le_refl _, by omega, by omega, ?_⟩
        rw [hrep]
        have hvl : (List.replicate m.states.length (0 : Int)).length = m.states.length := List.length_replicate
        have hvp : (0 : Int) < ((List.replicate m.states.length (0 : Int)).length : Int) := by omega
        have hvb : InB 10000000000 (List.replicate m.states.length (0 : Int)) := in_zero _
        have hrm : roomFor (0 + (List.replicate m.states.length (0 : Int)).length) 8 := by simp only [roomFor]; omega
        generalize (List.replicate m.states.length (0 : Int)) = vals at hvl hvp hrm hvb
        refine CallU.boxes (i := 0) (is := []) (bx0 := [diceA l at1]) (con_pickF l at1 3 hs hp1 (by omega)) (by simp only [go_sem]) (by simp only [go_sem]) (by simp only [go_sem]) (by simp only [go_sem]) (by simp only [go_sem]) ?_
        rintro r b ⟨rfl, rfl⟩
        by_cases hz : pickV l at1 3 = 0
        · have hz' : (pickV l at1 3 == 0) = true := beq_iff_eq.2 hz
          simp only [go_sem, hz', hvp, hrm, List.length_map]
          refine DrawK.effs0 0 [6, 8] [] 10 (.one 10 (.one 11 .done)) none (diceA l (pickA l at1)) mixed (by kernel_rfl) (by kernel_rfl) (by simp only [go_sem]) (by simp only [go_sem]) ?_
          simp only [go_sem, List.length_map]
          refine EffK.mk (con_pickF l (pickA l at1) vals.length hs hp2 (by omega)) (by simp only [go_sem]) (by simp only [go_sem]) (by simp only [go_sem]) (by simp only [go_sem]) ?_
          have q3 := pickV_lt (l := l) (at_ := (pickA l at1)) (n := (vals.length : Int)) (by omega)
          obtain ⟨X, eX, hX⟩ : ∃ X : Nat, pickV l (pickA l at1) vals.length = X ∧ X < vals.length := ⟨(pickV l (pickA l at1) vals.length).toNat, by omega, by omega⟩
          rw [eX]
          simp only [go_sem]
          refine EffK.mk (con_pickF l (pickA l (pickA l at1)) 4 hs (pickA_le hp2) (by omega)) (by simp only [go_sem]) (by simp only [go_sem]) (by simp only [go_sem]) (by simp only [go_sem]) ?_
          have q4 := pickV_lt (l := l) (at_ := pickA l (pickA l at1)) (show (1 : Int) ≤ 4 by omega)
          have w4 : IntKind.i64.wrap (pickV l (pickA l (pickA l at1)) 4 - 1) = pickV l (pickA l (pickA l at1)) 4 - 1 := wrap_in (by omega) (by omega)
          have hset : (List.map vi vals).modify X (updElem 0 [AV.sc (.int .i64 (pickV l (pickA l (pickA l at1)) 4 - 1))]) = (vals.set X (pickV l (pickA l (pickA l at1)) 4 - 1)).map vi := modify_vi
          have hsb : InB 10000000000 (vals.set X (pickV l (pickA l (pickA l at1)) 4 - 1)) := in_set hvb hX (by omega) (by omega)
          simp only [go_sem, w4, hX, hset, List.length_map]
          exact ⟨⟨⟨c, cm, vals.set X (pickV l (pickA l (pickA l at1)) 4 - 1)⟩, pickA l (pickA l (pickA l at1)), .inl ⟨⟨hc1, hc2, hc3, by show (vals.set _ _).length = _; rw [List.length_set]; exact hvl⟩, hsb⟩, pickA_le (pickA_le hp2), rfl, leV_refl _⟩, trivial⟩
        · have hz' : (pickV l at1 3 == 0) = false := beq_eq_false_iff_ne.2 hz
          simp only [go_sem, hz']
          exact ⟨⟨c, cm, vals⟩, (pickA l at1), .inl ⟨⟨hc1, hc2, hc3, hvl⟩, hvb⟩, hp2, rfl, leV_refl _⟩
    · simp only [go_sem, cM, vss]
      refine CallU.free (con_rPotentialBad m v0 h) (by simp only [go_sem]) (by simp only [go_sem, vM, cM, vss]) ?_
      rintro r bx rfl
      simp only [go_sem, List.length_map]
      subst hat2
      refine ⟨Nat.le_refl _, by omega, by omega, ?_⟩
      rw [hrep]
      have hvl : (List.replicate m.states.length (0 : Int)).length = m.states.length := List.length_replicate
      have hvp : (0 : Int) < ((List.replicate m.states.length (0 : Int)).length : Int) := by omega
      have hvb : InB 10000000000 (List.replicate m.states.length (0 : Int)) := in_zero _
      have hrm : roomFor (0 + (List.replicate m.states.length (0 : Int)).length) 8 := by simp only [roomFor]; omega
      generalize (List.replicate m.states.length (0 : Int)) = vals at hvl hvp hrm hvb
      refine CallU.boxes (i := 0) (is := []) (bx0 := [diceA l at1]) (con_pickF l at1 3 hs hp1 (by omega)) (by simp only [go_sem]) (by simp only [go_sem]) (by simp only [go_sem]) (by simp only [go_sem]) (by simp only [go_sem]) ?_
      rintro r b ⟨rfl, rfl⟩
      by_cases hz : pickV l at1 3 = 0
      · have hz' : (pickV l at1 3 == 0) = true := beq_iff_eq.2 hz
        simp only [go_sem, hz', hvp, hrm, List.length_map]
        refine DrawK.effs0 0 [6, 8] [] 10 (.one 10 (.one 11 .done)) none (diceA l (pickA l at1)) mixed (by kernel_rfl) (by kernel_rfl) (by simp only [go_sem]) (by simp only [go_sem]) ?_
        simp only [go_sem, List.length_map]
        refine EffK.mk (con_pickF l (pickA l at1) vals.length hs hp2 (by omega)) (by simp only [go_sem]) (by simp only [go_sem]) (by simp only [go_sem]) (by simp only [go_sem]) ?_
        have q3 := pickV_lt (l := l) (at_ := (pickA l at1)) (n := (vals.length : Int)) (by omega)
        obtain ⟨X, eX, hX⟩ : ∃ X : Nat, pickV l (pickA l at1) vals.length = X ∧ X < vals.length := ⟨(pickV l (pickA l at1) vals.length).toNat, by omega, by omega⟩
        rw [eX]
        simp only [go_sem]
        refine EffK.mk (con_pickF l (pickA l (pickA l at1)) 4 hs (pickA_le hp2) (by omega)) (by simp only [go_sem]) (by simp only [go_sem]) (by simp only [go_sem]) (by simp only [go_sem]) ?_
        have q4 := pickV_lt (l := l) (at_ := pickA l (pickA l at1)) (show (1 : Int) ≤ 4 by omega)
        have w4 : IntKind.i64.wrap (pickV l (pickA l (pickA l at1)) 4 - 1) = pickV l (pickA l (pickA l at1)) 4 - 1 := wrap_in (by omega) (by omega)
        have hset : (List.map vi vals).modify X (updElem 0 [AV.sc (.int .i64 (pickV l (pickA l (pickA l at1)) 4 - 1))]) = (vals.set X (pickV l (pickA l (pickA l at1)) 4 - 1)).map vi := modify_vi
        have hsb : InB 10000000000 (vals.set X (pickV l (pickA l (pickA l at1)) 4 - 1)) := in_set hvb hX (by omega) (by omega)
        simp only [go_sem, w4, hX, hset, List.length_map]
        exact ⟨⟨⟨[], 0, vals.set X (pickV l (pickA l (pickA l at1)) 4 - 1)⟩, pickA l (pickA l (pickA l at1)), .inr ⟨rfl, rfl⟩, pickA_le (pickA_le hp2), rfl, leV_ag ⟨leV_nil 0 1, leV_refl _, leV_refl _, trivial⟩⟩, trivial⟩
      · have hz' : (pickV l at1 3 == 0) = false := beq_eq_false_iff_ne.2 hz
        simp only [go_sem, hz']
        exact ⟨⟨[], 0, vals⟩, (pickA l at1), .inr ⟨rfl, rfl⟩, hp2, rfl, leV_ag ⟨leV_nil 0 1, leV_refl _, leV_refl _, trivial⟩⟩
/-- an atom of the laws, never written again -/
theorem con_Atom (l : List Int) (at_ : Nat) (m : MD) (v0 : List Int) (hs : Seeds l) (ha : at_ ≤ l.length) (h : PlainM m 0 v0) :
    Con Tryz.prog 32 [.pb 0 0, vM m] [diceA l at_] fun r b => ∃ (a : AtomD) (at' : Nat), (FormA m a ∧ InB 10000000000 a.values ∨ badA a) ∧ at' ≤ l.length ∧ b = [diceA l at'] ∧ r = vAtom a :=
  ((con_atom l at_ m v0 hs ha h).freezeB fun _ => true).weak fun r b ⟨r1, b1, ⟨a, at1, h1, h2, h3, h4⟩, h5, h6⟩ => by
    subst h3; subst h5; subst h6
    exact ⟨_, ⟨a, at1, h1, h2, rfl, rfl⟩, h4⟩
set_option maxRecDepth 100000 in
theorem con_acheckBad (m : MD) (a : AtomD) (h : GoodM m) (hs : m.rules.all stillB = true) (ha : badA a) : Con Tryz.prog 53 [vM m, vAtom a] [] fun r _ => r = vi 44 := by
  refine Con.intro Tryz.func53 rfl Tryz.ntmps53 Tryz.results53 (by kernel_rfl) (by simp) 2 (by simp) ?_
  have h2 := h.places
  have c1 : ((0 : Int) != (m.places.length : Int)) = true := bne_iff_ne.2 (by omega)
  simp only [go_sem]
  refine CallU.free (con_counts m h hs) (by simp only [go_sem]) (by simp only [go_sem]) ?_
  rintro r bx rfl
  simp only [go_sem, ha.1, List.map_nil, List.length_nil, c1]
set_option maxRecDepth 100000 in
theorem con_ClosedBad (m : MD) (a : AtomD) (h : GoodM m) (hs : m.rules.all stillB = true) (ha : badA a) : Con Tryz.prog 33 [vM m, vAtom a] [] fun r _ => r = vi 44 := by
  refine Con.intro Tryz.func33 rfl Tryz.ntmps33 Tryz.results33 (by kernel_rfl) (by simp) 2 (by simp) ?_
  simp only [go_sem]
  refine CallU.free (con_acheckBad m a h hs ha) (by simp only [go_sem]) (by simp only [go_sem]) ?_
  rintro r bx rfl
  simp only [go_sem]
end Go.AM

/-! ## CrJ -/
namespace Go.AM
open Go Go.Proofs Go.RowKit

/-! ### values less by one number -/
def lessF (k x : Int) : Int := if x = omegaI then omegaI else x - k
theorem less_at {k : Int} {l : List Int} {s : Nat} (h : s < l.length) : (l.map (lessF k))[s]! = lessF k l[s]! := by
  rw [getElem!_pos _ s (by simpa using h), getElem!_pos l s h, List.getElem_map]
theorem less_omega {k x : Int} (hk : 0 ≤ k) (hx : x = omegaI ∨ x ≤ 10000000000) : lessF k x = omegaI ↔ x = omegaI := by
  unfold lessF omegaI at *
  split
  · rename_i h; simp [h]
  · rename_i h; constructor
    · intro e; omega
    · intro e; exact absurd e h
theorem less_follows {a : AtomD} {k n : Int} {s : Nat} (hk : 0 ≤ k) (hm : a.mod = 0) (hb : InB 10000000000 a.values) (hs : s < a.values.length) (h : followsF a n s = true) : followsF ⟨a.coefs, 0, a.values.map (lessF k)⟩ n s = true := by
  unfold followsF at *
  show (if (a.values.map (lessF k))[s]! = omegaI then false else if (0 : Int) = 0 then decide ((a.values.map (lessF k))[s]! ≤ n) else _) = true
  rw [less_at hs]
  by_cases ho : a.values[s]! = omegaI
  · rw [if_pos ho] at h; cases h
  · rw [if_neg ho, if_pos hm, decide_eq_true_eq] at h
    have h1 := (hb s).resolve_left ho
    rw [if_neg (fun e => ho ((less_omega hk (.inr h1.2)).1 e)), if_pos rfl, decide_eq_true_eq]
    unfold lessF
    rw [if_neg ho]; omega
theorem less_keeps {a : AtomD} {k : Int} {r : RD} (hk : 0 ≤ k) (hm : a.mod = 0) (hb : InB 10000000000 a.values) (h1 : r.src.toNat < a.values.length) (h2 : r.dst.toNat < a.values.length) (h : keepsF a r = true) : keepsF ⟨a.coefs, 0, a.values.map (lessF k)⟩ r = true := by
  unfold keepsF at *
  show ((a.values.map (lessF k))[r.src.toNat]! == omegaI || followsF _ ((a.values.map (lessF k))[r.src.toNat]! + effectF a.coefs r) r.dst.toNat) = true
  rw [less_at h1]
  rw [Bool.or_eq_true] at *
  by_cases hp : a.values[r.src.toNat]! = omegaI
  · left; unfold lessF; rw [if_pos hp]; simp
  · right
    have h := h.resolve_left (by rw [beq_iff_eq]; exact hp)
    unfold followsF at *
    show (if (a.values.map (lessF k))[r.dst.toNat]! = omegaI then false else if (0 : Int) = 0 then decide ((a.values.map (lessF k))[r.dst.toNat]! ≤ _) else _) = true
    rw [less_at h2]
    by_cases ho : a.values[r.dst.toNat]! = omegaI
    · rw [if_pos ho] at h; cases h
    · rw [if_neg ho, if_pos hm, decide_eq_true_eq] at h
      have h1 := (hb r.dst.toNat).resolve_left ho
      rw [if_neg (fun e => ho ((less_omega hk (.inr h1.2)).1 e)), if_pos rfl, decide_eq_true_eq]
      unfold lessF
      rw [if_neg ho, if_neg hp]; omega
theorem less_values {k : Int} {l : List Int} (hk : 0 ≤ k ∧ k ≤ 255) (hb : InB 10000000000 l) : valuesB 0 (l.map (lessF k)) = true := by
  refine values_zero fun s => ?_
  by_cases hs : s < l.length
  · rw [less_at hs]
    unfold lessF
    split
    · exact .inl rfl
    · rename_i ho
      have := (hb s).resolve_left ho
      right; omega
  · rw [getElem!_neg _ s (by simpa using hs)]
    right
    show -1099511627775 ≤ (0 : Int) ∧ (0 : Int) ≤ 1099511627775
    omega
theorem less_closed {a : AtomD} {k : Int} {rules : List RD} {v0 : List Int} (hk : 0 ≤ k) (hm : a.mod = 0) (hb : InB 10000000000 a.values) (hs : 0 < a.values.length) (hr : ∀ r ∈ rules, r.src.toNat < a.values.length ∧ r.dst.toNat < a.values.length) (h : closedF rules 0 v0 a = 0) : closedF rules 0 v0 ⟨a.coefs, 0, a.values.map (lessF k)⟩ = 0 := by
  obtain ⟨h1, h2⟩ := closed_zero h
  unfold closedF
  rw [if_pos (show holdsF ⟨a.coefs, 0, a.values.map (lessF k)⟩ 0 v0 = true from less_follows hk hm hb hs h1)]
  rw [if_pos (List.all_eq_true.2 fun r hx => less_keeps hk hm hb (hr r hx).1 (hr r hx).2 (h2 r hx))]
end Go.AM

/-! ## CrQ -/
namespace Go.AM
open Go Go.Proofs Go.RowKit

theorem run_holds {m : MD} {a : AtomD} {v0 : List Int} (hP : PlainM m 0 v0) (ha : FormA m a) (hz : closedF m.rules 0 v0 a = 0) {s : Nat} {v : List Int} {l : List StD} (hr : RunM m.rules 0 v0 s v l) (hg : ∀ x ∈ l, GoodC m x.state x.v) (hl : v.length = m.places.length) :
    holdsF a s v = true ∧ ∀ x ∈ l, holdsF a x.state x.v = true := by
  obtain ⟨h1, h2⟩ := closed_zero hz
  induction hr with
  | nil => exact ⟨h1, fun x hx => by cases hx⟩
  | @step s v l i hr hi he ih =>
    have hlv : v.length = m.places.length := by
      cases hr with
      | nil => exact hP.conf.len
      | step j _ hj _ =>
        have := hg _ (List.mem_append_left _ (List.mem_append_right _ (List.mem_singleton.2 rfl)))
        exact this.len
    obtain ⟨h3, h4⟩ := ih (fun x hx => hg x (List.mem_append_left _ hx)) hlv
    have hri := hP.fine _ (mem_bangI hi)
    have hsrc : s = m.rules[i]!.src.toNat := by have := (en_needs he).1; omega
    have hm := ha.mod
    unfold ModOk at hm
    have key : holdsF a m.rules[i]!.dst.toNat (fireF m.rules[i]! v) = true :=
      follows_step (by omega) ha.coefs hlv hri.right (h2 _ (mem_bangI hi)) (by unfold holdsF at h3; rw [hsrc] at h3; exact h3)
    refine ⟨key, fun x hx => ?_⟩
    rcases List.mem_append.1 hx with hx | hx
    · exact h4 x hx
    · rw [List.mem_singleton] at hx; subst hx; exact key
set_option maxRecDepth 100000 in
set_option maxHeartbeats 8000000 in
theorem con_holdsLaw (l : List Int) (hl : l.length ≤ 9223372036854775807) (hx : ∀ x ∈ l, 0 ≤ x ∧ x < 256) :
    Con Tryz.prog 7 [.sl 0 1 (l.map vu)] [] fun r _ => r = vb true := by
  refine Con.intro Tryz.func7 rfl Tryz.ntmps7 Tryz.results7 (by kernel_rfl) (by simp) 0 (by simp) ?_
  have hs : Seeds (l.take 200) := ⟨by rw [List.length_take]; omega, fun x h => hx x (List.mem_of_mem_take h)⟩
  simp only [go_sem]
  refine CallU.free con_sane32 (by simp only [go_sem]) (by simp only [go_sem]) ?_
  rintro r bx rfl
  simp only [go_sem]
  refine CallU.news (bx0 := []) (con_new l hl) (by simp only [go_sem]) (by simp only [go_sem]) (by simp only [go_sem]) (by simp only [go_sem]) (by simp only [go_sem]) ?_
  rintro r bx ⟨rfl, rfl⟩
  generalize l.take 200 = l at hs
  simp only [go_sem]
  refine CallU.boxes (i := 0) (is := []) (bx0 := [diceA l 0]) (con_Counter l 0 hs (by omega)) (by simp only [go_sem]) (by simp only [go_sem]) (by simp only [go_sem]) (by simp only [go_sem]) (by simp only [go_sem]) ?_
  rintro r bx ⟨ns, np, rules, v0, at1, hd, ha1, rfl, rfl⟩
  have hP := deal_plain hd
  have hns := hd.hns
  have hnp := hd.hnp
  have hv0 : ∀ x ∈ v0, x ≤ 900000 := fun x hx => by have := hd.start.2 x hx; omega
  have ek : (dealM ns np rules v0).kind = 1 := rfl
  have er : (dealM ns np rules v0).rules = rules := rfl
  generalize dealM ns np rules v0 = m at hP ek er
  simp only [go_sem, vM, cM, vss]
  refine CallU.boxes (i := 0) (is := []) (bx0 := [diceA l at1]) (con_Atom l at1 m v0 hs ha1 hP) (by simp only [go_sem]) (by simp only [go_sem]) (by simp only [go_sem]) (by simp only [go_sem]) (by simp only [go_sem]) ?_
  rintro r bx ⟨a, at2, hcase, ha2, rfl, rfl⟩
  rcases hcase with ⟨hFa, hIn⟩ | hbad
  case inr =>
    have hCb := con_ClosedBad m a hP.good hP.still hbad
    simp only [go_sem, hbad.2]
    refine CallU.free hCb (by simp only [go_sem]) (by simp only [go_sem, vM, cM, vss, hbad.2]) ?_
    rintro r bx rfl
    simp only [go_sem]
  have hCa := con_Closed m a 0 v0 hP hFa
  rw [er] at hCa
  obtain ⟨z, hz⟩ : ∃ z : Int, z = if valuesB a.mod a.values = true then closedF rules 0 v0 a else 44 := ⟨_, rfl⟩
  rw [← hz] at hCa
  simp only [go_sem]
  refine CallU.free hCa (by simp only [go_sem]) (by simp only [go_sem, vM, cM, vss]) ?_
  rintro r bx rfl
  by_cases hz0 : z = 0
  case neg =>
    have hzn : (z != 0) = true := bne_iff_ne.2 hz0
    simp only [go_sem, hzn]
  have hv : valuesB a.mod a.values = true := by
    cases hv : valuesB a.mod a.values
    · rw [hv, hz0] at hz; cases hz
    · rfl
  rw [hv, if_pos rfl, hz0] at hz
  have hca := hz.symm
  subst hz0
  simp only [go_sem]
  have hN := con_near l at2 m 0 v0 10 hs ha2 hP hv0 (by omega)
  refine CallU.boxes (i := 0) (is := []) (bx0 := [diceA l at2]) hN (by simp only [go_sem]) (by simp only [go_sem]) (by simp only [go_sem]) (by simp only [go_sem]) (by simp only [go_sem]) ?_
  rintro r bx ⟨s, v, run, at3, hr, hlen, h3, rfl, rfl⟩
  have hgc := run_good hP.good hP.conf hv0 hr (by omega)
  have hH := run_holds hP hFa (by rw [er]; exact hca) hr hgc.2.2 hgc.1.len
  simp only [go_sem, vV_eq (cfgC s v)]
  refine LoopK.intro (fun j : Nat => ⟨69, [(4, .pb 1 0), (5, .pb 2 0), (33, .sl 1986 3 (run.map vStep)), (34, vi run.length), (35, vi j)], [diceA l at3, cM m, [vs 0 a.coefs, vi a.mod, vs 0 a.values], [vi (cfgC s v).n, .sl 0 2 ((cfgC s v).kids.map vV)]] ++ Rk 3 j⟩)
    (fun j => run.length - j) (fun j => j ≤ run.length) 0 (by omega) ?_ ?_
  · simp only [go_sem, cM, vss, Rk, List.replicate_zero, List.append_nil]
  rintro j hj
  by_cases hjl : j < run.length
  case neg =>
    simp only [go_sem, cM, vss, hjl]
  have hg : (run.map vStep)[j]? = some (vStep run[j]) := by rw [List.getElem?_map, List.getElem?_eq_getElem hjl]; rfl
  have hxg := hgc.2.2 _ (List.getElem_mem hjl)
  have hxh := hH.2 _ (List.getElem_mem hjl)
  obtain ⟨x, ex⟩ : ∃ x, x = run[j] := ⟨_, rfl⟩
  rw [← ex] at hg hxg hxh
  have hHx := con_Holds m a 0 v0 x.state x.v hP hFa hxg
  have hEx := con_Excludes m a 0 v0 x.state x.v hP hFa hxg
  unfold acheckF at hHx hEx
  have e0 := vV_eq (cfgC x.state x.v)
  have en : (cfgC x.state x.v).n = 0 := rfl
  rw [en] at e0
  rw [hv, hxh, e0] at hHx hEx
  have ra : ∀ L : List (List AV), (Rk 3 j ++ L)[(Rk 3 j).length]? = L[0]? := fun L => app_at0 rfl
  have rs : ∀ (L : List (List AV)) z, (Rk 3 j ++ L).set (Rk 3 j).length z = Rk 3 j ++ L.set 0 z := fun L z => app_set0 rfl
  have hw : IntKind.i64.wrap (j + 1) = j + 1 := wrap_in (by omega) (by omega)
  simp only [go_sem, cM, vss, List.cons_append, List.nil_append, hjl, hg, List.length_map, ra, rs]
  refine CallU.free hHx (by simp only [go_sem]) (by simp only [go_sem, vM, cM, vss]) ?_
  rintro r b rfl
  simp only [go_sem, ra, Bool.true_and, if_true]
  refine CallU.free hEx (by simp only [go_sem]) (by simp only [go_sem, vM, cM, vss]) ?_
  rintro r b rfl
  simp only [go_sem, Bool.true_and, if_true, Bool.false_and, Bool.not_true, hw]
  refine roundK.intro (j + 1) (by omega) (by omega) ?_
  simp only [go_sem, Rk_succ]
  all_goals exact leB_RkA ⟨leC_any _ 3 rfl, trivial⟩
end Go.AM

/-! ## ClosedC -/
namespace Go.Proofs.YtlldkikmjeeamaaGreat
open Go.ChangeShapes Go.WideShapes Go.ChangeAt Go.RowKit Go.AM

theorem and_mk {a b : Bool} (h1 : a = true) (h2 : b = true) : (a && b) = true := by rw [h1, h2]; rfl
theorem cLaid : laidOutB Tryz.prog = true := by kernel_rfl
theorem cRowed : mapsRowed Tryz.prog = true := by kernel_rfl
theorem cHeard : Tryz.prog.stopsHeard = true := by kernel_rfl
theorem cEnter : Tryz.prog.mayEnter = true := by kernel_rfl
theorem cLifts : (Rows.invariantHoldsRow.lifted == Tryz.prog.liftsFinal) = true := by kernel_rfl
theorem invariantHoldsC0 : (Rows.invariantHoldsRow.wf (OpenSpec.ofChange Rows.invariantHoldsSpec)) = true := by kernel_rfl
theorem invariantHoldsC3 : (Tryz.f7.params.all (Tryz.prog.readableRec ·)) = true := by kernel_rfl
theorem invariantHoldsC4 : (namedTie Tryz.prog Rows.invariantHoldsRow.named Rows.invariantHoldsSpec.vars) = true := by kernel_rfl
theorem invariantHoldsC5 : ((Rows.invariantHoldsRow.stops == [])) = true := by kernel_rfl
theorem invariantHoldsC6 : ((Tryz.prog.stops == [])) = true := by kernel_rfl
theorem invariantHoldsC7 : ((Rows.invariantHoldsRow.knobs == [])) = true := by kernel_rfl
theorem invariantHoldsC8 : ((Tryz.prog.stopKnobs == [])) = true := by kernel_rfl
theorem invariantHoldsC9 : ((Rows.invariantHoldsRow.inPlace == Tryz.prog.inPlace 7)) = true := by kernel_rfl
theorem invariantHoldsC10 : ((Rows.invariantHoldsRow.unfollowed == Tryz.prog.unfollowed 7)) = true := by kernel_rfl
theorem invariantHoldsC11 : ((Rows.invariantHoldsRow.recurses == Tryz.prog.recurses 7)) = true := by kernel_rfl
theorem invariantHoldsC12 : ((Rows.invariantHoldsRow.named == Tryz.prog.varsNamed 7)) = true := by kernel_rfl
theorem invariantHoldsC13 : ((Rows.invariantHoldsRow.maps == (Tryz.f7.params.toList ++ Rows.invariantHoldsSpec.plain.varTypes Tryz.prog).any (Tryz.prog.mapsRec ·))) = true := by kernel_rfl
theorem invariantHoldsC14 : ((Rows.invariantHoldsRow.ifaces == (Tryz.f7.params.toList ++ Rows.invariantHoldsSpec.plain.varTypes Tryz.prog).any (Tryz.prog.ifacesRec ·))) = true := by kernel_rfl
theorem invariantHoldsC15 : ((Rows.invariantHoldsRow.mapsOut == Tryz.prog.mapsAmong Tryz.f7.resultTypes.toList)) = true := by kernel_rfl
theorem invariantHoldsC16 : ((Rows.invariantHoldsRow.loops == (Tryz.f7.params.toList ++ Rows.invariantHoldsSpec.plain.varTypes Tryz.prog).any (Tryz.prog.loopsFrom ·))) = true := by kernel_rfl
theorem invariantHoldsC17 : ((Rows.invariantHoldsRow.wideKeys == (Tryz.f7.params.toList ++ Rows.invariantHoldsSpec.plain.varTypes Tryz.prog ++ Tryz.f7.resultTypes.toList).any (Tryz.prog.wideKeysFrom ·))) = true := by kernel_rfl
theorem invariantHoldsC18 : (Rows.invariantHoldsSpec.vars.all (Tryz.prog.varReadable ·)) = true := by kernel_rfl
theorem invariantHoldsC19 : (Tryz.f7.resultTypes.all (fun t => Tryz.prog.readableRec t && decide (t < Tryz.prog.types.size))) = true := by kernel_rfl
theorem invariantHoldsC20 : ((Rows.invariantHoldsRow.ifacesOut == Tryz.f7.resultTypes.toList.any (Tryz.prog.ifacesRec ·))) = true := by kernel_rfl
theorem invariantHoldsC21 : ((Rows.invariantHoldsRow.loopsOut == Tryz.f7.resultTypes.toList.any (Tryz.prog.loopsFrom ·))) = true := by kernel_rfl
theorem invariantHoldsC22 : ((Rows.invariantHoldsRow.plainKeys == Tryz.prog.plainKeys)) = true := by kernel_rfl
theorem invariantHoldsC23 : (Rows.invariantHoldsRow.shortTexts.isNone) = true := by kernel_rfl
theorem invariantHoldsC27 : ((Tryz.prog.make == some Rows.invariantHoldsRow.make)) = true := by kernel_rfl
theorem invariantHoldsC28 : ((Rows.invariantHoldsRow.kinds == (if Rows.invariantHoldsRow.domain.isEmpty then [] else Tryz.f7.params.toList.map fun t => match Tryz.prog.underlying t with | some (.int k) => some k | _ => none))) = true := by kernel_rfl
theorem invariantHoldsC29 : ((Rows.invariantHoldsRow.pinned == Rows.invariantHoldsRow.pinnedBy)) = true := by kernel_rfl
theorem invariantHoldsC30 : ((Rows.invariantHoldsRow.veiled == (Tryz.f7.params.toList ++ Rows.invariantHoldsSpec.plain.varTypes Tryz.prog ++ Tryz.f7.resultTypes.toList).any (Tryz.prog.veiledRec ·))) = true := by kernel_rfl
theorem invariantHoldsC31 : (Rows.invariantHoldsRow.veiledFits Tryz.prog Tryz.f7.params.toList (Tryz.f7.params.toList ++ Rows.invariantHoldsSpec.plain.varTypes Tryz.prog ++ Tryz.f7.resultTypes.toList)) = true := by kernel_rfl
end Go.Proofs.YtlldkikmjeeamaaGreat

/-! ## ClosedCz -/
namespace Go.Proofs.YtlldkikmjeeamaaGreat
open Go.ChangeShapes Go.WideShapes Go.ChangeAt Go.RowKit Go.AM

set_option maxRecDepth 100000 in
theorem invariantHoldsClosed : joinedFacts Tryz.prog 7 Tryz.f7 Rows.invariantHoldsSpec Rows.invariantHoldsRow = true := by
  unfold joinedFacts
  exact and_mk (and_mk (and_mk (and_mk (and_mk (and_mk (and_mk (and_mk (and_mk (and_mk (and_mk (and_mk (and_mk (and_mk (and_mk (and_mk (and_mk (and_mk (and_mk (and_mk (and_mk (and_mk (and_mk (and_mk (and_mk (and_mk (and_mk (and_mk (and_mk (and_mk (and_mk invariantHoldsC0 cLaid) cRowed) invariantHoldsC3) invariantHoldsC4) invariantHoldsC5) invariantHoldsC6) invariantHoldsC7) invariantHoldsC8) invariantHoldsC9) invariantHoldsC10) invariantHoldsC11) invariantHoldsC12) invariantHoldsC13) invariantHoldsC14) invariantHoldsC15) invariantHoldsC16) invariantHoldsC17) invariantHoldsC18) invariantHoldsC19) invariantHoldsC20) invariantHoldsC21) invariantHoldsC22) invariantHoldsC23) cHeard) cEnter) cLifts) invariantHoldsC27) invariantHoldsC28) invariantHoldsC29) invariantHoldsC30) invariantHoldsC31
theorem invariantHoldsNamed : Tryz.prog.funcNamed Rows.invariantHoldsRow.func = some 7 := by kernel_rfl
end Go.Proofs.YtlldkikmjeeamaaGreat
