/-
  Plain laws: vectors that a cycle reaches.
  Plain laws: all short cycles, in order, each once.
  Walks: all short cycles of a counter model (flat.Cycles).
  Walks: FlatCycles, the whole law.
  Closed facts of rows, one by one.
  Closed facts of rows, together.
-/
import Derived.Test.YtlldkikmjeeamaaGreatg9
import Derived.Test.YtlldkikmjeeamaaGreatg8
import Derived.Test.YtlldkikmjeeamaaGreatg10
/-! ## FJ -/
namespace Go.AM

theorem ext_bang {a b : List Int} {n : Nat} (ha : a.length = n) (hb : b.length = n) (h : ∀ i, i < n → a[i]! = b[i]!) : a = b := by
  refine List.ext_getElem (by omega) fun i h1 h2 => ?_
  have := h i (by omega)
  rw [getElem!_pos a i h1, getElem!_pos b i h2] at this; exact this
theorem does_zero {nd ef v : List Int} {np : Nat} : doesB nd ef v np 0 = true := by
  rw [does_iff]
  cases h : timesP nd ef v np with
  | none => trivial
  | some n => exact timesP_low h
theorem does_mono {nd ef v : List Int} {np : Nat} {a b : Int} (h : doesB nd ef v np b = true) (hab : a ≤ b) : doesB nd ef v np a = true := by
  rw [does_iff] at *
  cases hT : timesP nd ef v np with
  | none => trivial
  | some n => rw [hT] at h; exact Int.le_trans hab h
theorem after_zero {ef v : List Int} {np : Nat} (h : v.length = np) : afterL np ef v 0 = v :=
  ext_bang (afterL_len ..) h fun i hi => by rw [afterL_at hi]; omega
theorem first_find {ef v w : List Int} {np : Nat} {k : Int} (hk : k ≠ 0) (hw : ∀ i, i < np → v[i]! + k * ef[i]! = w[i]!) : ∀ n, n ≤ np → (firstN ef v w n = 0 ∧ ∀ i, i < n → ef[i]! = 0) ∨ firstN ef v w n = k
  | 0, _ => .inl ⟨rfl, fun i hi => by omega⟩
  | n + 1, hn => by
    unfold firstN
    rcases first_find hk hw n (by omega) with ⟨h1, h2⟩ | h1
    · by_cases he : ef[n]! = 0
      · left
        rw [if_neg (fun hh => hh.1 he)]
        refine ⟨h1, fun i hi => ?_⟩
        by_cases hin : i = n
        · subst hin; exact he
        · exact h2 i (by omega)
      · right
        rw [if_pos ⟨he, h1⟩]
        have := hw n (by omega)
        have e : w[n]! - v[n]! = k * ef[n]! := by omega
        rw [e, Int.mul_tdiv_cancel _ he]
    · right
      rw [if_neg (fun hh => hk (by rw [← h1]; exact hh.2))]; exact h1
/-- the first number of times is returned -/
theorem reach_first {np : Nat} {nd ef v w : List Int} {k : Nat} (hv : v.length = np) (hw : w.length = np) (hb : ∀ j : Nat, j < k → ¬ (doesB nd ef v np j = true ∧ afterL np ef v j = w)) (hd : doesB nd ef v np k = true) (ha : afterL np ef v k = w) :
    reachF np nd ef v w = ((k : Int), true) := by
  unfold reachF
  by_cases hvw : v = w
  · rw [if_pos hvw]
    have : k = 0 := by
      rcases Nat.eq_zero_or_pos k with h | h
      · exact h
      · exact absurd ⟨does_zero, by rw [show ((0 : Nat) : Int) = 0 from rfl, after_zero hv]; exact hvw⟩ (hb 0 h)
    rw [this]; rfl
  · rw [if_neg hvw]
    have hk : (k : Int) ≠ 0 := by
      intro h0
      rw [h0, after_zero hv] at ha
      exact hvw ha
    have hf : ∀ i, i < np → v[i]! + k * ef[i]! = w[i]! := fun i hi => by rw [← ha, afterL_at hi]
    have hN : firstN ef v w np = k := by
      rcases first_find hk hf np (Nat.le_refl _) with ⟨_, h2⟩ | h
      · exfalso
        apply hvw
        refine ext_bang hv hw fun i hi => ?_
        have := hf i hi
        rw [h2 i hi] at this; omega
      · exact h
    rw [hN, fits_good hf, hd, decide_eq_true (show 1 ≤ (k : Int) by omega)]
    rfl
/-- what is returned is a number of times -/
theorem reach_ok {np : Nat} {nd ef v w : List Int} {n : Int} (hv : v.length = np) (hw : w.length = np) (h : reachF np nd ef v w = (n, true)) : 0 ≤ n ∧ doesB nd ef v np n = true ∧ afterL np ef v n = w := by
  unfold reachF at h
  split at h
  · rename_i hvw
    injection h with h1 h2
    subst h1
    exact ⟨Int.le_refl _, does_zero, by rw [after_zero hv]; exact hvw⟩
  · split at h
    · rename_i hc
      rw [Bool.and_eq_true, Bool.and_eq_true] at hc
      injection h with h1 h2
      rw [h1] at hc
      have h3 := of_decide_eq_true hc.1.2
      refine ⟨by omega, hc.2, ext_bang (afterL_len ..) hw fun i hi => ?_⟩
      rw [afterL_at hi]
      have h4 := hc.1.1
      unfold fitsB at h4
      rw [List.all_eq_true] at h4
      exact beq_iff_eq.1 (h4 i (List.mem_range.2 hi))
    · injection h with h1 h2; cases h2
theorem feas_end : ∀ {ts : List Tk} {v : Int}, (∀ t ∈ ts, 0 ≤ t.2) → 0 ≤ v → feas ts v → 0 ≤ v + chg ts
  | [], v, _, h, _ => by simp [chg]; exact h
  | t :: ts, v, hg, hv, h => by
    have := feas_end (ts := ts) (v := v - t.1 + t.2) (fun x hx => hg x (List.mem_cons_of_mem _ hx)) (by have := hg t (List.mem_cons_self ..); have := h.1; omega) h.2
    simp only [chg]; omega
theorem rep_mem {ts : List Tk} {t : Tk} : ∀ {k}, t ∈ rep ts k → t ∈ ts
  | 0, h => by simp [rep] at h
  | k + 1, h => by
    rw [rep, List.mem_append] at h
    rcases h with h | h
    · exact h
    · exact rep_mem h
/-- doing a cycle k times from a vector, at each place -/
theorem does_feas {np : Nat} {rules : List RD} {c v : List Int} {k : Nat} (hs : ∀ r ∈ rules, SmallR np r) (hc : RulesOk rules c) (hv : v.length = np ∧ ∀ x ∈ v, 0 ≤ x) :
    doesB (needL np rules c) (chgL np rules c) v np k = true ↔ ∀ p, p < np → feas (rep (tksF rules c p) k) v[p]! := by
  rw [does_iff, timesP_iff]
  constructor
  · intro h p hp
    have hb := tks_bnd hs hc hp
    refine (feas_rep (fun t ht => (hb t ht).1) (fun t ht => (hb t ht).2.2.1) (hv.2 _ (mem_bangI (by omega))) k).2 fun i hi => ?_
    have := h p hp i hi
    rw [needL_at hp, chgL_at hp] at this; exact this
  · intro h p hp i hi
    have hb := tks_bnd hs hc hp
    have := (feas_rep (fun t ht => (hb t ht).1) (fun t ht => (hb t ht).2.2.1) (hv.2 _ (mem_bangI (by omega))) k).1 (h p hp) i hi
    rw [needL_at hp, chgL_at hp]; exact this
theorem after_low {np : Nat} {rules : List RD} {c v : List Int} {k : Nat} (hs : ∀ r ∈ rules, SmallR np r) (hc : RulesOk rules c) (hv : v.length = np ∧ ∀ x ∈ v, 0 ≤ x) (hd : doesB (needL np rules c) (chgL np rules c) v np k = true) :
    ∀ x ∈ afterL np (chgL np rules c) v k, 0 ≤ x := fun x hx => by
  obtain ⟨p, hp, rfl⟩ := List.mem_map.1 hx
  have hp := List.mem_range.1 hp
  have h1 := (does_feas hs hc hv).1 hd p hp
  have hb := tks_bnd hs hc hp
  have := feas_end (fun t ht => (hb t (rep_mem ht)).2.2.1) (hv.2 _ (mem_bangI (by omega))) h1
  rw [chg_rep, ← chgL_at hp] at this
  exact this
end Go.AM

/-! ## FR -/
namespace Go.AM

theorem app_lt {u : List Int} {r : Int} {i : Nat} (h : i < u.length) : (u ++ [r])[i]! = u[i]! := by
  rw [getElem!_pos _ i (by simp; omega), getElem!_pos u i h, List.getElem_append_left h]
theorem app_eq {u : List Int} {r : Int} {n : Nat} (h : u.length = n) : (u ++ [r])[n]! = r := by
  rw [getElem!_pos _ n (by simp; omega)]
  simp [← h]
/-- a way from a state -/
structure WayP (rules : List RD) (s : Int) (n : Nat) (w : List Int) : Prop where
  len : w.length = n
  ok : RulesOk rules w
  src : ∀ i, i < n → rules[w[i]!.toNat]!.src = if i = 0 then s else rules[w[i - 1]!.toNat]!.dst
theorem way_at {rules : List RD} {s : Int} {n : Nat} {w : List Int} (h : w.length = n) : atF rules s w = if n = 0 then s else rules[w[n - 1]!.toNat]!.dst := by
  unfold atF; rw [h]
theorem ways_path {rules : List RD} {s : Int} : ∀ {n : Nat} {w : List Int}, w ∈ waysF rules s n ↔ WayP rules s n w
  | 0, w => by
    simp only [waysF, List.mem_singleton]
    constructor
    · rintro rfl; exact ⟨rfl, fun k hk => (by cases hk), fun i hi => (by omega)⟩
    · intro h; exact List.eq_nil_of_length_eq_zero h.len
  | n + 1, w => by
    unfold waysF
    rw [longer_mem]
    constructor
    · rintro ⟨j, hj, hx⟩
      obtain ⟨r, hr, hsrc, rfl⟩ := stepTo_mem.1 hx
      have hm : (waysF rules s n)[j]! ∈ waysF rules s n := by rw [getElem!_pos _ j hj]; exact List.getElem_mem hj
      have hu := ways_path.1 hm
      generalize (waysF rules s n)[j]! = u at hu hsrc
      rw [way_at hu.len] at hsrc
      refine ⟨by rw [List.length_append, hu.len]; rfl, fun k hk => ?_, fun i hi => ?_⟩
      · rcases List.mem_append.1 hk with hk | hk
        · exact hu.ok k hk
        · rw [List.mem_singleton] at hk; subst hk; omega
      · by_cases hin : i = n
        · subst hin
          rw [app_eq hu.len, Int.toNat_natCast, hsrc]
          by_cases h0 : i = 0
          · rw [if_pos h0, if_pos h0]
          · rw [if_neg h0, if_neg h0, app_lt (by have := hu.len; omega)]
        · have := hu.src i (by omega)
          rw [app_lt (by have := hu.len; omega), this]
          by_cases h0 : i = 0
          · rw [if_pos h0, if_pos h0]
          · rw [if_neg h0, if_neg h0, app_lt (by have := hu.len; omega)]
    · intro h
      have hl := h.len
      have hwn := h.ok _ (mem_bangI (show n < w.length by omega))
      have hsplit : w = w.take n ++ [w[n]!] := by
        have : w.take (n + 1) = w.take n ++ [w[n]!] := by rw [List.take_add_one, List.getElem?_eq_getElem (by omega), getElem!_pos w n (by omega)]; rfl
        rw [← this, List.take_of_length_le (by omega)]
      have htl : (w.take n).length = n := by rw [List.length_take]; omega
      have hti : ∀ i, i < n → (w.take n)[i]! = w[i]! := fun i hi => by
        rw [getElem!_pos _ i (by omega), getElem!_pos w i (by omega), List.getElem_take]
      have hu : WayP rules s n (w.take n) := ⟨htl, fun k hk => h.ok k (List.mem_of_mem_take hk), fun i hi => by
        rw [hti i hi, h.src i (by omega)]
        by_cases h0 : i = 0
        · rw [if_pos h0, if_pos h0]
        · rw [if_neg h0, if_neg h0, hti (i - 1) (by omega)]⟩
      obtain ⟨j, hj, ej⟩ := List.mem_iff_getElem.1 (ways_path.2 hu)
      refine ⟨j, hj, ?_⟩
      rw [getElem!_pos _ j hj, ej]
      refine stepTo_mem.2 ⟨w[n]!.toNat, by omega, ?_, ?_⟩
      · rw [way_at htl, h.src n (by omega)]
        by_cases h0 : n = 0
        · rw [if_pos h0, if_pos h0]
        · rw [if_neg h0, if_neg h0, hti (n - 1) (by omega)]
      · rw [Int.toNat_of_nonneg hwn.1]; exact hsplit
theorem cyc_has {rules : List RD} {s : Int} : ∀ {n : Nat} {w : List Int}, 1 ≤ w.length → w.length ≤ n → w ∈ waysF rules s w.length → endsB rules s w = true → w ∈ cycF rules s n
  | 0, w, h1, h2, _, _ => by omega
  | n + 1, w, h1, h2, h3, h4 => by
    unfold cycF
    rw [List.mem_append]
    by_cases hl : w.length = n + 1
    · right; rw [List.mem_filter]; exact ⟨by rw [← hl]; exact h3, h4⟩
    · left; exact cyc_has h1 (by omega) h3 h4
/-- what is listed is a cycle of the state -/
theorem cyc_check {rules : List RD} {s : Int} {n : Nat} {w : List Int} (h : w ∈ cycF rules s n) : RulesOk rules w ∧ 1 ≤ w.length ∧ w.length ≤ n ∧ fcheckE rules w = 0 ∧ fcheckS rules w = s := by
  obtain ⟨h1, h2, h3, h4⟩ := cyc_each h
  have hp := ways_path.1 h3
  have hsrc0 := hp.src 0 (by omega)
  rw [if_pos rfl] at hsrc0
  have hch : chainB rules w = true := chain_good fun i hi => by
    by_cases hil : i + 1 < w.length
    · rw [Nat.mod_eq_of_lt hil, hp.src (i + 1) hil, if_neg (by omega), Nat.add_sub_cancel]
    · have hi2 : i + 1 = w.length := by omega
      rw [hi2, Nat.mod_self, hsrc0]
      unfold endsB at h4
      rw [beq_iff_eq] at h4
      rw [← h4, show w.length - 1 = i by omega]
  refine ⟨hp.ok, h1, h2, ?_, ?_⟩
  · unfold fcheckE; rw [if_neg (by omega), hch]; rfl
  · unfold fcheckS; rw [if_neg (by omega), hch]; exact hsrc0
/-- every short cycle of the state is listed -/
theorem cyc_all {rules : List RD} {s : Int} {n : Nat} {w : List Int} (hok : RulesOk rules w) (hl : w.length ≤ n) (he : fcheckE rules w = 0) (hs : fcheckS rules w = s) : w ∈ cycF rules s n := by
  unfold fcheckE at he
  have h0 : w.length ≠ 0 := fun h => by rw [if_pos h] at he; cases he
  rw [if_neg h0] at he
  have hch : chainB rules w = true := by
    cases h : chainB rules w
    · rw [h] at he; simp at he
    · rfl
  have hs2 : rules[w[0]!.toNat]!.src = s := by
    unfold fcheckS at hs
    rw [if_neg h0, hch] at hs; exact hs
  refine cyc_has (by omega) hl (ways_path.2 ⟨rfl, hok, fun i hi => ?_⟩) ?_
  · by_cases hi0 : i = 0
    · subst hi0; rw [if_pos rfl]; exact hs2
    · rw [if_neg hi0]
      have := chain_at hch (show i - 1 < w.length by omega)
      rw [Nat.sub_add_cancel (by omega), Nat.mod_eq_of_lt hi] at this
      exact this.symm
  · unfold endsB
    have := chain_at hch (show w.length - 1 < w.length by omega)
    rw [Nat.sub_add_cancel (by omega), Nat.mod_self, hs2] at this
    exact beq_iff_eq.2 this

/-! ### in order -/
theorem lex_app : ∀ {a b x y : List Int}, a.length = b.length → lexI (a ++ x) (b ++ y) = if a = b then lexI x y else lexI a b
  | [], [], x, y, _ => by simp
  | a :: ar, b :: br, x, y, h => by
    have hl : ar.length = br.length := by simpa using h
    simp only [List.cons_append, lexI]
    by_cases hab : a = b
    · rw [if_pos hab, if_pos hab, lex_app hl]
      by_cases hs : ar = br
      · rw [if_pos hs, if_pos (by rw [hab, hs])]
      · rw [if_neg hs, if_neg (by rw [hab]; intro h; exact hs (List.cons.inj h).2)]
    · rw [if_neg hab, if_neg hab, if_neg (fun h => hab (List.cons.inj h).1)]
  | [], _ :: _, _, _, h => by simp at h
  | _ :: _, [], _, _, h => by simp at h
abbrev Asc2 (l : List (List Int)) : Prop := l.Pairwise fun a b => cmpI a b < 0
theorem cmp_same {a b : List Int} (h : a.length = b.length) : cmpI a b = lexI a b := by unfold cmpI; rw [if_pos h]
theorem step_asc {rules : List RD} {s : Int} {w : List Int} : ∀ k, Asc2 (stepTo rules s w k)
  | 0 => by simp [stepTo]
  | k + 1 => by
    unfold stepTo
    split
    · refine List.pairwise_append.2 ⟨step_asc k, by simp, fun a ha b hb => ?_⟩
      rw [List.mem_singleton] at hb
      obtain ⟨r, hr, _, rfl⟩ := stepTo_mem.1 ha
      subst hb
      rw [cmp_same (by simp), lex_app rfl, if_pos rfl]
      simp only [lexI]
      rw [if_neg (by omega)]
      unfold ordL
      rw [if_pos (by omega)]; omega
    · exact step_asc k
theorem longer_asc {rules : List RD} {s : Int} {ways : List (List Int)} {n : Nat} (hw : Asc2 ways) (hl : ∀ w ∈ ways, w.length = n) : ∀ i, i ≤ ways.length → Asc2 (longerF rules s ways i)
  | 0, _ => by simp [longerF]
  | i + 1, hi => by
    unfold longerF
    refine List.pairwise_append.2 ⟨longer_asc hw hl i (by omega), step_asc _, fun a ha b hb => ?_⟩
    obtain ⟨j, hj, hx⟩ := longer_mem.1 ha
    obtain ⟨r, _, _, rfl⟩ := stepTo_mem.1 hx
    obtain ⟨r2, _, _, rfl⟩ := stepTo_mem.1 hb
    have hji := List.pairwise_iff_getElem.1 hw j i (by omega) (by omega) hj
    rw [getElem!_pos ways j (by omega), getElem!_pos ways i (by omega)]
    have l1 := hl _ (List.getElem_mem (show j < ways.length by omega))
    have l2 := hl _ (List.getElem_mem (show i < ways.length by omega))
    rw [cmp_same (by omega)] at hji
    rw [cmp_same (by simp; omega), lex_app (by omega), if_neg]
    · exact hji
    · intro h
      rw [h, (lex_zero rfl).2 rfl] at hji; omega
theorem ways_asc {rules : List RD} {s : Int} : ∀ n, Asc2 (waysF rules s n)
  | 0 => by simp [waysF]
  | n + 1 => longer_asc (ways_asc n) (fun _ hw => (ways_each hw).1) _ (Nat.le_refl _)
theorem cyc_asc {rules : List RD} {s : Int} : ∀ n, Asc2 (cycF rules s n)
  | 0 => by simp [cycF]
  | n + 1 => by
    unfold cycF
    refine List.pairwise_append.2 ⟨cyc_asc n, (ways_asc (n + 1)).filter _, fun a ha b hb => ?_⟩
    have h1 := cyc_each ha
    have h2 := ways_each (List.mem_filter.1 hb).1
    unfold cmpI ordL
    rw [if_neg (by omega), if_pos (by omega)]
    omega
end Go.AM

/-! ## FS -/
namespace Go.AM
open Go Go.Proofs Go.RowKit

set_option maxRecDepth 100000 in
set_option maxHeartbeats 4000000 in
theorem con_longer (m : MD) (s : Nat) (W : List (List Int)) (n : Nat) (h3 : m.rules.length ≤ 3) (hW : ∀ w ∈ W, w.length = n ∧ ∀ k ∈ w, 0 ≤ k ∧ k < m.rules.length) (hn : n ≤ 4) (hWl : W.length ≤ 81) :
    Con Tryz.prog 83 [vM m, vi s, .sl 0 1 (W.map (vs 0))] [] fun r _ => r = .sl 2 1 ((longerF m.rules s W W.length).map (vs 0)) := by
  refine Con.intro Tryz.func83 rfl Tryz.ntmps83 Tryz.results83 (by kernel_rfl) (by simp) 0 (by simp) ?_
  simp only [go_sem, vM, cM, vss, List.length_map]
  refine LoopK.intro (fun i : Nat => ⟨61, [(1, vi s), (3, .pb 0 0), (7, .sl 3712 1 ((longerF m.rules s W i).map (vs 0))), (13, .sl 0 1 (W.map (vs 0))), (14, vi W.length), (15, vi i)], [cM m] ++ Rk 14 (i * m.rules.length)⟩)
    (fun i => W.length - i) (fun i => i ≤ W.length) 0 (by omega) ?_ ?_
  · simp only [go_sem, cM, vss, longerF, List.map_nil, Nat.zero_mul, Rk, List.replicate_zero, List.append_nil]
  rintro i hi
  by_cases hil : i < W.length
  case neg =>
    obtain rfl : i = W.length := by omega
    simp only [go_sem, cM, vss, hil]
  have hWi := hW _ (mem_bangI hil)
  have hgW : (W.map (vs 0))[i]? = some (vs 0 W[i]!) := by rw [List.getElem?_map, List.getElem?_eq_getElem hil, getElem!_pos W i hil]; rfl
  have elg : longerF m.rules s W (i + 1) = longerF m.rules s W i ++ stepTo m.rules s W[i]! m.rules.length := rfl
  have hlg := longer_len (rules := m.rules) (s := s) (ways := W) i
  have hroom : ∀ k, k ≤ m.rules.length → roomFor ((longerF m.rules s W i).length + k) 24 := fun k hk => by
    simp only [roomFor]
    have : i * m.rules.length ≤ 81 * 3 := Nat.mul_le_mul (by omega) h3
    omega
  generalize longerF m.rules s W i = LG at *
  have elg' : LG ++ stepTo m.rules s W[i]! m.rules.length = longerF m.rules s W (i + 1) := elg.symm
  generalize W[i]! = w at *
  by_cases hw0 : w.length = 0
  case' pos =>
    have hw0' : ¬ 0 < w.length := by omega
    have eat : atF m.rules s w = s := by unfold atF; rw [if_pos hw0]
    simp only [go_sem, cM, vss, hil, List.length_map, hgW, hw0', List.cons_append, List.nil_append]
  case' neg =>
    have hw0' : 0 < w.length := by omega
    have hlast : w.length - 1 < w.length := by omega
    have hk := hWi.2 _ (mem_bangI hlast)
    obtain ⟨k, ek, hkl⟩ : ∃ k : Nat, w[w.length - 1]! = k ∧ k < m.rules.length := ⟨w[w.length - 1]!.toNat, by omega, by omega⟩
    have eat : atF m.rules s w = m.rules[k]!.dst := by unfold atF; rw [if_neg hw0, ek]; rfl
    have hg := getv hlast
    have hgr := getRule hkl
    have ww : IntKind.i64.wrap ((w.length : Int) - 1) = ((w.length - 1 : Nat) : Int) := by rw [wrap_in (by omega) (by omega)]; omega
    rw [ek] at hg
    simp only [go_sem, cM, vss, hil, List.length_map, hgW, hw0', List.cons_append, List.nil_append]
    refine DrawK.walk 12 mixed (by kernel_rfl) ?_
    simp only [go_sem, List.length_map, ww, hlast, hg, hkl, hgr]
  all_goals
    refine LoopK.intro (fun k : Nat => ⟨61, [(1, vi s), (3, .pb 0 0), (7, .sl 3712 1 ((LG ++ stepTo m.rules s w k).map (vs 0))), (9, vs 0 w), (10, vi (atF m.rules s w)), (13, .sl 0 1 (W.map (vs 0))), (14, vi W.length), (15, vi i), (35, .sl 0 14 (m.rules.map vRule)), (36, vi m.rules.length), (37, vi k)], [cM m] ++ Rk 14 (i * m.rules.length + k)⟩)
      (fun k => m.rules.length - k) (fun k => k ≤ m.rules.length) 0 (by omega) ?_ ?_
    · simp only [go_sem, cM, vss, stepTo, List.append_nil, eat, Nat.add_zero]
    rintro k hk
    by_cases hkl : k < m.rules.length
    case neg =>
      obtain rfl : k = m.rules.length := by omega
      have hw2 : IntKind.i64.wrap (i + 1) = i + 1 := wrap_in (by omega) (by omega)
      have hbx : i * m.rules.length + m.rules.length = (i + 1) * m.rules.length := by rw [Nat.add_mul, Nat.one_mul]
      simp only [go_sem, cM, vss, hkl, hw2, hbx]
      refine roundK.intro (i + 1) (by omega) (by omega) ?_
      simp only [go_sem, elg']
    have hgr := getRule hkl
    have hw2 : IntKind.i64.wrap (k + 1) = k + 1 := wrap_in (by omega) (by omega)
    have hsl := stepTo_len (rules := m.rules) (s := s) (w := w) k
    have hr2 : roomFor ((LG ++ stepTo m.rules s w k).length + 1) 24 := by rw [List.length_append]; have := hroom ((stepTo m.rules s w k).length + 1) (by omega); rw [Nat.add_assoc]; exact this
    have hr1 : roomFor (w.length + 1) 8 := by simp only [roomFor]; omega
    obtain ⟨N, hN⟩ : ∃ N, N = i * m.rules.length + k := ⟨_, rfl⟩
    have ra : ∀ L : List (List AV), (Rk 14 N ++ L)[(Rk 14 N).length]? = L[0]? := fun L => app_at0 rfl
    have rs : ∀ (L : List (List AV)) z, (Rk 14 N ++ L).set (Rk 14 N).length z = Rk 14 N ++ L.set 0 z := fun L z => app_set0 rfl
    have hN1 : i * m.rules.length + (k + 1) = N + 1 := by omega
    rw [← hN]
    by_cases hsrc : m.rules[k]!.src = atF m.rules s w
    case neg =>
      have hsrc' : (m.rules[k]!.src == atF m.rules s w) = false := beq_eq_false_iff_ne.2 hsrc
      have es : stepTo m.rules s w (k + 1) = stepTo m.rules s w k := by rw [stepTo, if_neg hsrc]
      simp only [go_sem, cM, vss, List.length_map, hkl, hgr, hsrc', hw2, List.cons_append, List.nil_append, ra, rs]
      refine roundK.intro (k + 1) (by omega) (by omega) ?_
      simp only [go_sem, es, hN1, Rk_succ]
      all_goals exact leB_RkA ⟨leC_any _ 14 rfl, trivial⟩
    have hsrc' : (m.rules[k]!.src == atF m.rules s w) = true := beq_iff_eq.2 hsrc
    have es : stepTo m.rules s w (k + 1) = stepTo m.rules s w k ++ [w ++ [(k : Int)]] := by rw [stepTo, if_pos hsrc]
    have hp : vs 0 (w ++ [(k : Int)]) = .sl 0 1 (w.map vi ++ [.sc (.int .i64 k)]) := by show AV.sl 0 1 (List.map vi (w ++ [(k : Int)])) = _; rw [List.map_append]; rfl
    have eA : LG ++ stepTo m.rules s w (k + 1) = (LG ++ stepTo m.rules s w k) ++ [w ++ [(k : Int)]] := by rw [es, List.append_assoc]
    have htk : List.take w.length (List.map vi w) = List.map vi w := List.take_of_length_le (by rw [List.length_map]; exact Nat.le_refl _)
    simp only [go_sem, cM, vss, List.length_map, hkl, hgr, hsrc', hw2, List.cons_append, List.nil_append, ra, rs, hr1, hr2, htk]
    refine ⟨Nat.le_refl _, roundK.intro (k + 1) (by omega) (by omega) ?_⟩
    simp only [go_sem, eA, hN1, Rk_succ]
    generalize LG ++ stepTo m.rules s w k = A
    rw [List.map_append, List.map_cons, List.map_nil, hp]
    exact ⟨leV_refl _, leB_RkA ⟨leC_any _ 14 rfl, trivial⟩⟩
set_option maxRecDepth 100000 in
set_option maxHeartbeats 4000000 in
theorem con_Cycles (m : MD) (s most : Nat) (h : GoodM m) (hst : m.rules.all stillB = true) (h3 : m.rules.length ≤ 3) (hs : s < m.states.length) (hm : most ≤ 4) :
    Con Tryz.prog 28 [vM m, vi s, vi most] [] fun r _ => r = .tup [.sl 2 1 ((cycF m.rules s most).map (vs 0)), vi 0] := by
  refine Con.intro Tryz.func28 rfl Tryz.ntmps28 Tryz.results28 (by kernel_rfl) (by simp) 0 (by simp) ?_
  have hs1 : ¬ (s : Int) < 0 := by omega
  have hs2 : ¬ (m.states.length : Int) ≤ (s : Int) := by omega
  have hm1 : ¬ (most : Int) < 0 := by omega
  have hm2 : ¬ (4 : Int) < (most : Int) := by omega
  simp only [go_sem, vM, cM, vss]
  refine CallU.free (con_counts m h hst) (by simp only [go_sem]) (by simp only [go_sem, vM, cM, vss]) ?_
  rintro x bx rfl
  simp only [go_sem, hs1, hs2, hm1, hm2, List.length_map]
  refine LoopK.intro (fun n : Nat => ⟨73, [(1, vi s), (3, .pb 0 0), (9, .sl 4288 1 ((cycF m.rules s n).map (vs 0))), (10, .sl 2304 1 ((waysF m.rules s n).map (vs 0))), (36, vi most), (37, vi n)], [cM m]⟩)
    (fun n => most - n) (fun n => n ≤ most) 0 (by omega) ?_ ?_
  · simp only [go_sem, cM, vss, cycF, waysF, List.map_cons, List.map_nil]
    all_goals exact leV_slE rfl (fun y hy => by rw [List.mem_singleton] at hy; subst hy; rfl) (PW.cons (Sub.nil 1) (PW.nil _))
  rintro n hn
  have hcl := cyc_len (rules := m.rules) (s := s) h3 hm
  by_cases hnl : n < most
  case neg =>
    obtain rfl : n = most := by omega
    have hno : ¬ (128 : Int) < ((cycF m.rules s n).length : Int) := by omega
    simp only [go_sem, cM, vss, hnl, List.length_map, hno]
  have hw : IntKind.i64.wrap (n + 1) = n + 1 := wrap_in (by omega) (by omega)
  have hwl := (cyc_len (rules := m.rules) (s := s) h3 (show n ≤ 4 by omega)).2
  have hwl1 := (cyc_len (rules := m.rules) (s := s) h3 (show n + 1 ≤ 4 by omega)).2
  have hcl0 := (cyc_len (rules := m.rules) (s := s) h3 (show n ≤ 4 by omega)).1
  have hwe := fun w => ways_each (rules := m.rules) (s := s) (n := n) (w := w)
  have hwe1 := fun w => ways_each (rules := m.rules) (s := s) (n := n + 1) (w := w)
  have hlo := con_longer m s (waysF m.rules s n) n h3 (fun w hw => hwe w hw) (by omega) hwl
  have ec1 : cycF m.rules s (n + 1) = cycF m.rules s n ++ (waysF m.rules s (n + 1)).filter (endsB m.rules s) := rfl
  have ew1 : longerF m.rules s (waysF m.rules s n) (waysF m.rules s n).length = waysF m.rules s (n + 1) := rfl
  rw [ew1] at hlo
  generalize hcN : cycF m.rules s (n + 1) = C1 at *
  generalize hwN : waysF m.rules s (n + 1) = W1 at *
  generalize waysF m.rules s n = W at *
  generalize cycF m.rules s n = C at *
  simp only [go_sem, cM, vss, hnl]
  refine CallU.freeze hlo (by simp only [go_sem]) (by simp only [go_sem, vM, cM, vss]) ?_
  rintro x bx rfl
  simp only [go_sem, List.length_map]
  refine LoopK.intro (fun i : Nat => ⟨73, [(1, vi s), (3, .pb 0 0), (9, .sl 4288 1 ((C ++ (W1.take i).filter (endsB m.rules s)).map (vs 0))), (10, .sl 2754 1 (W1.map (vs 0))), (36, vi most), (37, vi n), (43, .sl 2754 1 (W1.map (vs 0))), (44, vi W1.length), (45, vi i)], [cM m]⟩)
    (fun i => W1.length - i) (fun i => i ≤ W1.length) 0 (by omega) ?_ ?_
  · simp only [go_sem, cM, vss, List.take_zero, List.filter_nil, List.append_nil]
  rintro i hi
  by_cases hil : i < W1.length
  case neg =>
    have e1 : W1.take i = W1 := List.take_of_length_le (by omega)
    rw [e1, ← ec1]
    simp only [go_sem, cM, vss, hil, hw]
    refine roundK.mv 2754 2304 (by omega) (by omega) (by omega) (n + 1) (by show n + 1 ≤ most; omega) (by show most - (n + 1) < most - n; omega) ?_
    simp only [go_sem, hcN, hwN]
    all_goals exact leV_refl _
  have hw1m := hwe1 _ (mem_bangI hil)
  have hgW : (W1.map (vs 0))[i]? = some (vs 0 W1[i]!) := by rw [List.getElem?_map, List.getElem?_eq_getElem hil, getElem!_pos W1 i hil]; rfl
  have etk : W1.take (i + 1) = W1.take i ++ [W1[i]!] := by rw [List.take_add_one, List.getElem?_eq_getElem hil, getElem!_pos W1 i hil]; rfl
  have hwi : IntKind.i64.wrap (i + 1) = i + 1 := wrap_in (by omega) (by omega)
  have hfl := List.length_filter_le (endsB m.rules s) (W1.take i)
  rw [List.length_take] at hfl
  generalize hwx : W1[i]! = w at *
  have hlast : w.length - 1 < w.length := by omega
  have hk := hw1m.2 _ (mem_bangI hlast)
  obtain ⟨k, ek, hkl⟩ : ∃ k : Nat, w[w.length - 1]! = k ∧ k < m.rules.length := ⟨w[w.length - 1]!.toNat, by omega, by omega⟩
  have hend : endsB m.rules s w = (m.rules[k]!.dst == (s : Int)) := by unfold endsB; rw [ek, Int.toNat_natCast]
  have hg := getv hlast
  have hgr := getRule hkl
  have ww : IntKind.i64.wrap ((w.length : Int) - 1) = ((w.length - 1 : Nat) : Int) := by rw [wrap_in (by omega) (by omega)]; omega
  rw [ek] at hg
  simp only [go_sem, cM, vss, hil, List.length_map, hgW]
  refine DrawK.walk 13 mixed (by kernel_rfl) ?_
  obtain ⟨F, hF⟩ : ∃ F, F = C ++ (W1.take i).filter (endsB m.rules s) := ⟨_, rfl⟩
  have hFl : F.length ≤ 300 := by rw [hF, List.length_append]; omega
  rw [← hF]
  by_cases hdst : m.rules[k]!.dst = s
  · have hdst' : (m.rules[k]!.dst == (s : Int)) = true := beq_iff_eq.2 hdst
    rw [hdst'] at hend
    have eF : C ++ (W1.take (i + 1)).filter (endsB m.rules s) = F ++ [w] := by rw [etk, hF, List.filter_append, List.filter_cons, if_pos hend, List.append_assoc]; rfl
    have hcl := con_clone w (by omega) (by omega)
    have hro : roomFor (F.length + 1) 24 := by simp only [roomFor]; omega
    simp only [go_sem, hlast, hg, hkl, hgr, ww, hdst', List.length_map]
    refine CallU.free hcl (by simp only [go_sem]) (by simp only [go_sem]) ?_
    rintro x bx rfl
    simp only [go_sem, hwi, hro, List.length_map]
    refine roundK.intro (i + 1) (by omega) (by omega) ?_
    simp only [go_sem, eF, List.map_append, List.map_cons, List.map_nil]
  · have hdst' : (m.rules[k]!.dst == (s : Int)) = false := beq_eq_false_iff_ne.2 hdst
    rw [hdst'] at hend
    have eF : C ++ (W1.take (i + 1)).filter (endsB m.rules s) = F := by rw [etk, hF, List.filter_append, List.filter_cons, if_neg (by rw [hend]; simp), List.filter_nil, List.append_nil]
    simp only [go_sem, hlast, hg, hkl, hgr, ww, hdst', List.length_map, hwi]
    refine roundK.intro (i + 1) (by omega) (by omega) ?_
    simp only [go_sem, eF]
end Go.AM

/-! ## FT -/
namespace Go.AM
open Go Go.Proofs Go.RowKit

theorem con_CyclesF (m : MD) (s most : Nat) (h : GoodM m) (hst : m.rules.all stillB = true) (h3 : m.rules.length ≤ 3) (hs : s < m.states.length) (hm : most ≤ 4) :
    Con Tryz.prog 28 [vM m, vi s, vi most] [] fun r _ => r = .tup [.sl 0 1 ((cycF m.rules s most).map (vs 0)), vi 0] :=
  ((con_Cycles m s most h hst h3 hs hm).freezeR fun _ => true).mono fun r _ ⟨r0, h0, h1⟩ => by
    subst h0; subst h1
    show AV.tup [.sl 0 1 _, vi 0] = _
    rfl
/-- a cycle by bytes -/
def rawC (R : Nat) (raw : List Int) (i : Nat) : List Int := (raw.take i).map fun x => x.tmod R
theorem rawC_next {R : Nat} {raw : List Int} {i : Nat} (h : i < raw.length) : rawC R raw (i + 1) = rawC R raw i ++ [raw[i]!.tmod R] := by
  unfold rawC
  rw [List.take_add_one, List.getElem?_eq_getElem h, getElem!_pos raw i h, List.map_append]; rfl
theorem rawC_ok {rules : List RD} {raw : List Int} {i : Nat} (hr : 1 ≤ rules.length) (hx : ∀ x ∈ raw, 0 ≤ x ∧ x < 256) : RulesOk rules (rawC rules.length raw i) := fun k hk => by
  obtain ⟨x, hx1, rfl⟩ := List.mem_map.1 hk
  have h0 := hx x (List.mem_of_mem_take hx1)
  rw [Int.tmod_eq_emod_of_nonneg h0.1]
  exact ⟨Int.emod_nonneg _ (by omega), Int.emod_lt_of_pos _ (by omega)⟩
theorem rawC_len {R : Nat} {raw : List Int} {i : Nat} : (rawC R raw i).length ≤ i := by
  unfold rawC; rw [List.length_map, List.length_take]; omega
set_option maxRecDepth 100000 in
set_option maxHeartbeats 8000000 in
theorem con_cyclesLaw (l raw : List Int) (hl : l.length ≤ 9223372036854775807) (hx : ∀ x ∈ l, 0 ≤ x ∧ x < 256) (hrw : raw.length ≤ 9223372036854775807) (hrx : ∀ x ∈ raw, 0 ≤ x ∧ x < 256) :
    Con Tryz.prog 6 [.sl 0 1 (l.map vu), .sl 0 1 (raw.map vu)] [] fun r _ => r = vb true := by
  refine Con.intro Tryz.func6 rfl Tryz.ntmps6 Tryz.results6 (by kernel_rfl) (by simp) 0 (by simp) ?_
  have hs : Seeds (l.take 200) := ⟨by rw [List.length_take]; omega, fun x h => hx x (List.mem_of_mem_take h)⟩
  simp only [go_sem]
  refine CallU.free con_sane30 (by simp only [go_sem]) (by simp only [go_sem]) ?_
  rintro r bx rfl
  simp only [go_sem]
  refine CallU.news (bx0 := []) (con_new l hl) (by simp only [go_sem]) (by simp only [go_sem]) (by simp only [go_sem]) (by simp only [go_sem]) (by simp only [go_sem]) ?_
  rintro r bx ⟨rfl, rfl⟩
  generalize l.take 200 = l at hs
  simp only [go_sem]
  refine CallU.boxes (i := 0) (is := []) (bx0 := [diceA l 0]) (con_Counter l 0 hs (by omega)) (by simp only [go_sem]) (by simp only [go_sem]) (by simp only [go_sem]) (by simp only [go_sem]) (by simp only [go_sem]) ?_
  rintro r bx ⟨ns, np, rules, v0, at1, hd, ha1, rfl, rfl⟩
  have hP := deal_plain hd
  have hns := hd.hns
  have hnp := hd.hnp
  have hrl := hd.len
  have l1 : (dealM ns np rules v0).states.length = ns := states_len hns.2
  have l2 : (dealM ns np rules v0).places.length = np := places_len hnp.2
  have er : (dealM ns np rules v0).rules = rules := rfl
  generalize dealM ns np rules v0 = m at hP l1 l2 er
  subst er
  have hsm := good_small hP.good
  have hfine := hP.fine
  rw [l2] at hsm
  have hp2 := pickA_le ha1
  have q1 := rollS_lt (l := l) (at_ := at1) hns.1
  have q2 := pickV_lt (l := l) (at_ := pickA l at1) (show (1 : Int) ≤ 4 by omega)
  obtain ⟨s, es, hsl⟩ : ∃ s, s = rollS l at1 ns ∧ s < ns := ⟨_, rfl, q1.1⟩
  obtain ⟨most, em, hml⟩ : ∃ k : Nat, pickV l (pickA l at1) 4 = k ∧ k < 4 := ⟨(pickV l (pickA l at1) 4).toNat, by omega, by omega⟩
  simp only [go_sem, vM, cM, vss, List.length_map, l1]
  refine CallU.boxes (i := 0) (is := []) (bx0 := [diceA l at1]) (con_pickF l at1 ns hs ha1 (by omega)) (by simp only [go_sem]) (by simp only [go_sem]) (by simp only [go_sem]) (by simp only [go_sem]) (by simp only [go_sem]) ?_
  rintro r b ⟨rfl, rfl⟩
  rw [q1.2, ← es]
  simp only [go_sem]
  refine CallU.boxes (i := 0) (is := []) (bx0 := [diceA l (pickA l at1)]) (con_pickF l (pickA l at1) 4 hs hp2 (by omega)) (by simp only [go_sem]) (by simp only [go_sem]) (by simp only [go_sem]) (by simp only [go_sem]) (by simp only [go_sem]) ?_
  rintro r b ⟨rfl, rfl⟩
  rw [em]
  have hCy := con_CyclesF m s most hP.good hP.still hrl.2 (by rw [l1]; exact hsl) (by omega)
  simp only [go_sem]
  refine CallU.free hCy (by simp only [go_sem]) (by simp only [go_sem, vM, cM, vss]) ?_
  rintro r b rfl
  have hcc := fun w => cyc_check (rules := m.rules) (s := (s : Int)) (n := most) (w := w)
  have hca := fun w => cyc_all (rules := m.rules) (s := (s : Int)) (n := most) (w := w)
  have hasc := cyc_asc (rules := m.rules) (s := (s : Int)) most
  have hLl := (cyc_len (rules := m.rules) (s := (s : Int)) hrl.2 (n := most) (by omega)).1
  generalize cycF m.rules s most = L at *
  simp only [go_sem, List.length_map]
  refine LoopK.intro (fun i : Nat => ⟨138, [(1, .sl 0 1 (raw.map vu)), (6, .pb 1 0), (7, vi s), (8, vi most), (9, .sl 0 1 (L.map (vs 0))), (45, .sl 0 1 (L.map (vs 0))), (46, vi L.length), (47, vi i)], [[.any, .any], cM m]⟩)
    (fun i => L.length - i) (fun i => i ≤ L.length) 0 (by omega) ?_ ?_
  · simp only [go_sem, cM, vss]
  rintro i hi
  by_cases hil : i < L.length
  · have hcx := hcc _ (mem_bangI hil)
    have hgL : (L.map (vs 0))[i]? = some (vs 0 L[i]!) := by rw [List.getElem?_map, List.getElem?_eq_getElem hil, getElem!_pos L i hil]; rfl
    have hw : IntKind.i64.wrap (i + 1) = i + 1 := wrap_in (by omega) (by omega)
    have hcf := con_fcheck m L[i]! hP.good hP.still hcx.1 (by omega)
    rw [hcx.2.2.2.1, hcx.2.2.2.2] at hcf
    have k1 : ¬ ((L[i]!.length : Int) < 1) := by omega
    have k2 : ¬ ((most : Int) < (L[i]!.length : Int)) := by omega
    simp only [go_sem, cM, vss, hil, hgL]
    refine CallU.free hcf (by simp only [go_sem]) (by simp only [go_sem, vM, cM, vss]) ?_
    rintro r b rfl
    have hss : ((s : Int) != (s : Int)) = false := by simp
    by_cases hi0 : i = 0
    · subst hi0
      have hi0' : ¬ (0 : Int) < ((0 : Nat) : Int) := by omega
      simp only [go_sem, hss, k1, k2, List.length_map]
      refine roundK.intro 1 (by omega) (by omega) ?_
      simp only [go_sem]
      all_goals exact leV_int rfl
    · have hi0' : (0 : Int) < (i : Int) := by omega
      have hil2 : i - 1 < L.length := by omega
      have hgL2 : (L.map (vs 0))[i - 1]? = some (vs 0 L[i - 1]!) := by rw [List.getElem?_map, List.getElem?_eq_getElem hil2, getElem!_pos L (i - 1) hil2]; rfl
      have hw2 : IntKind.i64.wrap ((i : Int) - 1) = ((i - 1 : Nat) : Int) := by rw [wrap_in (by omega) (by omega)]; omega
      have hlt := List.pairwise_iff_getElem.1 hasc (i - 1) i hil2 hil (by omega)
      have e1 := getElem!_pos L (i - 1) hil2
      have e2 := getElem!_pos L i hil
      rw [← e1, ← e2] at hlt
      have hlt' : ¬ (0 : Int) ≤ cmpI L[i - 1]! L[i]! := by omega
      have hcx2 := hcc _ (mem_bangI hil2)
      simp only [go_sem, hss, k1, k2, List.length_map, hi0', hw2, hil2, hgL2]
      refine CallU.free (con_rcompareI L[i - 1]! L[i]! (by omega)) (by simp only [go_sem]) (by simp only [go_sem]) ?_
      rintro r b rfl
      simp only [go_sem, hlt', hw]
      refine roundK.intro (i + 1) (by omega) (by omega) ?_
      simp only [go_sem]
  simp only [go_sem, cM, vss, hil]
  refine LoopK.intro (fun i : Nat => ⟨138, [(1, .sl 0 1 (raw.map vu)), (6, .pb 1 0), (7, vi s), (8, vi most), (9, .sl 0 1 (L.map (vs 0))), (15, vs 7168 (rawC m.rules.length raw i)), (16, vi i)], [[.any, .any], cM m]⟩)
    (fun i => most - i) (fun i => i ≤ most ∧ i ≤ raw.length) 0 ⟨by omega, by omega⟩ ?_ ?_
  · simp only [go_sem, cM, vss, rawC, List.take_zero, List.map_nil]
  rintro i ⟨hi1, hi2⟩
  by_cases hgo : i < raw.length ∧ i < most
  · have hir := hgo.1
    have him : (i : Int) < (most : Int) := by omega
    have hgr := getu hir
    have hxr := hrx _ (mem_bangI hir)
    have hw : IntKind.i64.wrap (i + 1) = i + 1 := wrap_in (by omega) (by omega)
    have hwr : IntKind.i64.wrap raw[i]! = raw[i]! := wrap_in (by omega) (by omega)
    have hR0 : ((m.rules.length : Int) = 0) = False := eq_false (by omega)
    have hrl2 := rawC_len (R := m.rules.length) (raw := raw) (i := i)
    have hmod : 0 ≤ raw[i]!.tmod m.rules.length ∧ raw[i]!.tmod m.rules.length < m.rules.length := by
      rw [Int.tmod_eq_emod_of_nonneg hxr.1]
      exact ⟨Int.emod_nonneg _ (by omega), Int.emod_lt_of_pos _ (by omega)⟩
    have hwm : IntKind.i64.wrap (raw[i]!.tmod m.rules.length) = raw[i]!.tmod m.rules.length := wrap_in (by omega) (by omega)
    have hro : roomFor ((rawC m.rules.length raw i).length + 1) 8 := by simp only [roomFor]; omega
    simp only [go_sem, cM, vss, hir, him, List.length_map]
    refine DrawK.walk 11 mixed (by kernel_rfl) ?_
    simp only [go_sem, hir, List.length_map, hgr, hwr, hR0, hro, hw]
    refine roundK.intro (i + 1) (by show i + 1 ≤ most ∧ i + 1 ≤ raw.length; omega) (by show most - (i + 1) < most - i; omega) ?_
    simp only [go_sem, rawC_next hir, List.map_append, List.map_cons, List.map_nil]
  · have hcnd : ¬ (i < raw.length) ∨ (i < raw.length ∧ ¬ ((i : Int) < (most : Int))) := by
      by_cases h : i < raw.length
      · right; exact ⟨h, fun h2 => hgo ⟨h, by omega⟩⟩
      · left; exact h
    have hCok := rawC_ok (rules := m.rules) (raw := raw) (i := i) hrl.1 hrx
    have hClen := rawC_len (R := m.rules.length) (raw := raw) (i := i)
    have hcf := con_fcheck m (rawC m.rules.length raw i) hP.good hP.still hCok (by omega)
    have hmem := hca (rawC m.rules.length raw i) hCok (by omega)
    generalize rawC m.rules.length raw i = c at *
    rcases hcnd with hc1 | ⟨hc1, hc2⟩
    case' inl =>
      simp only [go_sem, cM, vss, hc1, List.length_map]
    case' inr =>
      simp only [go_sem, cM, vss, hc1, hc2, List.length_map]
    all_goals
      refine CallU.freeze hcf (by simp only [go_sem]) (by simp only [go_sem, vM, cM, vss]) ?_
      rintro r b rfl
      by_cases hok : fcheckE m.rules c = 0 ∧ fcheckS m.rules c = s
      · have hcL := hmem hok.1 hok.2
        have hss : ((s : Int) == (s : Int)) = true := by simp
        simp only [go_sem, hok.1, hok.2, hss, List.length_map]
        refine LoopK.intro (fun j : Nat => ⟨138, [(6, .pb 1 0), (15, vs 0 c), (125, .sl 0 1 (L.map (vs 0))), (126, vi L.length), (127, vi j)], [[.any, .any], cM m]⟩)
          (fun j => L.length - j) (fun j => j ≤ L.length ∧ ∀ q, q < j → L[q]! ≠ c) 0 ⟨by omega, fun q hq => by omega⟩ ?_ ?_
        · simp only [go_sem, cM, vss]
        rintro j ⟨hj, hjb⟩
        by_cases hjl : j < L.length
        · have hgL : (L.map (vs 0))[j]? = some (vs 0 L[j]!) := by rw [List.getElem?_map, List.getElem?_eq_getElem hjl, getElem!_pos L j hjl]; rfl
          have hw : IntKind.i64.wrap (j + 1) = j + 1 := wrap_in (by omega) (by omega)
          have hcx := hcc _ (mem_bangI hjl)
          simp only [go_sem, cM, vss, hjl, hgL]
          refine CallU.free (con_rsameI L[j]! c (by omega)) (by simp only [go_sem]) (by simp only [go_sem]) ?_
          rintro r b rfl
          by_cases hE : L[j]! = c
          · have hE' : (L[j]! == c) = true := beq_iff_eq.2 hE
            simp only [go_sem, hE']
          · have hE' : (L[j]! == c) = false := beq_eq_false_iff_ne.2 hE
            simp only [go_sem, hE', hw]
            refine roundK.intro (j + 1) ⟨by omega, fun q hq => ?_⟩ (by omega) ?_
            · by_cases hqj : q = j
              · subst hqj; exact hE
              · exact hjb q (by omega)
            · simp only [go_sem]
        · exfalso
          obtain ⟨q, hq, eq⟩ := List.mem_iff_getElem.1 hcL
          have := hjb q (by omega)
          rw [getElem!_pos L q hq] at this
          exact this eq
      · by_cases hE0 : fcheckE m.rules c = 0
        · have hS : fcheckS m.rules c ≠ s := fun h => hok ⟨hE0, h⟩
          have hS' : (fcheckS m.rules c == (s : Int)) = false := beq_eq_false_iff_ne.2 hS
          simp only [go_sem, hE0, hS']
          refine CallU.free (con_rmcheck m hP.good) (by simp only [go_sem]) (by simp only [go_sem, vM, cM, vss]) ?_
          rintro r b rfl
          simp only [go_sem]
        · have hE0' : (fcheckE m.rules c == 0) = false := beq_eq_false_iff_ne.2 hE0
          simp only [go_sem, hE0']
          refine CallU.free (con_rmcheck m hP.good) (by simp only [go_sem]) (by simp only [go_sem, vM, cM, vss]) ?_
          rintro r b rfl
          simp only [go_sem]
end Go.AM

/-! ## ClosedY -/
namespace Go.Proofs.YtlldkikmjeeamaaGreat
open Go.ChangeShapes Go.WideShapes Go.ChangeAt Go.RowKit Go.AM

theorem and_mk {a b : Bool} (h1 : a = true) (h2 : b = true) : (a && b) = true := by rw [h1, h2]; rfl
theorem cLaid : laidOutB Tryz.prog = true := by kernel_rfl
theorem cRowed : mapsRowed Tryz.prog = true := by kernel_rfl
theorem cHeard : Tryz.prog.stopsHeard = true := by kernel_rfl
theorem cEnter : Tryz.prog.mayEnter = true := by kernel_rfl
theorem cLifts : (Rows.flatCyclesRow.lifted == Tryz.prog.liftsFinal) = true := by kernel_rfl
theorem flatCyclesC0 : (Rows.flatCyclesRow.wf (OpenSpec.ofChange Rows.flatCyclesSpec)) = true := by kernel_rfl
theorem flatCyclesC3 : (Tryz.f6.params.all (Tryz.prog.readableRec ·)) = true := by kernel_rfl
theorem flatCyclesC4 : (namedTie Tryz.prog Rows.flatCyclesRow.named Rows.flatCyclesSpec.vars) = true := by kernel_rfl
theorem flatCyclesC5 : ((Rows.flatCyclesRow.stops == [])) = true := by kernel_rfl
theorem flatCyclesC6 : ((Tryz.prog.stops == [])) = true := by kernel_rfl
theorem flatCyclesC7 : ((Rows.flatCyclesRow.knobs == [])) = true := by kernel_rfl
theorem flatCyclesC8 : ((Tryz.prog.stopKnobs == [])) = true := by kernel_rfl
theorem flatCyclesC9 : ((Rows.flatCyclesRow.inPlace == Tryz.prog.inPlace 6)) = true := by kernel_rfl
theorem flatCyclesC10 : ((Rows.flatCyclesRow.unfollowed == Tryz.prog.unfollowed 6)) = true := by kernel_rfl
theorem flatCyclesC11 : ((Rows.flatCyclesRow.recurses == Tryz.prog.recurses 6)) = true := by kernel_rfl
theorem flatCyclesC12 : ((Rows.flatCyclesRow.named == Tryz.prog.varsNamed 6)) = true := by kernel_rfl
theorem flatCyclesC13 : ((Rows.flatCyclesRow.maps == (Tryz.f6.params.toList ++ Rows.flatCyclesSpec.plain.varTypes Tryz.prog).any (Tryz.prog.mapsRec ·))) = true := by kernel_rfl
theorem flatCyclesC14 : ((Rows.flatCyclesRow.ifaces == (Tryz.f6.params.toList ++ Rows.flatCyclesSpec.plain.varTypes Tryz.prog).any (Tryz.prog.ifacesRec ·))) = true := by kernel_rfl
theorem flatCyclesC15 : ((Rows.flatCyclesRow.mapsOut == Tryz.prog.mapsAmong Tryz.f6.resultTypes.toList)) = true := by kernel_rfl
theorem flatCyclesC16 : ((Rows.flatCyclesRow.loops == (Tryz.f6.params.toList ++ Rows.flatCyclesSpec.plain.varTypes Tryz.prog).any (Tryz.prog.loopsFrom ·))) = true := by kernel_rfl
theorem flatCyclesC17 : ((Rows.flatCyclesRow.wideKeys == (Tryz.f6.params.toList ++ Rows.flatCyclesSpec.plain.varTypes Tryz.prog ++ Tryz.f6.resultTypes.toList).any (Tryz.prog.wideKeysFrom ·))) = true := by kernel_rfl
theorem flatCyclesC18 : (Rows.flatCyclesSpec.vars.all (Tryz.prog.varReadable ·)) = true := by kernel_rfl
theorem flatCyclesC19 : (Tryz.f6.resultTypes.all (fun t => Tryz.prog.readableRec t && decide (t < Tryz.prog.types.size))) = true := by kernel_rfl
theorem flatCyclesC20 : ((Rows.flatCyclesRow.ifacesOut == Tryz.f6.resultTypes.toList.any (Tryz.prog.ifacesRec ·))) = true := by kernel_rfl
theorem flatCyclesC21 : ((Rows.flatCyclesRow.loopsOut == Tryz.f6.resultTypes.toList.any (Tryz.prog.loopsFrom ·))) = true := by kernel_rfl
theorem flatCyclesC22 : ((Rows.flatCyclesRow.plainKeys == Tryz.prog.plainKeys)) = true := by kernel_rfl
theorem flatCyclesC23 : (Rows.flatCyclesRow.shortTexts.isNone) = true := by kernel_rfl
theorem flatCyclesC27 : ((Tryz.prog.make == some Rows.flatCyclesRow.make)) = true := by kernel_rfl
theorem flatCyclesC28 : ((Rows.flatCyclesRow.kinds == (if Rows.flatCyclesRow.domain.isEmpty then [] else Tryz.f6.params.toList.map fun t => match Tryz.prog.underlying t with | some (.int k) => some k | _ => none))) = true := by kernel_rfl
theorem flatCyclesC29 : ((Rows.flatCyclesRow.pinned == Rows.flatCyclesRow.pinnedBy)) = true := by kernel_rfl
theorem flatCyclesC30 : ((Rows.flatCyclesRow.veiled == (Tryz.f6.params.toList ++ Rows.flatCyclesSpec.plain.varTypes Tryz.prog ++ Tryz.f6.resultTypes.toList).any (Tryz.prog.veiledRec ·))) = true := by kernel_rfl
theorem flatCyclesC31 : (Rows.flatCyclesRow.veiledFits Tryz.prog Tryz.f6.params.toList (Tryz.f6.params.toList ++ Rows.flatCyclesSpec.plain.varTypes Tryz.prog ++ Tryz.f6.resultTypes.toList)) = true := by kernel_rfl
end Go.Proofs.YtlldkikmjeeamaaGreat

/-! ## ClosedYz -/
namespace Go.Proofs.YtlldkikmjeeamaaGreat
open Go.ChangeShapes Go.WideShapes Go.ChangeAt Go.RowKit Go.AM

set_option maxRecDepth 100000 in
theorem flatCyclesClosed : joinedFacts Tryz.prog 6 Tryz.f6 Rows.flatCyclesSpec Rows.flatCyclesRow = true := by
  unfold joinedFacts
  exact and_mk (and_mk (and_mk (and_mk (and_mk (and_mk (and_mk (and_mk (and_mk (and_mk (and_mk (and_mk (and_mk (and_mk (and_mk (and_mk (and_mk (and_mk (and_mk (and_mk (and_mk (and_mk (and_mk (and_mk (and_mk (and_mk (and_mk (and_mk (and_mk (and_mk (and_mk flatCyclesC0 cLaid) cRowed) flatCyclesC3) flatCyclesC4) flatCyclesC5) flatCyclesC6) flatCyclesC7) flatCyclesC8) flatCyclesC9) flatCyclesC10) flatCyclesC11) flatCyclesC12) flatCyclesC13) flatCyclesC14) flatCyclesC15) flatCyclesC16) flatCyclesC17) flatCyclesC18) flatCyclesC19) flatCyclesC20) flatCyclesC21) flatCyclesC22) flatCyclesC23) cHeard) cEnter) cLifts) flatCyclesC27) flatCyclesC28) flatCyclesC29) flatCyclesC30) flatCyclesC31
theorem flatCyclesNamed : Tryz.prog.funcNamed Rows.flatCyclesRow.func = some 6 := by kernel_rfl
end Go.Proofs.YtlldkikmjeeamaaGreat
