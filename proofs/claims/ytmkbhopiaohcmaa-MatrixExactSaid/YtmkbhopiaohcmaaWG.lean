/-
  The walk of MatrixKernel.
-/
import Derived.Test.YtmkbhopiaohcmaaLc
import Derived.Test.YtmkbhopiaohcmaaW8
namespace Go.AM
open Go Go.Proofs Go.RowKit
open Go.La (sum)

/-- what the kernel's vectors are, as the law asks it -/
structure KernOk (m : List (List Int)) (k : List (List Int)) : Prop where
  wide : ∀ v ∈ k, v.length = m[0]!.length
  bound : ∀ v ∈ k, ∀ x ∈ v, -1000000000000 ≤ x ∧ x ≤ 1000000000000
  one : ∀ v ∈ k, gcdF v = 1
  zero : ∀ v ∈ k, ∀ i, i < m.length → sum (fun j => m[i]![j]! * v[j]!) m[0]!.length = 0

theorem kern_ok {m : List (List Int)} (hV : Valid m) : KernOk m (kernGo m (leadF m).1 (leadF m).2 (detF m (leadF m).1 (leadF m).2) m[0]!.length m[0]!.length) ∧
    (kernGo m (leadF m).1 (leadF m).2 (detF m (leadF m).1 (leadF m).2) m[0]!.length m[0]!.length).length + (leadF m).1.length = m[0]!.length := by
  obtain ⟨L1, L2, L3, L4⟩ := lead_len hV
  refine ⟨?_, ?_⟩
  · obtain ⟨n, hn⟩ : ∃ n, n = m[0]!.length := ⟨_, rfl⟩
    obtain ⟨D, hD⟩ : ∃ D, D = detF m (leadF m).1 (leadF m).2 := ⟨_, rfl⟩
    have hdet : ∀ cols, Below m[0]!.length cols → cols.length ≤ 6 → -1000000000000 ≤ detF m (leadF m).1 cols ∧ detF m (leadF m).1 cols ≤ 1000000000000 := fun cols hc hcl => by
      obtain ⟨e1, e2, e3⟩ := det_eq m m[0]!.length hV.wide hV.slight (leadF m).1 cols L3 hc L1 hcl
      have : (96 : Int) ^ (leadF m).1.length ≤ 1000000000000 := by
        have h : (leadF m).1.length = 0 ∨ (leadF m).1.length = 1 ∨ (leadF m).1.length = 2 ∨ (leadF m).1.length = 3 ∨ (leadF m).1.length = 4 ∨ (leadF m).1.length = 5 ∨ (leadF m).1.length = 6 := by omega
        rcases h with h | h | h | h | h | h | h <;> rw [h] <;> decide
      omega
    have hDb := hdet (leadF m).2 L4 (by omega)
    have hDne : detF m (leadF m).1 (leadF m).2 ≠ 0 := lead_ne m m[0]!.length
    rw [← hD] at hDb hDne ⊢
    rw [← hn]
    have key : ∀ f, f ≤ n → ∀ v ∈ kernGo m (leadF m).1 (leadF m).2 D n f, v.length = n ∧ (∀ x ∈ v, -1000000000000 ≤ x ∧ x ≤ 1000000000000) ∧ gcdF v = 1 ∧ ∀ i, i < m.length → sum (fun j => m[i]![j]! * v[j]!) n = 0 := by
      intro f
      induction f with
      | zero => intro _ v hv; simp [kernGo] at hv
      | succ f ih =>
        intro hf v hv
        simp only [kernGo] at hv
        split at hv
        · exact ih (by omega) v hv
        · rename_i hc
          rcases List.mem_append.1 hv with hv | hv
          · exact ih (by omega) v hv
          simp only [List.mem_singleton] at hv
          subst hv
          have hnf : ¬ (f : Int) ∈ (leadGo m n).2 := fun h => hc (List.any_eq_true.2 ⟨f, by rw [leadF, ← hn]; exact h, by simp⟩)
          have hp : pickF m (leadGo m f) f = none := by
            cases hp : pickF m (leadGo m f) f with
            | none => rfl
            | some i => exact absurd ((lead_mem m f n).2 ⟨by omega, by rw [hp]; rfl⟩) hnf
          have hnf2 : ∀ x ∈ (leadF m).2, x.toNat ≠ f := fun x hx e => by
            have := L4 x hx
            exact hnf (by rw [leadF, ← hn] at hx; rw [show (f : Int) = x by omega]; exact hx)
          have hB : ∀ k, Below m[0]!.length ((leadF m).2.set k f) := fun k x hx => by
            rcases List.mem_or_eq_of_mem_set hx with h' | h'
            · exact L4 x h'
            · omega
          have hfr := kv_free (m := m) (rows := (leadF m).1) (all := D) (f := f) (n := n) (by omega) hnf2 (leadF m).2.length (Nat.le_refl _)
          have hamt : amtF D ≠ 0 ∧ -1000000000000 ≤ amtF D ∧ amtF D ≤ 1000000000000 := by
            have e : w64 (-D) = -D := wrap_in (by omega) (by omega)
            rw [amtF, e]; omega
          have hkvl : (kvF m (leadF m).1 (leadF m).2 D f n).length = n := kvGo_len m (leadF m).1 (leadF m).2 D f n (leadF m).2.length
          have hmem : amtF D ∈ kvF m (leadF m).1 (leadF m).2 D f n := by rw [← hfr]; exact mem_at (show f < (kvF m (leadF m).1 (leadF m).2 D f n).length by omega)
          have hg := gcdF_pos hmem hamt.1
          have hb : ∀ k, k ≤ (leadF m).2.length → ∀ x ∈ kvGo m (leadF m).1 (leadF m).2 D f n k, -1000000000000 ≤ x ∧ x ≤ 1000000000000 := by
            intro k
            induction k with
            | zero =>
              intro _ x hx
              simp only [kvGo] at hx
              rcases List.mem_or_eq_of_mem_set hx with h | h
              · have := List.eq_of_mem_replicate h; omega
              · omega
            | succ k ihk =>
              intro hk x hx
              have hd := hdet ((leadF m).2.set k f) (hB k) (by simp; omega)
              rw [kv_step hd] at hx
              rcases List.mem_or_eq_of_mem_set hx with h | h
              · exact ihk (by omega) x h
              · rw [h, numK]; split <;> omega
          have hz : ∀ i, i < m.length → sum (fun j => m[i]![j]! * (kvF m (leadF m).1 (leadF m).2 D f n)[j]!) n = 0 := fun i hi => by
            have := kv_zero hV (f := f) (by omega) hp hi
            rw [← hD, ← hn] at this
            exact this
          refine ⟨by simp [primF, hkvl], prim_bound (hb _ (Nat.le_refl _)), prim_one hg, fun i hi => prim_zero hg (hz i hi)⟩
    exact ⟨fun v hv => by rw [← hn]; exact (key n (Nat.le_refl _) v hv).1, fun v hv => (key n (Nat.le_refl _) v hv).2.1, fun v hv => (key n (Nat.le_refl _) v hv).2.2.1, fun v hv => by rw [← hn]; exact (key n (Nat.le_refl _) v hv).2.2.2⟩
  · have := kern_count m (leadF m).1 (detF m (leadF m).1 (leadF m).2) m[0]!.length m[0]!.length (Nat.le_refl _)
    have e : (leadGo m m[0]!.length).2.length = (leadF m).1.length := by
      have := L2; unfold leadF at this ⊢; exact this
    rw [e] at this
    exact this

theorem check_small {m : List (List Int)} {n c : Nat} (hn : m.length = n) (h1 : 1 ≤ n) (h2 : n ≤ 6) (h3 : 1 ≤ c) (h4 : c ≤ 12) (hm : ∀ row ∈ m, RowOk c row) : checkF m = 0 := by
  have h0 : m[0]!.length = c := (hm _ (mem_at (by omega))).1
  have hbad : m.any (badRow c) = false := by
    rw [List.any_eq_false]
    intro row hr
    obtain ⟨g1, g2⟩ := hm row hr
    have : row.any lawBad = false := by
      rw [List.any_eq_false]
      intro x hx
      have := g2 x hx
      simp only [lawBad, Bool.or_eq_true, decide_eq_true_eq]; omega
    simp [badRow, g1, this]
  unfold checkF
  rw [h0, if_neg (by omega), if_neg (by omega), hbad]; rfl

theorem sum_bound {F : Nat → Int} {b : Int} (hb : 0 ≤ b) : ∀ n, (∀ k, k < n → -b ≤ F k ∧ F k ≤ b) → -(n * b) ≤ sum F n ∧ sum F n ≤ n * b
  | 0, _ => by simp [sum]
  | n + 1, h => by
    have h1 := sum_bound hb n fun k hk => h k (by omega)
    have h2 := h n (by omega)
    have e : ((n + 1 : Nat) : Int) * b = n * b + b := by rw [Int.natCast_add, Int.add_mul]; simp
    simp only [sum]; rw [e]; omega

set_option maxRecDepth 100000 in
set_option maxHeartbeats 4000000 in
theorem con_kernelLaw (l : List Int) : Con Try.prog 3 [vs 0 l] [] fun r _ => r = .sc (.bool true) := by
  refine Con.intro Try.func3 rfl Try.ntmps3 Try.results3 (by kernel_rfl) (by simp) 0 (by simp) ?_
  simp only [go_sem]
  refine CallU.free awake (by simp only [go_sem]) (by simp only [go_sem]) ?_
  rintro r bx rfl
  simp only [go_sem]
  refine CallU.free (con_few l 0 (by omega)) (by simp only [go_sem]) (by simp only [go_sem]) ?_
  rintro r bx rfl
  by_cases hf : ¬ l.length ≤ 400
  · simp only [go_sem, hf]
    refine CallU.free awake (by simp only [go_sem]) (by simp only [go_sem]) ?_
    rintro r bx rfl
    simp only [go_sem]
  have hf : l.length ≤ 400 := by omega
  have hl : l.length ≤ 140737488355328 := by omega
  simp only [go_sem, hf]
  refine CallU.news (bx0 := []) (con_new l) (by simp only [go_sem]) (by simp only [go_sem]) (by simp only [go_sem]) (by simp only [go_sem]) (by simp only [go_sem]) ?_
  rintro r bx ⟨rfl, rfl⟩
  simp only [go_sem]
  refine CallU.boxes (i := 0) (is := []) (bx0 := [deckA l 0 11400714819323198485]) (con_next l 0 11400714819323198485 4 (by omega) hl (by omega)) (by simp only [go_sem]) (by simp only [go_sem]) (by simp only [go_sem]) (by simp only [go_sem]) (by simp only [go_sem]) ?_
  rintro r bx ⟨v1, a1, s1, rfl, p1, p2, p3, rfl⟩
  obtain ⟨n, hn, hn1, hn4⟩ : ∃ n : Nat, IntKind.i64.wrap (1 + v1) = n ∧ 1 ≤ n ∧ n ≤ 4 := ⟨(1 + v1).toNat, by rw [wrap_in (by omega) (by omega)]; omega, by omega, by omega⟩
  simp only [go_sem, hn]
  refine CallU.boxes (i := 0) (is := []) (bx0 := [deckA l a1 s1]) (con_next l a1 s1 5 p3 hl (by omega)) (by simp only [go_sem]) (by simp only [go_sem]) (by simp only [go_sem]) (by simp only [go_sem]) (by simp only [go_sem]) ?_
  rintro r bx ⟨v2, a2, s2, rfl, q1, q2, q3, rfl⟩
  obtain ⟨c, hc, hc1, hc6⟩ : ∃ c : Nat, IntKind.i64.wrap (1 + v2) = c ∧ 1 ≤ c ∧ c ≤ 5 := ⟨(1 + v2).toNat, by rw [wrap_in (by omega) (by omega)]; omega, by omega, by omega⟩
  simp only [go_sem, hc]
  refine CallU.boxes (i := 0) (is := []) (bx0 := [deckA l a2 s2]) (con_matrix l a2 s2 n c q3 hl (by omega) (by omega)) (by simp only [go_sem]) (by simp only [go_sem]) (by simp only [go_sem]) (by simp only [go_sem]) (by simp only [go_sem]) ?_
  rintro r bx ⟨m, a3, s3, rfl, m1, m2, m3, rfl⟩
  have hck := check_small m1 (by omega) (by omega) hc1 (by omega) m2
  have hV := check_ok hck
  have hfit : Fits m := ⟨by omega, fun row hr => by rw [(m2 row hr).1]; omega⟩
  have h0 : m[0]!.length = c := (m2 _ (mem_at (by omega))).1
  obtain ⟨hK, hcount⟩ := kern_ok hV
  have hkf : kernF m = (kernGo m (leadF m).1 (leadF m).2 (detF m (leadF m).1 (leadF m).2) m[0]!.length m[0]!.length, 0) := by rw [kernF, if_pos hck]
  have hrf : rankF m = (((leadF m).1.length : Int), 0) := by rw [rankF, if_pos hck]
  obtain ⟨K, hKd⟩ : ∃ K, K = kernGo m (leadF m).1 (leadF m).2 (detF m (leadF m).1 (leadF m).2) m[0]!.length m[0]!.length := ⟨_, rfl⟩
  obtain ⟨R, hR⟩ : ∃ R, R = (leadF m).1.length := ⟨_, rfl⟩
  rw [← hKd] at hK hcount hkf
  rw [← hR] at hcount hrf
  rw [h0] at hcount
  have hp := hV.pos
  have hg0 := getm hp
  have hsum : IntKind.i64.wrap ((K.length : Int) + (R : Int)) = (c : Int) := by rw [wrap_in (by omega) (by omega)]; omega
  simp only [go_sem]
  refine CallU.freeze (con_kernel m hfit) (by simp only [go_sem]) (by simp only [go_sem]) ?_
  rintro r bx rfl
  rw [hkf]
  simp only [go_sem, vpairm]
  refine CallU.freeze (con_rank m hfit) (by simp only [go_sem]) (by simp only [go_sem]) ?_
  rintro r bx rfl
  rw [hrf]
  simp only [go_sem, hp, hg0, h0, hsum]
  have hnK : K.length ≤ 5 := by omega
  refine LoopK.intro (fun q : Nat => ⟨120, [(4, vm 0 m), (65, vm 2626 K), (66, vi K.length), (67, vi q)], [[.any, .any, .any]]⟩)
    (fun q => K.length - q) (fun q => q ≤ K.length) 0 (by omega) ?_ ?_
  · simp only [go_sem]
  intro q hq
  by_cases hqk : ¬ q < K.length
  · simp only [go_sem, hqk]
  have hqk : q < K.length := by omega
  have hgq := getm hqk
  have hwq : IntKind.i64.wrap (q + 1) = q + 1 := wrap_in (by omega) (by omega)
  obtain ⟨v, hv⟩ : ∃ v, v = K[q]! := ⟨_, rfl⟩
  have hvm : v ∈ K := by rw [hv]; exact mem_at hqk
  have hvl := hK.wide v hvm
  have hvb := hK.bound v hvm
  have hv1 := hK.one v hvm
  have hv0 := hK.zero v hvm
  rw [h0] at hvl hv0
  rw [← hv] at hgq
  simp only [go_sem, hqk, hgq]
  refine LoopK.intro (fun j : Nat => ⟨120, [(4, vm 0 m), (65, vm 2626 K), (66, vi K.length), (67, vi q), (10, vs 0 v), (11, vi (gcdN v j)), (71, vs 0 v), (72, vi v.length), (73, vi j)], [[.any, .any, .any]]⟩)
    (fun j => v.length - j) (fun j => j ≤ v.length) 0 (by omega) ?_ ?_
  · simp only [go_sem, gcdN]
  intro j hj
  by_cases hjv : j < v.length
  · have hgj := getv hjv
    have hwj : IntKind.i64.wrap (j + 1) = j + 1 := wrap_in (by omega) (by omega)
    have hbj := hvb v[j]! (mem_at hjv)
    have hneg : IntKind.i64.wrap (0 - v[j]!) = - v[j]! := by rw [Int.zero_sub]; exact wrap_in (by omega) (by omega)
    have hmax : max v[j]! (- v[j]!) = (v[j]!.natAbs : Int) := by omega
    simp only [go_sem, hjv, hgj, hneg, hmax]
    refine LoopK.intro (fun p : Nat × Nat => ⟨120, [(4, vm 0 m), (65, vm 2626 K), (66, vi K.length), (67, vi q), (10, vs 0 v), (71, vs 0 v), (72, vi v.length), (73, vi j), (14, vi p.1), (15, vi p.2)], [[.any, .any, .any]]⟩)
      (fun p => p.2) (fun p => Nat.gcd p.1 p.2 = gcdN v (j + 1)) (v[j]!.natAbs, gcdN v j) (by simp only [gcdN]; exact Nat.gcd_comm _ _) ?_ ?_
    · simp only [go_sem]
    rintro ⟨x, y⟩ hxy
    simp only at hxy
    by_cases hy : y = 0
    · subst hy
      rw [Nat.gcd_zero_right] at hxy
      subst hxy
      simp only [go_sem, hwj]
      refine roundK.intro (j + 1) (by omega) (by omega) ?_
      simp only [go_sem]
    · have hyb : ((y : Int) == 0) = false := by simp; omega
      have hm : Int.tmod (x : Int) (y : Int) = ((x % y : Nat) : Int) := by rw [Int.tmod_eq_emod_of_nonneg (by omega)]; rfl
      simp only [go_sem, hyb]
      refine DrawK.walk 5 mixed (by kernel_rfl) ?_
      simp only [go_sem, hm]
      refine ⟨by omega, roundK.intro (y, x % y) ?_ ?_ ?_⟩
      · simp only; rw [← hxy, Nat.gcd_comm x y, Nat.gcd_rec y x]; exact Nat.gcd_comm _ _
      · exact Nat.mod_lt _ (by omega)
      · simp only [go_sem]
  have hjl : j = v.length := by omega
  subst hjl
  have hgc : gcdN v v.length = 1 := hv1
  simp only [go_sem, hjv, hgc]
  refine LoopK.intro (fun i : Nat => ⟨120, [(4, vm 0 m), (65, vm 2626 K), (66, vi K.length), (67, vi q), (10, vs 0 v), (93, vi m.length), (94, vi i)], [[.any, .any, .any]]⟩)
    (fun i => m.length - i) (fun i => i ≤ m.length) 0 (by omega) ?_ ?_
  · simp only [go_sem]
  intro i hi
  by_cases him : i < m.length
  · have hgi := getm him
    have hwi : IntKind.i64.wrap (i + 1) = i + 1 := wrap_in (by omega) (by omega)
    have hrow := m2 m[i]! (mem_at him)
    have hrl : m[i]!.length = c := hrow.1
    have hz := hv0 i him
    simp only [go_sem, him]
    refine LoopK.intro (fun k : Nat => ⟨120, [(4, vm 0 m), (65, vm 2626 K), (66, vi K.length), (67, vi q), (10, vs 0 v), (93, vi m.length), (94, vi i), (16, vi i), (17, vi (sum (fun j => m[i]![j]! * v[j]!) k)), (97, vs 0 v), (98, vi v.length), (99, vi k)], [[.any, .any, .any]]⟩)
      (fun k => v.length - k) (fun k => k ≤ v.length) 0 (by omega) ?_ ?_
    · simp only [go_sem, sum]
    intro k hk
    by_cases hkv : k < v.length
    · have hgk := getv hkv
      have hkm : k < m[i]!.length := by omega
      have hgm := getv hkm
      have hwk : IntKind.i64.wrap (k + 1) = k + 1 := wrap_in (by omega) (by omega)
      have hb1 := hvb v[k]! (mem_at hkv)
      have hb2 := hrow.2 m[i]![k]! (mem_at hkm)
      have hbm := mul_bound hb2.1 hb2.2 hb1.1 hb1.2
      have hbs := sum_bound (F := fun j => m[i]![j]! * v[j]!) (b := 16 * 1000000000000) (by omega) k (fun j hj => mul_bound (hrow.2 m[i]![j]! (mem_at (by omega))).1 (hrow.2 m[i]![j]! (mem_at (by omega))).2 (hvb v[j]! (mem_at (by omega))).1 (hvb v[j]! (mem_at (by omega))).2)
      have hk5 : (k : Int) * (16 * 1000000000000) ≤ 5 * (16 * 1000000000000) := Int.mul_le_mul_of_nonneg_right (by omega) (by omega)
      have hw1 : IntKind.i64.wrap (m[i]![k]! * v[k]!) = m[i]![k]! * v[k]! := wrap_in (by omega) (by omega)
      have hw2 : IntKind.i64.wrap (sum (fun j => m[i]![j]! * v[j]!) k + m[i]![k]! * v[k]!) = sum (fun j => m[i]![j]! * v[j]!) (k + 1) := by
        simp only [sum]; exact wrap_in (by omega) (by omega)
      simp only [go_sem, hkv, hgk, him, hgi, hkm, hgm, hw1, hw2, hwk]
      refine roundK.intro (k + 1) (by omega) (by omega) ?_
      simp only [go_sem]
    · have hkl : k = c := by omega
      subst hkl
      simp only [go_sem, hkv, hz, hwi]
      refine roundK.intro (i + 1) (by omega) (by omega) ?_
      simp only [go_sem]
  · simp only [go_sem, him, hwq]
    refine roundK.intro (q + 1) (by omega) (by omega) ?_
    simp only [go_sem]
end Go.AM
