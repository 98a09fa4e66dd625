/-
  Walks: the reference's products and numbers.
-/
import Derived.Test.YtmkbhopiaohcmaaWN
import Derived.Test.YtmkbhopiaohcmaaWG
namespace Go.AM
open Go Go.Proofs Go.RowKit

set_option maxRecDepth 100000 in
theorem con_has (l : List Int) (x : Int) (hl : l.length ≤ 140737488355328) : Con Try.prog 44 [vs 0 l, vi x] [] fun r _ => r = .sc (.bool (l.any fun y => y == x)) := by
  refine Con.intro Try.func44 rfl Try.ntmps44 Try.results44 (by kernel_rfl) (by simp) 0 (by simp) ?_
  simp only [go_sem]
  refine LoopK.intro (fun i : Nat => ⟨18, [(0, vs 0 l), (1, vi x), (5, vi i)], []⟩)
    (fun i => l.length - i) (fun i => i ≤ l.length ∧ ∀ j, j < i → (l[j]! == x) = false) 0 ⟨by omega, fun j hj => by omega⟩ ?_ ?_
  · simp only [go_sem]
  rintro i ⟨hi, hb⟩
  by_cases h : i < l.length
  · have hg := getv h
    have hw : IntKind.i64.wrap (i + 1) = i + 1 := wrap_in (by omega) (by omega)
    cases he : l[i]! == x
    · simp only [go_sem, h, hg, he, hw]
      refine roundK.intro (i + 1) ⟨by omega, fun j hj => ?_⟩ (by omega) ?_
      · by_cases hji : j = i
        · rw [hji]; exact he
        · exact hb j (by omega)
      · simp only [go_sem]
    · have := any_stop (p := fun y => y == x) h he
      simp only [go_sem, h, hg, he, this]
  · have := any_none (p := fun y => y == x) (fun j hj => hb j (by omega))
    simp only [go_sem, h, this]

set_option maxRecDepth 100000 in
theorem con_times (l : List Int) (x : Int) (hl : l.length ≤ 1000000) : Con Try.prog 53 [vs 0 l, vi x] [] fun r _ => r = vs 2 (l.map fun y => w64 (y * x)) := by
  refine Con.intro Try.func53 rfl Try.ntmps53 Try.results53 (by kernel_rfl) (by simp) 0 (by simp) ?_
  simp only [go_sem]
  refine LoopK.intro (fun i : Nat => ⟨23, [(0, vs 0 l), (1, vi x), (5, .sl 1408 1 (((l.map fun y => w64 (y * x)).take i).map vi)), (6, vi i)], []⟩)
    (fun i => l.length - i) (fun i => i ≤ l.length) 0 (by omega) ?_ ?_
  · simp only [go_sem]
  intro i hi
  by_cases h : i < l.length
  · have hg := getv h
    have hw : IntKind.i64.wrap (i + 1) = i + 1 := wrap_in (by omega) (by omega)
    simp only [go_sem, h, hg, hw]
    refine ⟨by simp [roomFor]; omega, roundK.intro (i + 1) (by omega) (by omega) ?_⟩
    simp only [go_sem]
    refine leV_sl ?_
    have hm : i < (l.map fun y => w64 (y * x)).length := by simpa using h
    rw [List.take_add_one, List.getElem?_eq_getElem hm, ← getElem!_pos (l.map fun y => w64 (y * x)) i hm, List.map_append]
    have : (l.map fun y => w64 (y * x))[i]! = w64 (l[i]! * x) := by simp [h]
    rw [this]; rfl
  · have e : (l.map fun y => w64 (y * x)).take i = l.map fun y => w64 (y * x) := List.take_of_length_le (by simp; omega)
    simp only [go_sem, h, e]

set_option maxRecDepth 100000 in
theorem con_gcd (a b : Int) (ha : -4611686018427387904 ≤ a ∧ a ≤ 4611686018427387904) (hb : -4611686018427387904 ≤ b ∧ b ≤ 4611686018427387904) : Con Try.prog 45 [vi a, vi b] [] fun r _ => r = vi (Nat.gcd a.natAbs b.natAbs) := by
  refine Con.intro Try.func45 rfl Try.ntmps45 Try.results45 (by kernel_rfl) (by simp) 0 (by simp) ?_
  have hwa : a < 0 → IntKind.i64.wrap (0 - a) = a.natAbs := fun h => by rw [wrap_in (by omega) (by omega)]; omega
  have hwb : b < 0 → IntKind.i64.wrap (0 - b) = b.natAbs := fun h => by rw [wrap_in (by omega) (by omega)]; omega
  have hpa : ¬ a < 0 → a = (a.natAbs : Int) := fun h => by omega
  have hpb : ¬ b < 0 → b = (b.natAbs : Int) := fun h => by omega
  by_cases h1 : a < 0 <;> by_cases h2 : b < 0
  all_goals first
    | simp only [go_sem, h1, h2, hwa h1, hwb h2]
    | simp only [go_sem, h1, h2, hwa h1]
    | simp only [go_sem, h1, h2, hwb h2]
    | simp only [go_sem, h1, h2]
  all_goals
    refine LoopK.intro (fun p : Nat × Nat => ⟨20, [(0, vi p.1), (1, vi p.2)], []⟩) (fun p => p.2) (fun p => Nat.gcd p.1 p.2 = Nat.gcd a.natAbs b.natAbs) (a.natAbs, b.natAbs) rfl ?_ ?_
    · simp only [go_sem]
      try rw [← hpa h1]
      try rw [← hpb h2]
      try simp only [go_sem]
    rintro ⟨x, y⟩ hxy
    simp only at hxy
    by_cases h : 0 < y
    · have hne : (y : Int) ≠ 0 := by omega
      have hneb : ((y : Int) != 0) = true := bne_iff_ne.2 hne
      have hm : Int.tmod (x : Int) (y : Int) = ((x % y : Nat) : Int) := by rw [Int.tmod_eq_emod_of_nonneg (by omega)]; rfl
      simp only [go_sem, hneb]
      refine DrawK.walk 6 mixed (by kernel_rfl) ?_
      simp only [go_sem, hm]
      refine ⟨hne, roundK.intro (y, x % y) ?_ ?_ ?_⟩
      · simp only; rw [← hxy, Nat.gcd_comm x y, Nat.gcd_rec y x]; exact Nat.gcd_comm _ _
      · exact Nat.mod_lt _ h
      · simp only [go_sem]
    · have : y = 0 := by omega
      subst this
      simp only [go_sem]
      rw [← hxy, Nat.gcd_zero_right]

theorem prim_same {l : List Int} (h : gcdF l ≤ 1) : primF l = l := by
  unfold primF
  rcases Nat.lt_or_ge 0 (gcdF l) with h1 | h1
  · have : gcdF l = 1 := by omega
    rw [this]
    simp
  · have hg : gcdF l = 0 := by omega
    have h0 : ∀ x ∈ l, x = 0 := fun x hx => by
      apply Classical.byContradiction
      intro hne
      have := gcdF_pos hx hne
      omega
    rw [hg]
    conv => rhs; rw [← List.map_id l]
    refine List.map_congr_left fun x hx => ?_
    rw [h0 x hx]; rfl

set_option maxRecDepth 100000 in
set_option maxHeartbeats 1000000 in
theorem con_refPrim (l : List Int) (hl : l.length ≤ 1000000) (hb : ∀ x ∈ l, -4611686018427387904 ≤ x ∧ x ≤ 4611686018427387904) : Con Try.prog 46 [vs 0 l] [] fun r _ => r = vs 2 (primF l) := by
  refine Con.intro Try.func46 rfl Try.ntmps46 Try.results46 (by kernel_rfl) (by simp) 0 (by simp) ?_
  simp only [go_sem]
  have hgb : ∀ k, k ≤ l.length → gcdN l k ≤ 4611686018427387904 := by
    intro k
    induction k with
    | zero => intro _; simp [gcdN]
    | succ k ih =>
      intro hk
      have hbk := hb l[k]! (mem_at (by omega))
      have ih := ih (by omega)
      simp only [gcdN]
      by_cases h0 : gcdN l k = 0
      · rw [h0, Nat.gcd_zero_left]; omega
      · exact Nat.le_trans (Nat.gcd_le_left _ (by omega)) ih
  refine LoopK.intro (fun k : Nat => ⟨39, [(0, vs 0 l), (3, vi (gcdN l k)), (4, vi k)], []⟩) (fun k => l.length - k) (fun k => k ≤ l.length) 0 (by omega) ?_ ?_
  · simp only [go_sem, gcdN]
  intro k hk
  by_cases h : k < l.length
  · have hgk := getv h
    have hwk : IntKind.i64.wrap (k + 1) = k + 1 := wrap_in (by omega) (by omega)
    have hbk := hb l[k]! (mem_at h)
    have hg := hgb k hk
    simp only [go_sem, h, hgk]
    refine CallU.free (con_gcd (gcdN l k) l[k]! (by omega) (by omega)) (by simp only [go_sem]) (by simp only [go_sem]) ?_
    rintro r bx rfl
    simp only [go_sem, hwk, Int.natAbs_natCast]
    refine roundK.intro (k + 1) (by omega) (by omega) ?_
    simp only [go_sem, gcdN]
  have hkl : k = l.length := by omega
  subst hkl
  have hgc : gcdN l l.length = gcdF l := rfl
  simp only [go_sem, h, hgc]
  refine ⟨by simp [roomFor]; omega, ?_⟩
  refine LoopK.intro (fun k : Nat => ⟨39, [(3, vi (gcdF l)), (5, vs 1344 (divTo l (gcdF l) k)), (6, vi k)], []⟩) (fun k => l.length - k) (fun k => k ≤ l.length ∧ (0 < k → 1 < gcdF l)) 0 ⟨by omega, by omega⟩ ?_ ?_
  · simp only [go_sem, divTo_zero]
  rintro k ⟨hk, hk1⟩
  by_cases h2 : k < l.length
  · have hgk := getv (l := divTo l (gcdF l) k) (i := k) (by rw [divTo_len]; exact h2)
    rw [divTo_at h2] at hgk
    have hwk : IntKind.i64.wrap (k + 1) = k + 1 := wrap_in (by omega) (by omega)
    have hbk := hb l[k]! (mem_at h2)
    by_cases h3 : 1 < gcdF l
    · have hne : (gcdF l : Int) ≠ 0 := by omega
      have hq : IntKind.i64.wrap (l[k]!.tdiv (gcdF l)) = l[k]!.tdiv (gcdF l) := by
        have h1 : (l[k]!.tdiv (gcdF l)).natAbs ≤ l[k]!.natAbs := by rw [Int.natAbs_tdiv]; exact Nat.div_le_self _ _
        exact wrap_in (by omega) (by omega)
      simp only [go_sem, h2, h3, hgk, divTo_len, hq]
      refine ⟨hne, ?_⟩
      simp only [go_sem, h2, divTo_len, divTo_set h2, hwk]
      refine roundK.intro (k + 1) ⟨by omega, fun _ => trivial⟩ (by omega) ?_
      simp only [go_sem]
    · have hk0 : k = 0 := by
        apply Classical.byContradiction
        intro hne; exact h3 (hk1 (by omega))
      subst hk0
      have := prim_same (l := l) (by omega)
      simp only [go_sem, h2, h3, divTo_len, divTo_zero, this]
  · have hkl : k = l.length := by omega
    subst hkl
    simp only [go_sem, h2, divTo_len, divTo_end, primF]
end Go.AM
