/-
  Walks: divisor, primitive.
-/
import Derived.Test.YtmkbhopiaohcmaaWC
namespace Go.AM
open Go Go.Proofs Go.RowKit

set_option maxRecDepth 100000 in
theorem con_divisor (a b : Nat) : Con Try.prog 51 [vi a, vi b] [] fun r _ => r = vi (Nat.gcd a b) := by
  refine Con.intro Try.func51 rfl Try.ntmps51 Try.results51 (by kernel_rfl) (by simp) 0 (by simp) ?_
  simp only [go_sem]
  refine LoopK.intro (fun p : Nat × Nat => ⟨12, [(0, vi p.1), (1, vi p.2)], []⟩) (fun p => p.2) (fun p => Nat.gcd p.1 p.2 = Nat.gcd a b) (a, b) rfl ?_ ?_
  · simp only [go_sem]
  rintro ⟨x, y⟩ hxy
  simp only at hxy
  by_cases h : 0 < y
  · have hne : (y : Int) ≠ 0 := by omega
    have hm : Int.tmod (x : Int) (y : Int) = ((x % y : Nat) : Int) := by rw [Int.tmod_eq_emod_of_nonneg (by omega)]; rfl
    simp only [go_sem, h]
    refine DrawK.walk 5 mixed (by kernel_rfl) ?_
    simp only [go_sem, hm]
    refine ⟨hne, roundK.intro (y, x % y) ?_ ?_ ?_⟩
    · simp only; rw [← hxy, Nat.gcd_comm x y, Nat.gcd_rec y x]; exact Nat.gcd_comm _ _
    · exact Nat.mod_lt _ h
    · simp only [go_sem]
  · have : y = 0 := by omega
    subst this
    simp only [go_sem]
    rw [← hxy, Nat.gcd_zero_right]

/-- the greatest common divisor of the first k -/
def gcdN (l : List Int) : Nat → Nat
  | 0 => 0
  | k + 1 => Nat.gcd (gcdN l k) l[k]!.natAbs
def gcdF (l : List Int) : Nat := gcdN l l.length
def primF (l : List Int) : List Int := l.map fun x => x.tdiv (gcdF l)

theorem gcdN_dvd {l : List Int} : ∀ k i, i < k → (gcdN l k) ∣ l[i]!.natAbs
  | 0, i, h => by omega
  | k + 1, i, h => by
    by_cases hi : i = k
    · subst hi; exact Nat.gcd_dvd_right _ _
    · exact Nat.dvd_trans (Nat.gcd_dvd_left _ _) (gcdN_dvd k i (by omega))
theorem gcdF_pos {l : List Int} {x : Int} (h : x ∈ l) (hx : x ≠ 0) : 0 < gcdF l := by
  obtain ⟨i, hi⟩ := List.getElem?_of_mem h
  have hil := (List.getElem?_eq_some_iff.1 hi).1
  have := gcdN_dvd (l := l) l.length i hil
  have e : l[i]! = x := by simp [hi]
  rw [e] at this
  exact Nat.pos_of_dvd_of_pos this (by omega)

/-- the first k have been divided -/
def divTo (l : List Int) (g : Int) (k : Nat) : List Int := (l.take k).map (fun x => x.tdiv g) ++ l.drop k
theorem divTo_zero (l : List Int) (g : Int) : divTo l g 0 = l := by simp [divTo]
theorem divTo_len (l : List Int) (g : Int) (k : Nat) : (divTo l g k).length = l.length := by simp [divTo]; omega
theorem divTo_end (l : List Int) (g : Int) : divTo l g l.length = l.map fun x => x.tdiv g := by simp [divTo]
theorem divTo_at {l : List Int} {g : Int} {k : Nat} (h : k < l.length) : (divTo l g k)[k]! = l[k]! := by
  simp only [divTo]
  rw [getElem!_pos _ _ (by simp; omega), List.getElem_append_right (by simp; omega)]
  simp [h, Nat.min_eq_left (Nat.le_of_lt h)]
theorem divTo_set {l : List Int} {g : Int} {k : Nat} (h : k < l.length) : (divTo l g k).set k (l[k]!.tdiv g) = divTo l g (k + 1) := by
  simp only [divTo]
  have hmin : min k l.length = k := by omega
  have e : l.take (k + 1) = l.take k ++ [l[k]!] := by rw [List.take_add_one, List.getElem?_eq_getElem h]; simp [h]
  rw [e, List.map_append, List.set_append_right _ _ (by simp; omega), List.length_map, List.length_take, hmin, Nat.sub_self, List.drop_eq_getElem_cons h, List.set_cons_zero, List.append_assoc]
  rfl

@[go_sem] theorem modify_vi {l : List Int} {i : Nat} {x : Int} : (l.map vi).modify i (updElem 0 [.sc (.int .i64 x)]) = (l.set i x).map vi := by
  apply List.ext_getElem?
  intro j
  simp only [List.getElem?_modify, List.getElem?_map, List.getElem?_set]
  by_cases h : i = j
  · subst h
    by_cases hi : i < l.length
    · simp [hi, updElem, vi]
    · simp [hi]
  · simp [h]

set_option maxRecDepth 100000 in
set_option maxHeartbeats 1000000 in
theorem con_primitive (l : List Int) (hl : l.length ≤ 1000000) (hb : ∀ x ∈ l, -4611686018427387904 ≤ x ∧ x ≤ 4611686018427387904) (hg : 0 < gcdF l) : Con Try.prog 37 [vs 0 l] [] fun r _ => r = vs 2 (primF l) := by
  refine Con.intro Try.func37 rfl Try.ntmps37 Try.results37 (by kernel_rfl) (by simp) 0 (by simp) ?_
  simp only [go_sem]
  refine LoopK.intro (fun k : Nat => ⟨35, [(0, vs 0 l), (3, vi (gcdN l k)), (8, vs 0 l), (9, vi l.length), (10, vi k)], []⟩) (fun k => l.length - k) (fun k => k ≤ l.length) 0 (by omega) ?_ ?_
  · simp only [go_sem, gcdN]
  intro k hk
  by_cases h : k < l.length
  · have hgk := getv h
    have hwk : IntKind.i64.wrap (k + 1) = k + 1 := wrap_in (by omega) (by omega)
    have hbk := hb l[k]! (mem_at h)
    have ha : max l[k]! (w64 (-l[k]!)) = (l[k]!.natAbs : Int) := by
      have : w64 (-l[k]!) = -l[k]! := wrap_in (by omega) (by omega)
      rw [this]; omega
    simp only [go_sem, h, hgk]
    refine CallU.free (con_amount l[k]!) (by simp only [go_sem]) (by simp only [go_sem]) ?_
    rintro r bx rfl
    simp only [go_sem, ha]
    refine CallU.free (con_divisor (gcdN l k) l[k]!.natAbs) (by simp only [go_sem]) (by simp only [go_sem]) ?_
    rintro r bx rfl
    simp only [go_sem, hwk]
    refine roundK.intro (k + 1) (by omega) (by omega) ?_
    simp only [go_sem, gcdN]
  have hkl : k = l.length := by omega
  simp only [go_sem, h]
  refine CallU.free (con_clone l (by omega)) (by simp only [go_sem]) (by simp only [go_sem]) ?_
  rintro r bx rfl
  subst hkl
  have hgc : gcdN l l.length = gcdF l := rfl
  simp only [go_sem, hgc]
  refine LoopK.intro (fun k : Nat => ⟨35, [(3, vi (gcdF l)), (6, vs 1346 (divTo l (gcdF l) k)), (22, vi l.length), (23, vi k)], []⟩) (fun k => l.length - k) (fun k => k ≤ l.length) 0 (by omega) ?_ ?_
  · simp only [go_sem, divTo_zero]
  intro k hk
  by_cases h2 : k < l.length
  · have hgk := getv (l := divTo l (gcdF l) k) (i := k) (by rw [divTo_len]; exact h2)
    rw [divTo_at h2] at hgk
    have hwk : IntKind.i64.wrap (k + 1) = k + 1 := wrap_in (by omega) (by omega)
    have hbk := hb l[k]! (mem_at h2)
    have hne : (gcdF l : Int) ≠ 0 := by omega
    have hq : IntKind.i64.wrap (l[k]!.tdiv (gcdF l)) = l[k]!.tdiv (gcdF l) := by
      have h1 : (l[k]!.tdiv (gcdF l)).natAbs ≤ l[k]!.natAbs := by rw [Int.natAbs_tdiv]; exact Nat.div_le_self _ _
      exact wrap_in (by omega) (by omega)
    simp only [go_sem, h2, hgk, divTo_len, hq]
    refine ⟨hne, ?_⟩
    simp only [go_sem, h2, divTo_len, divTo_set h2, hwk]
    refine roundK.intro (k + 1) (by omega) (by omega) ?_
    simp only [go_sem]
  · have hkl : k = l.length := by omega
    subst hkl
    simp only [go_sem, h2, divTo_end, primF]
end Go.AM
