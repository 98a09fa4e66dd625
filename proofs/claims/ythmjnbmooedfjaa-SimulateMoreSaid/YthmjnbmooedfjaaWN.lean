/-
  Walks: Compact, at any list that the call owns.
-/
import Derived.Test.YthmjnbmooedfjaaWM
import Derived.Test.YthmjnbmooedfjaaWG
namespace Go.AM
open Go Go.Proofs Go.RowKit

/-- an element stays: it is the first, or differs from the one before it -/
def keepsL (l : List Int) (j : Nat) : Bool := decide (j = 0) || decide (l[j]! ≠ l[j - 1]!)
/-- what stays of the first m elements -/
def upTo (l : List Int) (m : Nat) : List Int := ((List.range m).filter (keepsL l)).map fun j => l[j]!
def uniq (l : List Int) : List Int := upTo l l.length
theorem upTo_succ (l : List Int) (m : Nat) : upTo l (m + 1) = upTo l m ++ (if keepsL l m = true then [l[m]!] else []) := by
  unfold upTo
  rw [List.range_succ, List.filter_append, List.map_append]
  cases h : keepsL l m <;> simp [h]
theorem upTo_all {l : List Int} : ∀ {m : Nat}, m ≤ l.length → (∀ j, j < m → keepsL l j = true) → upTo l m = l.take m
  | 0, _, _ => by simp [upTo]
  | m + 1, hm, h => by
    rw [upTo_succ, upTo_all (by omega) fun j hj => h j (by omega), h m (by omega), take_snoc (by omega)]; simp
theorem keeps_one {l : List Int} : ∀ j, j < 1 → keepsL l j = true := fun j hj => by
  have : j = 0 := by omega
  subst this; rfl
theorem modify_vi {Z : List Int} {q : Nat} {x : Int} : (List.map vi Z).modify q (updElem 0 [AV.sc (.int .i64 x)]) = List.map vi (Z.set q x) := by
  apply List.ext_getElem?
  intro j
  rw [List.getElem?_modify, List.getElem?_map, List.getElem?_map, List.getElem?_set]
  by_cases hq : q = j
  · subst hq
    by_cases hl : q < Z.length
    · simp [hl, vi, updElem]
    · simp [hl]
  · simp [hq]
theorem uniq_short {l : List Int} (h : l.length < 2) : uniq l = l := by
  match l, h with
  | [], _ => rfl
  | [x], _ => rfl

set_option maxRecDepth 100000 in
theorem conc_compact55 (l : List Int) (hl : l.length ≤ 1000000000000) : ConC Try.prog 55 [.sl 2 1 (l.map vi)] fun r => r = .sl 2 1 ((uniq l).map vi) := by
  refine ConC.intro Try.func55 rfl Try.ntmps55 Try.results55 (by kernel_rfl) (by simp) ?_
  by_cases h : (l.length : Int) < 2
  · have e := uniq_short (l := l) (by omega)
    simp only [go_sem, h, e]
  simp only [go_sem, h]
  refine LoopK.intro (fun k : Nat => ⟨61, [(0, .sl 2 1 (l.map vi)), (3, .sc (.int .i64 k))], []⟩) (fun k => l.length - k) (fun k => 1 ≤ k ∧ k ≤ l.length ∧ ∀ j, j < k → keepsL l j = true) 1 ⟨by omega, by omega, keeps_one⟩ ?_ ?_
  · simp only [go_sem]
  rintro k ⟨h1, h2, hall⟩
  by_cases hk : k < l.length
  case neg =>
    obtain rfl : k = l.length := by omega
    have e : uniq l = l := by unfold uniq; rw [upTo_all h2 hall, List.take_length]
    simp only [go_sem, hk, e]
  have hw : IntKind.i64.wrap (k + 1) = k + 1 := wrap_in (by omega) (by omega)
  have hw2 : IntKind.i64.wrap ((k : Int) - 1) = (k - 1 : Nat) := by rw [wrap_in (by omega) (by omega)]; omega
  have hk2 : k - 1 < l.length := by omega
  have g1 := getv hk
  have g2 := getv hk2
  by_cases hne : l[k]! = l[k - 1]!
  case neg =>
    have hne' : (l[k]! == l[k - 1]!) = false := by simpa using hne
    simp only [go_sem, hk]
    refine DrawK.walk 10 mixed (by kernel_rfl) ?_
    simp only [go_sem, hk, g1, g2, hw2, hk2, hne', hw]
    refine roundK.intro (k + 1) ⟨by omega, by omega, fun j hj => ?_⟩ (by omega) ?_
    · by_cases hjk : j = k
      · subst hjk; unfold keepsL; rw [decide_eq_true (p := l[j]! ≠ l[j - 1]!) hne, Bool.or_true]
      · exact hall j (by omega)
    · simp only [go_sem]
  have hne' : (l[k]! == l[k - 1]!) = true := by simpa using hne
  simp only [go_sem, hk]
  refine DrawK.walk 10 mixed (by kernel_rfl) ?_
  simp only [go_sem, hk, g1, g2, hw2, hk2, hne']
  have e0 : upTo l (k + 1) = l.take k := by
    have h0 : keepsL l k = false := by unfold keepsL; rw [decide_eq_false (p := l[k]! ≠ l[k - 1]!) (by simpa using hne), decide_eq_false (by omega)]; rfl
    rw [upTo_succ, h0, upTo_all h2 hall]; simp
  refine LoopK.intro (fun p : List Int × Nat × Nat => ⟨61, [(0, .sl 2 1 (p.1.map vi)), (3, .sc (.int .i64 p.2.1)), (4, .tl 2 1 (p.1.map vi) k), (5, .sc (.int .i64 p.2.2))], []⟩) (fun p => l.length - (k + p.2.2))
    (fun p => p.1.length = l.length ∧ 1 ≤ p.2.2 ∧ k + p.2.2 ≤ l.length ∧ p.2.1 < k + p.2.2 ∧ p.1.take p.2.1 = upTo l (k + p.2.2) ∧ ∀ j, p.2.1 ≤ j → p.1[j]! = l[j]!) (l, k, 1) ⟨rfl, Nat.le_refl 1, by show k + 1 ≤ l.length; omega, by show k < k + 1; omega, e0.symm, fun _ _ => rfl⟩ ?_ ?_
  · simp only [go_sem]
  rintro ⟨Z, q, m⟩ ⟨c1, c2, c3, c4, c5, c6⟩
  simp only at c1 c2 c3 c4 c5 c6
  have hql : q < Z.length := by omega
  by_cases hm : k + m < l.length
  case neg =>
    obtain hme : m = l.length - k := by omega
    have hm1 : ¬ ((m : Int) < ((Z.length - k : Nat) : Int)) := by omega
    have e : (setSeg (Z.map vi) q (List.replicate (Z.length - q) (AV.sc (.int .i64 0)))).take q = (uniq l).map vi := by
      rw [setSeg_take, setSeg_out _ _ _ (by simp; omega), ← List.map_take, c5]
      unfold uniq; rw [show k + m = l.length by omega]
    simp only [go_sem, hm1, hql]
    exact ⟨by rw [setSeg_length, List.length_map]; omega, by rw [e]⟩
  have hm1 : (m : Int) < ((Z.length - k : Nat) : Int) := by omega
  have hz1 : k + m < Z.length := by omega
  have hz2 : k + (m - 1) < Z.length := by omega
  have gz1 := getv hz1
  have gz2 := getv hz2
  have hwm : IntKind.i64.wrap (m + 1) = m + 1 := wrap_in (by omega) (by omega)
  have hwm2 : IntKind.i64.wrap ((m : Int) - 1) = (m - 1 : Nat) := by rw [wrap_in (by omega) (by omega)]; omega
  have hwq : IntKind.i64.wrap (q + 1) = q + 1 := wrap_in (by omega) (by omega)
  have ez1 : Z[k + m]! = l[k + m]! := c6 _ (by omega)
  have ez2 : Z[k + (m - 1)]! = l[k + m - 1]! := by rw [c6 _ (by omega)]; congr 1; omega
  have hsucc : k + (m + 1) = (k + m) + 1 := by omega
  by_cases hne2 : l[k + m]! = l[k + m - 1]!
  · have hb : (Z[k + m]! != Z[k + (m - 1)]!) = false := by rw [ez1, ez2]; simpa using hne2
    simp only [go_sem, hm1]
    refine DrawK.walk 10 mixed (by kernel_rfl) ?_
    simp only [go_sem, hz1, hz2, gz1, gz2, hwm2, hb, hwm]
    have hk0 : keepsL l (k + m) = false := by unfold keepsL; rw [decide_eq_false (p := l[k + m]! ≠ l[k + m - 1]!) (by simpa using hne2), decide_eq_false (by omega)]; rfl
    refine ⟨by omega, by omega, roundK.intro (Z, q, m + 1) ⟨c1, by show 1 ≤ m + 1; omega, by show k + (m + 1) ≤ l.length; omega, by show q < k + (m + 1); omega, ?_, c6⟩ (by show l.length - (k + (m + 1)) < l.length - (k + m); omega) ?_⟩
    · show Z.take q = upTo l (k + (m + 1))
      rw [hsucc, upTo_succ, hk0, c5]; simp
    · simp only [go_sem]
  · have hb : (Z[k + m]! != Z[k + (m - 1)]!) = true := by rw [ez1, ez2]; simpa using hne2
    simp only [go_sem, hm1]
    refine DrawK.walk 10 mixed (by kernel_rfl) ?_
    simp only [go_sem, hz1, hz2, gz1, gz2, hwm2, hb, hwm, hql, hwq]
    have hk0 : keepsL l (k + m) = true := by unfold keepsL; rw [decide_eq_true (p := l[k + m]! ≠ l[k + m - 1]!) hne2, Bool.or_true]
    refine ⟨by omega, by omega, by omega, roundK.intro (Z.set q Z[k + m]!, q + 1, m + 1) ⟨by show (Z.set q Z[k + m]!).length = l.length; rw [List.length_set]; exact c1, by show 1 ≤ m + 1; omega, by show k + (m + 1) ≤ l.length; omega, by show q + 1 < k + (m + 1); omega, ?_, fun j hj => ?_⟩ (by show l.length - (k + (m + 1)) < l.length - (k + m); omega) ?_⟩
    · show (Z.set q Z[k + m]!).take (q + 1) = upTo l (k + (m + 1))
      rw [hsucc, upTo_succ, hk0, ← c5, ez1, take_snoc (by rw [List.length_set]; exact hql)]
      rw [if_pos rfl, List.take_set_of_le (Nat.le_refl q), getElem!_pos (Z.set q l[k + m]!) q (by rw [List.length_set]; exact hql), List.getElem_set_self]
    · show (Z.set q Z[k + m]!)[j]! = l[j]!
      have hj' : q + 1 ≤ j := hj
      rw [← c6 j (by omega)]
      simp only [getElem!_def, List.getElem?_set_ne (show q ≠ j by omega)]
    · simp only [go_sem, modify_vi]
set_option maxRecDepth 100000 in
theorem conc_compact53 (l : List Int) (hl : l.length ≤ 1000000000000) : ConC Try.prog 53 [.sl 2 1 (l.map vi)] fun r => r = .sl 2 1 ((uniq l).map vi) := by
  refine ConC.intro Try.func53 rfl Try.ntmps53 Try.results53 (by kernel_rfl) (by simp) ?_
  by_cases h : (l.length : Int) < 2
  · have e := uniq_short (l := l) (by omega)
    simp only [go_sem, h, e]
  simp only [go_sem, h]
  refine LoopK.intro (fun k : Nat => ⟨61, [(0, .sl 2 1 (l.map vi)), (3, .sc (.int .i64 k))], []⟩) (fun k => l.length - k) (fun k => 1 ≤ k ∧ k ≤ l.length ∧ ∀ j, j < k → keepsL l j = true) 1 ⟨by omega, by omega, keeps_one⟩ ?_ ?_
  · simp only [go_sem]
  rintro k ⟨h1, h2, hall⟩
  by_cases hk : k < l.length
  case neg =>
    obtain rfl : k = l.length := by omega
    have e : uniq l = l := by unfold uniq; rw [upTo_all h2 hall, List.take_length]
    simp only [go_sem, hk, e]
  have hw : IntKind.i64.wrap (k + 1) = k + 1 := wrap_in (by omega) (by omega)
  have hw2 : IntKind.i64.wrap ((k : Int) - 1) = (k - 1 : Nat) := by rw [wrap_in (by omega) (by omega)]; omega
  have hk2 : k - 1 < l.length := by omega
  have g1 := getv hk
  have g2 := getv hk2
  by_cases hne : l[k]! = l[k - 1]!
  case neg =>
    have hne' : (l[k]! == l[k - 1]!) = false := by simpa using hne
    simp only [go_sem, hk]
    refine DrawK.walk 10 mixed (by kernel_rfl) ?_
    simp only [go_sem, hk, g1, g2, hw2, hk2, hne', hw]
    refine roundK.intro (k + 1) ⟨by omega, by omega, fun j hj => ?_⟩ (by omega) ?_
    · by_cases hjk : j = k
      · subst hjk; unfold keepsL; rw [decide_eq_true (p := l[j]! ≠ l[j - 1]!) hne, Bool.or_true]
      · exact hall j (by omega)
    · simp only [go_sem]
  have hne' : (l[k]! == l[k - 1]!) = true := by simpa using hne
  simp only [go_sem, hk]
  refine DrawK.walk 10 mixed (by kernel_rfl) ?_
  simp only [go_sem, hk, g1, g2, hw2, hk2, hne']
  have e0 : upTo l (k + 1) = l.take k := by
    have h0 : keepsL l k = false := by unfold keepsL; rw [decide_eq_false (p := l[k]! ≠ l[k - 1]!) (by simpa using hne), decide_eq_false (by omega)]; rfl
    rw [upTo_succ, h0, upTo_all h2 hall]; simp
  refine LoopK.intro (fun p : List Int × Nat × Nat => ⟨61, [(0, .sl 2 1 (p.1.map vi)), (3, .sc (.int .i64 p.2.1)), (4, .tl 2 1 (p.1.map vi) k), (5, .sc (.int .i64 p.2.2))], []⟩) (fun p => l.length - (k + p.2.2))
    (fun p => p.1.length = l.length ∧ 1 ≤ p.2.2 ∧ k + p.2.2 ≤ l.length ∧ p.2.1 < k + p.2.2 ∧ p.1.take p.2.1 = upTo l (k + p.2.2) ∧ ∀ j, p.2.1 ≤ j → p.1[j]! = l[j]!) (l, k, 1) ⟨rfl, Nat.le_refl 1, by show k + 1 ≤ l.length; omega, by show k < k + 1; omega, e0.symm, fun _ _ => rfl⟩ ?_ ?_
  · simp only [go_sem]
  rintro ⟨Z, q, m⟩ ⟨c1, c2, c3, c4, c5, c6⟩
  simp only at c1 c2 c3 c4 c5 c6
  have hql : q < Z.length := by omega
  by_cases hm : k + m < l.length
  case neg =>
    obtain hme : m = l.length - k := by omega
    have hm1 : ¬ ((m : Int) < ((Z.length - k : Nat) : Int)) := by omega
    have e : (setSeg (Z.map vi) q (List.replicate (Z.length - q) (AV.sc (.int .i64 0)))).take q = (uniq l).map vi := by
      rw [setSeg_take, setSeg_out _ _ _ (by simp; omega), ← List.map_take, c5]
      unfold uniq; rw [show k + m = l.length by omega]
    simp only [go_sem, hm1, hql]
    exact ⟨by rw [setSeg_length, List.length_map]; omega, by rw [e]⟩
  have hm1 : (m : Int) < ((Z.length - k : Nat) : Int) := by omega
  have hz1 : k + m < Z.length := by omega
  have hz2 : k + (m - 1) < Z.length := by omega
  have gz1 := getv hz1
  have gz2 := getv hz2
  have hwm : IntKind.i64.wrap (m + 1) = m + 1 := wrap_in (by omega) (by omega)
  have hwm2 : IntKind.i64.wrap ((m : Int) - 1) = (m - 1 : Nat) := by rw [wrap_in (by omega) (by omega)]; omega
  have hwq : IntKind.i64.wrap (q + 1) = q + 1 := wrap_in (by omega) (by omega)
  have ez1 : Z[k + m]! = l[k + m]! := c6 _ (by omega)
  have ez2 : Z[k + (m - 1)]! = l[k + m - 1]! := by rw [c6 _ (by omega)]; congr 1; omega
  have hsucc : k + (m + 1) = (k + m) + 1 := by omega
  by_cases hne2 : l[k + m]! = l[k + m - 1]!
  · have hb : (Z[k + m]! != Z[k + (m - 1)]!) = false := by rw [ez1, ez2]; simpa using hne2
    simp only [go_sem, hm1]
    refine DrawK.walk 10 mixed (by kernel_rfl) ?_
    simp only [go_sem, hz1, hz2, gz1, gz2, hwm2, hb, hwm]
    have hk0 : keepsL l (k + m) = false := by unfold keepsL; rw [decide_eq_false (p := l[k + m]! ≠ l[k + m - 1]!) (by simpa using hne2), decide_eq_false (by omega)]; rfl
    refine ⟨by omega, by omega, roundK.intro (Z, q, m + 1) ⟨c1, by show 1 ≤ m + 1; omega, by show k + (m + 1) ≤ l.length; omega, by show q < k + (m + 1); omega, ?_, c6⟩ (by show l.length - (k + (m + 1)) < l.length - (k + m); omega) ?_⟩
    · show Z.take q = upTo l (k + (m + 1))
      rw [hsucc, upTo_succ, hk0, c5]; simp
    · simp only [go_sem]
  · have hb : (Z[k + m]! != Z[k + (m - 1)]!) = true := by rw [ez1, ez2]; simpa using hne2
    simp only [go_sem, hm1]
    refine DrawK.walk 10 mixed (by kernel_rfl) ?_
    simp only [go_sem, hz1, hz2, gz1, gz2, hwm2, hb, hwm, hql, hwq]
    have hk0 : keepsL l (k + m) = true := by unfold keepsL; rw [decide_eq_true (p := l[k + m]! ≠ l[k + m - 1]!) hne2, Bool.or_true]
    refine ⟨by omega, by omega, by omega, roundK.intro (Z.set q Z[k + m]!, q + 1, m + 1) ⟨by show (Z.set q Z[k + m]!).length = l.length; rw [List.length_set]; exact c1, by show 1 ≤ m + 1; omega, by show k + (m + 1) ≤ l.length; omega, by show q + 1 < k + (m + 1); omega, ?_, fun j hj => ?_⟩ (by show l.length - (k + (m + 1)) < l.length - (k + m); omega) ?_⟩
    · show (Z.set q Z[k + m]!).take (q + 1) = upTo l (k + (m + 1))
      rw [hsucc, upTo_succ, hk0, ← c5, ez1, take_snoc (by rw [List.length_set]; exact hql)]
      rw [if_pos rfl, List.take_set_of_le (Nat.le_refl q), getElem!_pos (Z.set q l[k + m]!) q (by rw [List.length_set]; exact hql), List.getElem_set_self]
    · show (Z.set q Z[k + m]!)[j]! = l[j]!
      have hj' : q + 1 ≤ j := hj
      rw [← c6 j (by omega)]
      simp only [getElem!_def, List.getElem?_set_ne (show q ≠ j by omega)]
    · simp only [go_sem, modify_vi]
end Go.AM
