/-
  Plain laws: the states behind a label: in order, each once; the search for a word.
-/
import Derived.Test.YthmjnbmooedfjaaWP
namespace Go.AM

theorem sortI_perm (l : List Int) : (sortI l).Perm l := List.mergeSort_perm l _
theorem sortI_sorted (l : List Int) : (sortI l).Pairwise (· ≤ ·) := by
  have := List.pairwise_mergeSort (le := fun x y : Int => decide (x ≤ y)) (by intro a b c; simp; omega) (by intro a b; simp; omega) l
  exact this.imp (by intro a b h; simpa using h)
theorem mem_sortI {l : List Int} {x : Int} : x ∈ sortI l ↔ x ∈ l := (sortI_perm l).mem_iff

theorem bang_mem {l : List Int} {j : Nat} (h : j < l.length) : l[j]! ∈ l := mem_bang h
theorem sorted_bang {l : List Int} (h : l.Pairwise (· ≤ ·)) {i j : Nat} (hij : i ≤ j) (hj : j < l.length) : l[i]! ≤ l[j]! := by
  rcases Nat.lt_or_ge i j with hlt | hge
  · have := List.pairwise_iff_getElem.1 h i j (by omega) hj hlt
    rw [getElem!_pos l i (by omega), getElem!_pos l j hj]; exact this
  · obtain rfl : i = j := by omega
    exact Int.le_refl _

theorem mem_uniq {l : List Int} {x : Int} : x ∈ uniq l ↔ x ∈ l := by
  constructor
  · intro h
    unfold uniq upTo at h
    obtain ⟨j, hj, rfl⟩ := List.mem_map.1 h
    have := List.mem_range.1 (List.mem_filter.1 hj).1
    exact mem_bang this
  · intro h
    -- the first place
    have : ∀ (n : Nat) (j : Nat), j ≤ n → j < l.length → l[j]! = x → x ∈ uniq l := by
      intro n
      induction n with
      | zero =>
        intro j hj hl hx
        obtain rfl : j = 0 := by omega
        unfold uniq upTo
        exact List.mem_map.2 ⟨0, List.mem_filter.2 ⟨List.mem_range.2 hl, rfl⟩, hx⟩
      | succ n ih =>
        intro j hj hl hx
        by_cases h0 : j = 0
        · exact ih j (by omega) hl hx
        · by_cases hp : l[j - 1]! = x
          · exact ih (j - 1) (by omega) (by omega) hp
          · unfold uniq upTo
            refine List.mem_map.2 ⟨j, List.mem_filter.2 ⟨List.mem_range.2 hl, ?_⟩, hx⟩
            unfold keepsL
            rw [decide_eq_true (p := l[j]! ≠ l[j - 1]!) (by rw [hx]; exact fun e => hp e.symm), Bool.or_true]
    obtain ⟨j, hj⟩ := List.getElem?_of_mem h
    have hl := (List.getElem?_eq_some_iff.1 hj).1
    exact this j j (Nat.le_refl _) hl (bang_of hj)

theorem uniq_strict {l : List Int} (h : l.Pairwise (· ≤ ·)) : (uniq l).Pairwise (· < ·) := by
  unfold uniq upTo
  rw [List.pairwise_map]
  have h1 : ((List.range l.length).filter (keepsL l)).Pairwise (fun i j => i < j) := (List.pairwise_lt_range).filter _
  refine h1.imp_of_mem ?_
  intro i j hi hj hij
  have hj1 := List.mem_filter.1 hj
  have hjl := List.mem_range.1 hj1.1
  have hk := hj1.2
  unfold keepsL at hk
  have hne : l[j]! ≠ l[j - 1]! := by
    simp only [Bool.or_eq_true, decide_eq_true_eq] at hk
    rcases hk with hk | hk
    · omega
    · exact hk
  have a1 := sorted_bang h (show i ≤ j - 1 by omega) (by omega)
  have a2 := sorted_bang h (show j - 1 ≤ j by omega) hjl
  omega

theorem mem_outOf {lab t : Int} {L : List (Int × Int)} : t ∈ outOf lab L ↔ (lab, t) ∈ L := by
  unfold outOf
  constructor
  · intro h
    obtain ⟨p, hp, rfl⟩ := List.mem_map.1 h
    have := List.mem_filter.1 hp
    have e : p.1 = lab := by simpa using this.2
    rw [← e]; exact this.1
  · intro h
    exact List.mem_map.2 ⟨(lab, t), List.mem_filter.2 ⟨h, by simp⟩, rfl⟩
theorem mem_visA {x : Sys} {s : List Int} {q : Int × Int} : q ∈ visA x s s.length ↔ ∃ i ∈ s, q ∈ x[i.toNat]! := by
  unfold visA; rw [List.take_length, List.mem_flatMap]
theorem mem_afterF {x : Sys} {s : List Int} {lab t : Int} : t ∈ afterF x s lab ↔ ∃ i ∈ s, (lab, t) ∈ x[i.toNat]! := by
  unfold afterF; rw [mem_uniq, mem_sortI, mem_outOf, mem_visA]
theorem mem_labelsF {x : Sys} {s : List Int} {lab : Int} : lab ∈ labelsF x s ↔ ∃ i ∈ s, ∃ t, (lab, t) ∈ x[i.toNat]! := by
  unfold labelsF
  rw [mem_uniq, mem_sortI, List.mem_map]
  constructor
  · rintro ⟨q, hq, rfl⟩
    obtain ⟨i, hi, h⟩ := mem_visA.1 hq
    exact ⟨i, hi, q.2, h⟩
  · rintro ⟨i, hi, t, h⟩
    exact ⟨(lab, t), mem_visA.2 ⟨i, hi, h⟩, rfl⟩
theorem strict_afterF (x : Sys) (s : List Int) (lab : Int) : (afterF x s lab).Pairwise (· < ·) := uniq_strict (sortI_sorted _)
theorem strict_labelsF (x : Sys) (s : List Int) : (labelsF x s).Pairwise (· < ·) := uniq_strict (sortI_sorted _)

theorem strict_len : ∀ {l : List Int} {lo n : Int}, l.Pairwise (· < ·) → (∀ i ∈ l, lo ≤ i ∧ i < n) → lo ≤ n → (l.length : Int) ≤ n - lo
  | [], lo, n, _, _, h => by simp; omega
  | x :: l, lo, n, hp, hb, h => by
    have h1 := hb x (by simp)
    have hp' := List.pairwise_cons.1 hp
    have := strict_len (lo := x + 1) (n := n) hp'.2 (fun i hi => ⟨by have := hp'.1 i hi; omega, (hb i (by simp [hi])).2⟩) (by omega)
    simp only [List.length_cons]; omega

theorem among_afterF {x : Sys} {s : List Int} {lab : Int} (hx : checkS x = 0) (hs : Among x s) : Among x (afterF x s lab) := by
  obtain ⟨h1, h2, h3⟩ := checkS_ok hx
  have hm : ∀ t ∈ afterF x s lab, 0 ≤ t ∧ t < (x.length : Int) := fun t ht => by
    obtain ⟨i, hi, hq⟩ := mem_afterF.1 ht
    have hb := hs.2 i hi
    exact h3 _ (mem_bang (show i.toNat < x.length by omega)) _ hq
  refine ⟨?_, hm⟩
  have := strict_len (strict_afterF x s lab) hm (by omega)
  omega
theorem among_start {x : Sys} (hx : checkS x = 0) : Among x [0] := by
  have := (checkS_ok hx).1
  exact ⟨by simp, fun i hi => by simp at hi; subst hi; omega⟩

/-- a word, and the states behind it in either system -/
abbrev TP := List Int × List Int × List Int
def nextP (a b : Sys) (p : TP) (lab : Int) : TP := (p.1 ++ [lab], afterF a p.2.1 lab, afterF b p.2.2 lab)
def keyP (p : TP) : List UInt8 := (strOf (keyB p.2.1 p.2.2)).data.toList
inductive TOut where
  | go (todo : List TP) (met : List (List UInt8))
  | done (w : List Int) (s : Bool) (e : Int)
def innerF (a b : Sys) (p : TP) : List Int → List TP → List (List UInt8) → TOut
  | [], todo, met => .go todo met
  | lab :: r, todo, met =>
    if (nextP a b p lab).2.2 = [] then .done (p.1 ++ [lab]) true 0
    else if met.contains (keyP (nextP a b p lab)) = true then innerF a b p r todo met
    else if 4096 ≤ met.length then .done [] false 1
    else innerF a b p r (todo ++ [nextP a b p lab]) (met ++ [keyP (nextP a b p lab)])
def outerF (a b : Sys) (most : Nat) : Nat → List TP → List (List UInt8) → List Int × Bool × Int
  | _, [], _ => ([], false, 0)
  | 0, _ :: _, _ => ([], false, 0)
  | n + 1, p :: rest, met => if p.1.length = most then ([], false, 0) else
    match innerF a b p (labelsF a p.2.1) (p :: rest) met with
    | .go todo met' => outerF a b most n todo.tail met'
    | .done w s e => (w, s, e)
def startP : TP := ([], [0], [0])
/-- the search for a word -/
def traceF (a b : Sys) (most : Nat) : List Int × Bool × Int := outerF a b most 4096 [startP] [keyP startP]
end Go.AM
