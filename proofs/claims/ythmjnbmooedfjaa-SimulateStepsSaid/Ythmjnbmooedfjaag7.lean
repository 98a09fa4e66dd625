/-
  A set of byte lists, as a map; after and labels, as they are used.
  Plain laws: the states behind a label: in order, each once; the search for a word.
  Walks: the reference's states behind a letter.
  Plain laws: accepted words; what the search for a word finds.
  Walks: the reference's Accepts.
  Walks: what both answer at systems that are not valid.
  Walks: what both answer at limits, and Holds at a relation of any shape.
  Walks: a copy of arcs.
  Walks: what both answer of a graph: its check.
  The abstract machine: a region that draws its order, walked in every order that its edges allow (a tree of orders).
  Walks: the system of a graph.
  Walks: the reference's labels of some states.
  Walks: Trace.
  The abstract machine: a region that draws its order, among whose operations are calls that write to one variable, one after the other.
-/
import Derived.Test.Ythmjnbmooedfjaag6
import Derived.Maps.Views
import Derived.Test.Ythmjnbmooedfjaag5
/-! ## WP -/
namespace Go.AM
open Go Go.Proofs Go.RowKit

/-- the map whose keys are these -/
def metD (ks : List (List UInt8)) : DataW Unit := Go.Maps.setOf (.lit (.bool true)) (ks.map Lit.string)
theorem metD_snoc (ks : List (List UInt8)) (k : List UInt8) : (metD ks).put (.string k) (.lit (.bool true)) = metD (ks ++ [k]) := by
  unfold metD; rw [List.map_append]; exact (Go.Maps.setOf_snoc _ _ _).symm
theorem metD_tidy (ks : List (List UInt8)) : Go.Maps.Tidy (metD ks) := Go.Maps.tidy_setOf _ _ fun x hx => by
  obtain ⟨k, _, rfl⟩ := List.mem_map.1 hx; trivial
theorem metD_at : ∀ (ks : List (List UInt8)) (k : List UInt8), boolAt (metD ks) (.string k) = ks.contains k := by
  intro ks k
  have : ∀ (n : Nat) (ks : List (List UInt8)), ks.length = n → boolAt (metD ks) (.string k) = ks.contains k := by
    intro n
    induction n with
    | zero => intro ks h; obtain rfl := List.eq_nil_of_length_eq_zero h; rfl
    | succ n ih =>
      intro ks h
      obtain ⟨ks', x, rfl⟩ : ∃ ks' x, ks = ks' ++ [x] := ⟨ks.dropLast, ks.getLast (by intro e; rw [e] at h; simp at h), (List.dropLast_concat_getLast _).symm⟩
      have ih' := ih ks' (by simpa using h)
      rw [← metD_snoc]
      by_cases hk : k = x
      · subst hk
        unfold boolAt
        rw [Go.Maps.atKey_put_same (metD_tidy _).isMap (by trivial)]
        simp
      · unfold boolAt at ih' ⊢
        rw [Go.Maps.atKey_put_other (by intro e; cases e; exact hk rfl), ih']
        simp [hk]
  exact this _ ks rfl
theorem metD_has (ks : List (List UInt8)) (k : List UInt8) : Go.Maps.has (metD ks) (.string k) = ks.contains k := by
  unfold metD Go.Maps.setOf
  rw [Go.Maps.has_fold _ _ _ _ (⟨[], rfl⟩) (fun x hx => by obtain ⟨k, _, rfl⟩ := List.mem_map.1 hx; trivial)]
  rw [show Go.Maps.has (DataW.map ([] : List (Lit × DataW Unit))) (.string k) = false from rfl, Bool.false_or, List.any_map, List.contains_eq_any_beq]
  congr 1
  funext y
  by_cases h : k = y
  · subst h; simp [Go.WideAt.sameKey_self (show Go.WideAt.IsKeyLit (.string k) from trivial)]
  · have : (Lit.string y).sameKey (.string k) = false := by
      cases hc : (Lit.string y).sameKey (.string k)
      · rfl
      · have := Go.WideAt.sameKey_eq hc; cases this; exact absurd rfl h
    simp [this, h]
theorem metD_len : ∀ (ks : List (List UInt8)), ks.Nodup → mapLen (metD ks) = ks.length := by
  intro ks
  have : ∀ (n : Nat) (ks : List (List UInt8)), ks.length = n → ks.Nodup → mapLen (metD ks) = ks.length := by
    intro n
    induction n with
    | zero => intro ks h _; obtain rfl := List.eq_nil_of_length_eq_zero h; rfl
    | succ n ih =>
      intro ks h hn
      obtain ⟨ks', x, rfl⟩ : ∃ ks' x, ks = ks' ++ [x] := ⟨ks.dropLast, ks.getLast (by intro e; rw [e] at h; simp at h), (List.dropLast_concat_getLast _).symm⟩
      rw [List.nodup_append] at hn
      have hx : x ∉ ks' := fun hm => hn.2.2 x hm x (by simp) rfl
      have ih' := ih ks' (by simpa using h) hn.1
      have e : ∀ D : DataW Unit, mapLen D = Go.Maps.size D := fun D => by cases D <;> rfl
      rw [← metD_snoc, e, Go.Maps.size_put (metD_tidy _), metD_has, ← e, ih']
      simp [hx]
  exact this _ ks rfl

/-- the states behind a label -/
def afterF (x : Sys) (s : List Int) (lab : Int) : List Int := uniq (sortI (outOf lab (visA x s s.length)))
def labelsF (x : Sys) (s : List Int) : List Int := uniq (sortI ((visA x s s.length).map (·.1)))
/-- some states of a system -/
def Among (x : Sys) (s : List Int) : Prop := s.length ≤ 128 ∧ ∀ i ∈ s, 0 ≤ i ∧ i < x.length

theorem con_after (s : List Int) (x : Sys) (lab : Int) (hs : Among x s) (hx : ∀ l ∈ x, l.length ≤ 1000000) :
    Con Try.prog 35 [vs 0 s, vy 0 x, vi lab] [] fun r _ => r = vs 0 (afterF x s lab) :=
  (Con.freezeR (fun _ => true) (con_afterO s x lab hs.2 hs.1 hx _ rfl)).mono fun r bx ⟨r0, h1, h2⟩ => by subst h1; subst h2; rfl
theorem con_labels (s : List Int) (x : Sys) (hs : Among x s) (hx : ∀ l ∈ x, l.length ≤ 1000000) :
    Con Try.prog 33 [vs 0 s, vy 0 x] [] fun r _ => r = vs 0 (labelsF x s) :=
  (Con.freezeR (fun _ => true) (con_labelsO s x hs.2 hs.1 hx _ rfl)).mono fun r bx ⟨r0, h1, h2⟩ => by subst h1; subst h2; rfl
end Go.AM

/-! ## Lc -/
namespace Go.AM

theorem sortI_perm (l : List Int) : (sortI l).Perm l := List.mergeSort_perm l _
theorem sortI_sorted (l : List Int) : (sortI l).Pairwise (· ≤ ·) := by
  have := List.pairwise_mergeSort (le := fun x y : Int => decide (x ≤ y)) (by intro a b c; simp; omega) (by intro a b; simp; omega) l
  exact this.imp (by intro a b h; simpa using h)
theorem mem_sortI {l : List Int} {x : Int} : x ∈ sortI l ↔ x ∈ l := (sortI_perm l).mem_iff

theorem bang_mem {l : List Int} {j : Nat} (h : j < l.length) : l[j]! ∈ l := mem_bang h
theorem sorted_bang {l : List Int} (h : l.Pairwise (· ≤ ·)) {i j : Nat} (hij : i ≤ j) (hj : j < l.length) : l[i]! ≤ l[j]! := by
  rcases Nat.lt_or_ge i j with hlt | hge
  · have := List.pairwise_iff_getElem.1 h i j (by omega) hj hlt
    rw [getElem!_pos l i (by omega), getElem!_pos l j hj]; exact this
  · obtain rfl : i = j := by omega
    exact Int.le_refl _

theorem mem_uniq {l : List Int} {x : Int} : x ∈ uniq l ↔ x ∈ l := by
  constructor
  · intro h
    unfold uniq upTo at h
    obtain ⟨j, hj, rfl⟩ := List.mem_map.1 h
    have := List.mem_range.1 (List.mem_filter.1 hj).1
    exact mem_bang this
  · intro h
    -- the first place
    have : ∀ (n : Nat) (j : Nat), j ≤ n → j < l.length → l[j]! = x → x ∈ uniq l := by
      intro n
      induction n with
      | zero =>
        intro j hj hl hx
        obtain rfl : j = 0 := by omega
        unfold uniq upTo
        exact List.mem_map.2 ⟨0, List.mem_filter.2 ⟨List.mem_range.2 hl, rfl⟩, hx⟩
      | succ n ih =>
        intro j hj hl hx
        by_cases h0 : j = 0
        · exact ih j (by omega) hl hx
        · by_cases hp : l[j - 1]! = x
          · exact ih (j - 1) (by omega) (by omega) hp
          · unfold uniq upTo
            refine List.mem_map.2 ⟨j, List.mem_filter.2 ⟨List.mem_range.2 hl, ?_⟩, hx⟩
            unfold keepsL
            rw [decide_eq_true (p := l[j]! ≠ l[j - 1]!) (by rw [hx]; exact fun e => hp e.symm), Bool.or_true]
    obtain ⟨j, hj⟩ := List.getElem?_of_mem h
    have hl := (List.getElem?_eq_some_iff.1 hj).1
    exact this j j (Nat.le_refl _) hl (bang_of hj)

theorem uniq_strict {l : List Int} (h : l.Pairwise (· ≤ ·)) : (uniq l).Pairwise (· < ·) := by
  unfold uniq upTo
  rw [List.pairwise_map]
  have h1 : ((List.range l.length).filter (keepsL l)).Pairwise (fun i j => i < j) := (List.pairwise_lt_range).filter _
  refine h1.imp_of_mem ?_
  intro i j hi hj hij
  have hj1 := List.mem_filter.1 hj
  have hjl := List.mem_range.1 hj1.1
  have hk := hj1.2
  unfold keepsL at hk
  have hne : l[j]! ≠ l[j - 1]! := by
    simp only [Bool.or_eq_true, decide_eq_true_eq] at hk
    rcases hk with hk | hk
    · omega
    · exact hk
  have a1 := sorted_bang h (show i ≤ j - 1 by omega) (by omega)
  have a2 := sorted_bang h (show j - 1 ≤ j by omega) hjl
  omega

theorem mem_outOf {lab t : Int} {L : List (Int × Int)} : t ∈ outOf lab L ↔ (lab, t) ∈ L := by
  unfold outOf
  constructor
  · intro h
    obtain ⟨p, hp, rfl⟩ := List.mem_map.1 h
    have := List.mem_filter.1 hp
    have e : p.1 = lab := by simpa using this.2
    rw [← e]; exact this.1
  · intro h
    exact List.mem_map.2 ⟨(lab, t), List.mem_filter.2 ⟨h, by simp⟩, rfl⟩
theorem mem_visA {x : Sys} {s : List Int} {q : Int × Int} : q ∈ visA x s s.length ↔ ∃ i ∈ s, q ∈ x[i.toNat]! := by
  unfold visA; rw [List.take_length, List.mem_flatMap]
theorem mem_afterF {x : Sys} {s : List Int} {lab t : Int} : t ∈ afterF x s lab ↔ ∃ i ∈ s, (lab, t) ∈ x[i.toNat]! := by
  unfold afterF; rw [mem_uniq, mem_sortI, mem_outOf, mem_visA]
theorem mem_labelsF {x : Sys} {s : List Int} {lab : Int} : lab ∈ labelsF x s ↔ ∃ i ∈ s, ∃ t, (lab, t) ∈ x[i.toNat]! := by
  unfold labelsF
  rw [mem_uniq, mem_sortI, List.mem_map]
  constructor
  · rintro ⟨q, hq, rfl⟩
    obtain ⟨i, hi, h⟩ := mem_visA.1 hq
    exact ⟨i, hi, q.2, h⟩
  · rintro ⟨i, hi, t, h⟩
    exact ⟨(lab, t), mem_visA.2 ⟨i, hi, h⟩, rfl⟩
theorem strict_afterF (x : Sys) (s : List Int) (lab : Int) : (afterF x s lab).Pairwise (· < ·) := uniq_strict (sortI_sorted _)
theorem strict_labelsF (x : Sys) (s : List Int) : (labelsF x s).Pairwise (· < ·) := uniq_strict (sortI_sorted _)

theorem strict_len : ∀ {l : List Int} {lo n : Int}, l.Pairwise (· < ·) → (∀ i ∈ l, lo ≤ i ∧ i < n) → lo ≤ n → (l.length : Int) ≤ n - lo
  | [], lo, n, _, _, h => by simp; omega
  | x :: l, lo, n, hp, hb, h => by
    have h1 := hb x (by simp)
    have hp' := List.pairwise_cons.1 hp
    have := strict_len (lo := x + 1) (n := n) hp'.2 (fun i hi => ⟨by have := hp'.1 i hi; omega, (hb i (by simp [hi])).2⟩) (by omega)
    simp only [List.length_cons]; omega

theorem among_afterF {x : Sys} {s : List Int} {lab : Int} (hx : checkS x = 0) (hs : Among x s) : Among x (afterF x s lab) := by
  obtain ⟨h1, h2, h3⟩ := checkS_ok hx
  have hm : ∀ t ∈ afterF x s lab, 0 ≤ t ∧ t < (x.length : Int) := fun t ht => by
    obtain ⟨i, hi, hq⟩ := mem_afterF.1 ht
    have hb := hs.2 i hi
    exact h3 _ (mem_bang (show i.toNat < x.length by omega)) _ hq
  refine ⟨?_, hm⟩
  have := strict_len (strict_afterF x s lab) hm (by omega)
  omega
theorem among_start {x : Sys} (hx : checkS x = 0) : Among x [0] := by
  have := (checkS_ok hx).1
  exact ⟨by simp, fun i hi => by simp at hi; subst hi; omega⟩

/-- a word, and the states behind it in either system -/
abbrev TP := List Int × List Int × List Int
def nextP (a b : Sys) (p : TP) (lab : Int) : TP := (p.1 ++ [lab], afterF a p.2.1 lab, afterF b p.2.2 lab)
def keyP (p : TP) : List UInt8 := (strOf (keyB p.2.1 p.2.2)).data.toList
inductive TOut where
  | go (todo : List TP) (met : List (List UInt8))
  | done (w : List Int) (s : Bool) (e : Int)
def innerF (a b : Sys) (p : TP) : List Int → List TP → List (List UInt8) → TOut
  | [], todo, met => .go todo met
  | lab :: r, todo, met =>
    if (nextP a b p lab).2.2 = [] then .done (p.1 ++ [lab]) true 0
    else if met.contains (keyP (nextP a b p lab)) = true then innerF a b p r todo met
    else if 4096 ≤ met.length then .done [] false 1
    else innerF a b p r (todo ++ [nextP a b p lab]) (met ++ [keyP (nextP a b p lab)])
def outerF (a b : Sys) (most : Nat) : Nat → List TP → List (List UInt8) → List Int × Bool × Int
  | _, [], _ => ([], false, 0)
  | 0, _ :: _, _ => ([], false, 0)
  | n + 1, p :: rest, met => if p.1.length = most then ([], false, 0) else
    match innerF a b p (labelsF a p.2.1) (p :: rest) met with
    | .go todo met' => outerF a b most n todo.tail met'
    | .done w s e => (w, s, e)
def startP : TP := ([], [0], [0])
/-- the search for a word -/
def traceF (a b : Sys) (most : Nat) : List Int × Bool × Int := outerF a b most 4096 [startP] [keyP startP]
end Go.AM

/-! ## SF -/
namespace Go.AM
open Go Go.Proofs Go.RowKit

/-- some arc that has been looked at leads to t -/
def Hit (s : Sys) (l : List Int) (lab : Int) (i k t : Nat) : Prop := (∃ i', i' < i ∧ (lab, (t : Int)) ∈ s[(l[i']!).toNat]!) ∨ ∃ k', k' < k ∧ s[(l[i]!).toNat]![k']! = (lab, (t : Int))
def Marks (s : Sys) (l : List Int) (lab : Int) (i k : Nat) (m : List Bool) : Prop := m.length = s.length ∧ ∀ t, t < s.length → (m[t]! = true ↔ Hit s l lab i k t)

theorem Marks.none {s : Sys} {l : List Int} {lab : Int} : Marks s l lab 0 0 (List.replicate s.length false) := by
  refine ⟨by simp, fun t ht => ?_⟩
  rw [getElem!_pos _ t (by simpa using ht)]
  simp [Hit]
theorem Marks.skip {s : Sys} {l : List Int} {lab : Int} {i k : Nat} {m : List Bool} (h : Marks s l lab i k m) (hne : s[(l[i]!).toNat]![k]!.1 ≠ lab) : Marks s l lab i (k + 1) m := by
  refine ⟨h.1, fun t ht => ?_⟩
  rw [h.2 t ht]
  unfold Hit
  constructor
  · rintro (h1 | ⟨k', hk, e⟩)
    · exact .inl h1
    · exact .inr ⟨k', by omega, e⟩
  · rintro (h1 | ⟨k', hk, e⟩)
    · exact .inl h1
    · rcases Nat.lt_or_ge k' k with hlt | hge
      · exact .inr ⟨k', hlt, e⟩
      · obtain rfl : k' = k := by omega
        rw [e] at hne; exact absurd rfl hne
theorem Marks.put {s : Sys} {l : List Int} {lab : Int} {i k u : Nat} {m : List Bool} (h : Marks s l lab i k m) (he : s[(l[i]!).toNat]![k]! = (lab, (u : Int))) (_hu : u < s.length) : Marks s l lab i (k + 1) (m.set u true) := by
  refine ⟨by simpa using h.1, fun t ht => ?_⟩
  have hm := h.1
  rw [getElem!_pos _ t (by rw [List.length_set]; omega), List.getElem_set]
  unfold Hit
  by_cases hut : u = t
  · subst hut
    rw [if_pos rfl]
    exact ⟨fun _ => .inr ⟨k, by omega, he⟩, fun _ => rfl⟩
  · rw [if_neg hut, ← getElem!_pos m t (by omega), h.2 t ht]
    unfold Hit
    constructor
    · rintro (h1 | ⟨k', hk, e⟩)
      · exact .inl h1
      · exact .inr ⟨k', by omega, e⟩
    · rintro (h1 | ⟨k', hk, e⟩)
      · exact .inl h1
      · rcases Nat.lt_or_ge k' k with hlt | hge
        · exact .inr ⟨k', hlt, e⟩
        · obtain rfl : k' = k := by omega
          rw [he] at e
          have := (Prod.mk.inj e).2
          omega
theorem Marks.next {s : Sys} {l : List Int} {lab : Int} {i : Nat} {m : List Bool} (h : Marks s l lab i s[(l[i]!).toNat]!.length m) : Marks s l lab (i + 1) 0 m := by
  refine ⟨h.1, fun t ht => ?_⟩
  rw [h.2 t ht]
  unfold Hit
  constructor
  · rintro (⟨i', hi, e⟩ | ⟨k', hk, e⟩)
    · exact .inl ⟨i', by omega, e⟩
    · exact .inl ⟨i, by omega, by rw [← e]; exact mem_bang hk⟩
  · rintro (⟨i', hi, e⟩ | ⟨k', hk, e⟩)
    · rcases Nat.lt_or_ge i' i with hlt | hge
      · exact .inl ⟨i', hlt, e⟩
      · obtain rfl : i' = i := by omega
        obtain ⟨j, hj⟩ := List.getElem?_of_mem e
        exact .inr ⟨j, (List.getElem?_eq_some_iff.1 hj).1, bang_of hj⟩
    · omega

/-- the marks, as a list -/
def markL (m : List Bool) (j : Nat) : List Int := ((List.range j).filter fun t => m[t]!).map fun (t : Nat) => (t : Int)
theorem markL_succ (m : List Bool) (j : Nat) : markL m (j + 1) = markL m j ++ if m[j]! = true then [(j : Int)] else [] := by
  unfold markL
  rw [List.range_succ, List.filter_append, List.map_append]
  congr 1
  by_cases h : m[j]! = true
  · rw [List.filter_cons_of_pos (by exact h), if_pos h]; rfl
  · rw [List.filter_cons_of_neg (by exact h), if_neg h]; rfl
theorem markL_len (m : List Bool) (j : Nat) : (markL m j).length ≤ j := by
  unfold markL
  rw [List.length_map]
  exact Nat.le_trans (List.length_filter_le _ _) (by simp)
theorem markL_strict (m : List Bool) (j : Nat) : (markL m j).Pairwise (· < ·) := by
  unfold markL
  rw [List.pairwise_map]
  exact ((List.pairwise_lt_range).filter _).imp fun h => by omega
theorem mem_markL {m : List Bool} {j : Nat} {x : Int} : x ∈ markL m j ↔ ∃ t, t < j ∧ m[t]! = true ∧ x = (t : Int) := by
  unfold markL
  simp only [List.mem_map, List.mem_filter, List.mem_range]
  constructor
  · rintro ⟨t, ⟨h1, h2⟩, rfl⟩; exact ⟨t, h1, h2, rfl⟩
  · rintro ⟨t, h1, h2, rfl⟩; exact ⟨t, ⟨h1, h2⟩, rfl⟩

/-- strictly ascending lists of the same members are the same -/
theorem strict_one : ∀ {l k : List Int}, l.Pairwise (· < ·) → k.Pairwise (· < ·) → (∀ x, x ∈ l ↔ x ∈ k) → l = k
  | [], [], _, _, _ => rfl
  | [], y :: k, _, _, h => by have := (h y).2 (by simp); simp at this
  | x :: l, [], _, _, h => by have := (h x).1 (by simp); simp at this
  | x :: l, y :: k, h1, h2, h => by
    have p1 := List.pairwise_cons.1 h1
    have p2 := List.pairwise_cons.1 h2
    have hxy : x = y := by
      rcases List.mem_cons.1 ((h x).1 (by simp)) with e | e
      · exact e
      · rcases List.mem_cons.1 ((h y).2 (by simp)) with e' | e'
        · exact e'.symm
        · have := p1.1 y e'
          have := p2.1 x e
          omega
    subst hxy
    rw [strict_one p1.2 p2.2 fun z => ?_]
    constructor
    · intro hz
      rcases List.mem_cons.1 ((h z).1 (by simp [hz])) with e | e
      · subst e; have := p1.1 z hz; omega
      · exact e
    · intro hz
      rcases List.mem_cons.1 ((h z).2 (by simp [hz])) with e | e
      · subst e; have := p2.1 z hz; omega
      · exact e
theorem marks_after {s : Sys} {l : List Int} {lab : Int} {m : List Bool} (h : Marks s l lab l.length 0 m) (hin : Inside s) (hl : ∀ i ∈ l, 0 ≤ i ∧ i < s.length) : markL m s.length = afterF s l lab := by
  refine strict_one (markL_strict _ _) (strict_afterF _ _ _) fun x => ?_
  rw [mem_markL, mem_afterF]
  constructor
  · rintro ⟨t, ht, hm, rfl⟩
    rcases (h.2 t ht).1 hm with ⟨i', hi, e⟩ | ⟨k', hk, _⟩
    · exact ⟨l[i']!, mem_bang hi, e⟩
    · omega
  · rintro ⟨i, hi, hm⟩
    have hb := hl i hi
    have := hin _ (mem_bang (show i.toNat < s.length by omega)) _ hm
    obtain ⟨j, hj⟩ := List.getElem?_of_mem hi
    simp only at this
    refine ⟨x.toNat, by omega, (h.2 _ (by omega)).2 (.inl ⟨j, (List.getElem?_eq_some_iff.1 hj).1, ?_⟩), by omega⟩
    rw [bang_of hj, show ((x.toNat : Nat) : Int) = x by omega]; exact hm

set_option maxRecDepth 100000 in
set_option maxHeartbeats 1000000 in
theorem con_behind (s : Sys) (l : List Int) (lab : Int) (hs : checkS s = 0) (hsl : ∀ x ∈ s, x.length ≤ 281474976710656) (hl : Among s l) :
    Con Try.prog 47 [vy 0 s, vs 0 l, vi lab] [] fun r _ => r = vs 2 (afterF s l lab) := by
  obtain ⟨s1, s2, s3⟩ := checkS_ok hs
  have hll := hl.1
  refine Con.intro Try.func47 rfl Try.ntmps47 Try.results47 (by kernel_rfl) (by simp) 0 (by simp) ?_
  have hm0 : (List.replicate s.length false).map vb = List.replicate s.length (AV.sc (.bool false)) := by simp [vb]
  simp only [go_sem]
  refine ⟨Nat.le_refl _, by omega, by omega, ?_⟩
  refine LoopK.intro (fun p : Nat × List Bool => ⟨78, [(1, vs 0 l), (2, vi lab), (3, .pb 0 0), (6, .nil), (7, .sl 1024 1 (p.2.map vb)), (8, vi p.1)], [[.sl 0 1 (s.map (vl 0))]]⟩)
    (fun p => l.length - p.1) (fun p => p.1 ≤ l.length ∧ Marks s l lab p.1 0 p.2) (0, List.replicate s.length false) ⟨by simp, .none⟩ ?_ ?_
  · simp only [go_sem, hm0]
  rintro ⟨i, m⟩ ⟨hi, hm⟩
  simp only at hi hm
  by_cases h : i < l.length
  · have hw : IntKind.i64.wrap (i + 1) = i + 1 := wrap_in (by omega) (by omega)
    have g1 := getv h
    have hb := hl.2 _ (mem_bang h)
    obtain ⟨u, hu⟩ := Int.eq_ofNat_of_zero_le hb.1
    have hun : u < s.length := by omega
    have hut : (l[i]!).toNat = u := by omega
    have g2 := getvl hun
    have hsu := hsl _ (mem_bang hun)
    have hin := s3 _ (mem_bang hun)
    rw [hu] at g1
    simp only [go_sem, h]
    refine LoopK.intro (fun p : Nat × List Bool => ⟨78, [(1, vs 0 l), (2, vi lab), (3, .pb 0 0), (6, .nil), (7, .sl 1024 1 (p.2.map vb)), (8, vi i), (9, vi p.1)], [[.sl 0 1 (s.map (vl 0))]]⟩)
      (fun p => s[u]!.length - p.1) (fun p => p.1 ≤ s[u]!.length ∧ Marks s l lab i p.1 p.2) (0, m) ⟨by simp, hm⟩ ?_ ?_
    · simp only [go_sem]
    rintro ⟨k, m2⟩ ⟨hk, hm2⟩
    simp only at hk hm2
    have hml := hm2.1
    simp only [go_sem]
    refine DrawK.walk 11 mixed (by kernel_rfl) ?_
    by_cases h3 : k < s[u]!.length
    · have hg3 := getva h3
      have hw3 : IntKind.i64.wrap (k + 1) = k + 1 := wrap_in (by omega) (by omega)
      have hq := hin _ (mem_bang h3)
      generalize hpp : s[u]![k]! = q at hg3 hq
      obtain ⟨ql, qt⟩ := q
      obtain ⟨t, rfl⟩ := Int.eq_ofNat_of_zero_le hq.1
      simp only at hg3 hq
      simp only [go_sem, h, g1, hun, g2, h3]
      refine DrawK.walk 14 mixed (by kernel_rfl) ?_
      by_cases hlab : ql = lab
      · subst hlab
        have htm : t < m2.length := by omega
        simp only [go_sem, h, g1, hun, g2, h3, hg3, beq_self_eq_true]
        refine DrawK.walk 14 mixed (by kernel_rfl) ?_
        simp only [go_sem, h, g1, hun, g2, h3, hg3, htm, modify_vb', hw3]
        refine roundK.intro (k + 1, m2.set t true) ⟨by show k + 1 ≤ s[u]!.length; omega, hm2.put (by rw [hut]; exact hpp) (by omega)⟩ (by show s[u]!.length - (k + 1) < s[u]!.length - k; omega) ?_
        simp only [go_sem]
      · have hl' : (ql == lab) = false := beq_eq_false_iff_ne.2 hlab
        simp only [go_sem, h, g1, hun, g2, h3, hg3, hl', hw3]
        refine roundK.intro (k + 1, m2) ⟨by show k + 1 ≤ s[u]!.length; omega, hm2.skip (by rw [hut, hpp]; exact hlab)⟩ (by show s[u]!.length - (k + 1) < s[u]!.length - k; omega) ?_
        simp only [go_sem]
    · have hke : k = s[u]!.length := by omega
      subst hke
      simp only [go_sem, h, g1, hun, g2, h3, hw]
      refine roundK.intro (i + 1, m2) ⟨by show i + 1 ≤ l.length; omega, (show Marks s l lab i s[(l[i]!).toNat]!.length m2 by rw [hut]; exact hm2).next⟩ (by show l.length - (i + 1) < l.length - i; omega) ?_
      simp only [go_sem]
  · have hie : i = l.length := by omega
    subst hie
    have hml := hm.1
    have hfin := marks_after hm s3 hl.2
    simp only [go_sem, h]
    refine LoopK.intro (fun j : Nat => ⟨78, [(1, vs 0 l), (2, vi lab), (3, .pb 0 0), (6, .nil), (7, .sl 1024 1 (m.map vb)), (10, .sl 4928 1 ((markL m j).map vi)), (11, vi j)], [[.sl 0 1 (s.map (vl 0))]]⟩)
      (fun j => s.length - j) (fun j => j ≤ s.length) 0 (by omega) ?_ ?_
    · simp only [go_sem, markL, List.range_zero, List.filter_nil, List.map_nil]
    intro j hj
    by_cases h2 : j < s.length
    · have hjm : j < m.length := by omega
      have g3 := getvb hjm
      have hw2 : IntKind.i64.wrap (j + 1) = j + 1 := wrap_in (by omega) (by omega)
      have hsn := markL_succ m j
      have hml2 := markL_len m j
      cases hb : m[j]!
      · rw [hb] at hsn
        simp only [go_sem, hml, h2, g3, hb, hw2]
        refine roundK.intro (j + 1) (by show j + 1 ≤ s.length; omega) (by show s.length - (j + 1) < s.length - j; omega) ?_
        simp only [go_sem, hsn, Bool.false_eq_true, if_false, List.append_nil]
      · rw [hb] at hsn
        simp only [go_sem, hml, h2, g3, hb, hw2]
        refine ⟨by simp only [roomFor]; omega, roundK.intro (j + 1) (by show j + 1 ≤ s.length; omega) (by show s.length - (j + 1) < s.length - j; omega) ?_⟩
        simp only [go_sem, hsn, if_true, List.map_append, List.map_cons, List.map_nil]
    · have hje : j = s.length := by omega
      subst hje
      simp only [go_sem, hml, h2, hfin]
end Go.AM

/-! ## Ld -/
namespace Go.AM

/-- the states behind a word -/
def accF (x : Sys) (w : List Int) : List Int := w.foldl (afterF x) [0]
def Acc (x : Sys) (w : List Int) : Prop := accF x w ≠ []
theorem accF_snoc (x : Sys) (w : List Int) (l : Int) : accF x (w ++ [l]) = afterF x (accF x w) l := by simp [accF]
theorem accF_among {x : Sys} (hx : checkS x = 0) (w : List Int) : Among x (accF x w) := by
  have : ∀ (w : List Int) (s : List Int), Among x s → Among x (w.foldl (afterF x) s) := by
    intro w
    induction w with
    | nil => intro s h; exact h
    | cons l w ih => intro s h; exact ih _ (among_afterF hx h)
  exact this w _ (among_start hx)
theorem afterF_nil (x : Sys) (l : Int) : afterF x [] l = [] := by
  rw [List.eq_nil_iff_forall_not_mem]
  intro t ht
  obtain ⟨i, hi, _⟩ := mem_afterF.1 ht
  simp at hi
theorem acc_prefix {x : Sys} {w : List Int} {l : Int} (h : Acc x (w ++ [l])) : Acc x w := fun e => h (by rw [accF_snoc, e, afterF_nil])

/-- a simulation's words -/
theorem sim_words {a b : Sys} {S : Nat → Nat → Prop} (ha : checkS a = 0) (hb : checkS b = 0) (hS : IsSim a b S) (h0 : S 0 0) : ∀ (w : List Int), ∀ i ∈ accF a w, ∃ j ∈ accF b w, S i.toNat j.toNat := by
  intro w
  have key : ∀ (n : Nat) (w : List Int), w.length = n → ∀ i ∈ accF a w, ∃ j ∈ accF b w, S i.toNat j.toNat := by
    intro n
    induction n with
    | zero =>
      intro w hw i hi
      obtain rfl := List.eq_nil_of_length_eq_zero hw
      have : i = 0 := by simpa [accF] using hi
      subst this
      exact ⟨0, by simp [accF], h0⟩
    | succ n ih =>
      intro w hw i hi
      obtain ⟨w', l, rfl⟩ : ∃ w' l, w = w' ++ [l] := ⟨w.dropLast, w.getLast (by intro e; rw [e] at hw; simp at hw), (List.dropLast_concat_getLast _).symm⟩
      rw [accF_snoc] at hi ⊢
      obtain ⟨k, hk, hq⟩ := mem_afterF.1 hi
      obtain ⟨m, hm, hs⟩ := ih w' (by simpa using hw) k hk
      have ka := (accF_among ha w').2 k hk
      have kb := (accF_among hb w').2 m hm
      obtain ⟨q, hq2, e1, e2⟩ := hS k.toNat m.toNat (by omega) (by omega) hs _ hq
      refine ⟨q.2, mem_afterF.2 ⟨m, hm, ?_⟩, e2⟩
      have : (l, q.2) = q := Prod.ext e1.symm rfl
      rw [this]; exact hq2
  exact key _ w rfl
theorem sim_acc {a b : Sys} {S : Nat → Nat → Prop} (ha : checkS a = 0) (hb : checkS b = 0) (hS : IsSim a b S) (h0 : S 0 0) {w : List Int} (h : Acc a w) : Acc b w := fun e => by
  obtain ⟨i, hi⟩ := List.exists_mem_of_ne_nil _ h
  obtain ⟨j, hj, _⟩ := sim_words ha hb hS h0 w i hi
  rw [e] at hj; simp at hj

/-! ### keys -/
theorem keyB_inj {a b a' b' : List Int} (ha : ∀ i ∈ a, 0 ≤ i ∧ i < 128) (ha' : ∀ i ∈ a', 0 ≤ i ∧ i < 128) (h : keyB a b = keyB a' b') : a = a' ∧ b = b' := by
  unfold keyB at h
  induction a generalizing a' with
  | nil =>
    cases a' with
    | nil => simpa using h
    | cons y a' => simp at h; have := ha' y (by simp); omega
  | cons x a ih =>
    cases a' with
    | nil => simp at h; have := ha x (by simp); omega
    | cons y a' =>
      simp at h
      obtain ⟨h1, h2⟩ := h
      obtain ⟨e1, e2⟩ := ih (fun i hi => ha i (by simp [hi])) (fun i hi => ha' i (by simp [hi])) h2
      exact ⟨by rw [h1, e1], e2⟩
theorem strOf_data (ns : List Int) : (strOf ns).data.toList = ns.map fun n => UInt8.ofNat n.toNat := by
  have : ∀ (ns : List Int) (r : ByteArray), (ns.foldl (fun r n => r.push (UInt8.ofNat n.toNat)) r).data.toList = r.data.toList ++ ns.map fun n => UInt8.ofNat n.toNat := by
    intro ns
    induction ns with
    | nil => intro r; simp
    | cons x ns ih => intro r; rw [List.foldl_cons, ih, List.map_cons]; simp [ByteArray.push]
  unfold strOf
  rw [this]; simp
theorem bytes_inj : ∀ {x y : List Int}, (∀ i ∈ x, 0 ≤ i ∧ i < 256) → (∀ i ∈ y, 0 ≤ i ∧ i < 256) → (x.map fun n => UInt8.ofNat n.toNat) = (y.map fun n => UInt8.ofNat n.toNat) → x = y
  | [], [], _, _, _ => rfl
  | [], _ :: _, _, _, h => by simp at h
  | _ :: _, [], _, _, h => by simp at h
  | a :: x, b :: y, hx, hy, h => by
    simp only [List.map_cons, List.cons.injEq] at h
    have h1 := hx a (by simp)
    have h2 := hy b (by simp)
    have e := congrArg UInt8.toNat h.1
    simp only [UInt8.toNat_ofNat'] at e
    rw [Nat.mod_eq_of_lt (by omega), Nat.mod_eq_of_lt (by omega)] at e
    rw [show a = b by omega, bytes_inj (fun i hi => hx i (by simp [hi])) (fun i hi => hy i (by simp [hi])) h.2]
/-- the states are small numbers -/
def Small (p : TP) : Prop := (∀ i ∈ p.2.1, 0 ≤ i ∧ i < 128) ∧ ∀ i ∈ p.2.2, 0 ≤ i ∧ i < 128
theorem keyP_inj {p q : TP} (hp : Small p) (hq : Small q) (h : keyP p = keyP q) : p.2 = q.2 := by
  unfold keyP at h
  rw [strOf_data, strOf_data] at h
  have hk : ∀ {p : TP}, Small p → ∀ i ∈ keyB p.2.1 p.2.2, 0 ≤ i ∧ i < 256 := by
    intro p hp i hi
    unfold keyB at hi
    rcases List.mem_append.1 hi with hi | hi
    · have := hp.1 i hi; omega
    · rcases List.mem_cons.1 hi with rfl | hi
      · omega
      · have := hp.2 i hi; omega
  have := bytes_inj (hk hp) (hk hq) h
  obtain ⟨e1, e2⟩ := keyB_inj hp.1 hq.1 this
  exact Prod.ext e1 e2

/-! ### the search -/
/-- what was met, in order; the first k have been looked at -/
structure Met (a b : Sys) (seen : List TP) (k : Nat) : Prop where
  valid : ∀ p ∈ seen, p.2.1 = accF a p.1 ∧ p.2.2 = accF b p.1 ∧ p.2.2 ≠ []
  sorted : seen.Pairwise fun p q => p.1.length ≤ q.1.length
  first : startP ∈ seen
  done : ∀ p ∈ seen.take k, ∀ lab ∈ labelsF a p.2.1, ∃ q ∈ seen, q.1.length ≤ p.1.length + 1 ∧ q.2.1 = afterF a p.2.1 lab ∧ q.2.2 = afterF b p.2.2 lab
  level : ∀ q ∈ seen, ∀ p, seen[k]? = some p → q.1.length ≤ p.1.length + 1
  apart : seen.Pairwise fun p q => p.2 ≠ q.2

theorem Met.reach {a b : Sys} {seen : List TP} {k : Nat} (h : Met a b seen k) : ∀ (x : List Int), Acc a x → (∀ p, seen[k]? = some p → x.length ≤ p.1.length) → ∃ q ∈ seen, q.1.length ≤ x.length ∧ q.2.1 = accF a x ∧ q.2.2 = accF b x := by
  intro x
  have key : ∀ (n : Nat) (x : List Int), x.length = n → Acc a x → (∀ p, seen[k]? = some p → x.length ≤ p.1.length) → ∃ q ∈ seen, q.1.length ≤ x.length ∧ q.2.1 = accF a x ∧ q.2.2 = accF b x := by
    intro n
    induction n with
    | zero =>
      intro x hx _ _
      obtain rfl := List.eq_nil_of_length_eq_zero hx
      exact ⟨startP, h.first, by simp [startP], rfl, rfl⟩
    | succ n ih =>
      intro x hx hacc hlen
      obtain ⟨y, l, rfl⟩ : ∃ y l, x = y ++ [l] := ⟨x.dropLast, x.getLast (by intro e; rw [e] at hx; simp at hx), (List.dropLast_concat_getLast _).symm⟩
      have hy : y.length = n := by simpa using hx
      obtain ⟨q, hq, h1, h2, h3⟩ := ih y hy (acc_prefix hacc) (fun p hp => by have := hlen p hp; simp at this; omega)
      have hqk : q ∈ seen.take k := by
        obtain ⟨j, hj⟩ := List.getElem?_of_mem hq
        have hjl := (List.getElem?_eq_some_iff.1 hj).1
        by_cases hjk : j < k
        · exact List.mem_of_getElem? (show (seen.take k)[j]? = some q by rw [List.getElem?_take, if_pos hjk]; exact hj)
        · exfalso
          have hkl : k < seen.length := by omega
          have hk0 := List.getElem?_eq_getElem hkl
          have h4 := hlen _ hk0
          have h5 : seen[k].1.length ≤ q.1.length := by
            rcases Nat.lt_or_ge k j with hlt | hge
            · have := List.pairwise_iff_getElem.1 h.sorted k j hkl hjl hlt
              rw [List.getElem?_eq_getElem hjl] at hj
              cases hj; exact this
            · have : j = k := by omega
              subst this
              rw [hk0] at hj; cases hj; exact Nat.le_refl _
          simp at h4; omega
      rw [accF_snoc, ← h2, accF_snoc, ← h3]
      have hlab : l ∈ labelsF a q.2.1 := by
        unfold Acc at hacc
        rw [accF_snoc, ← h2] at hacc
        obtain ⟨t, ht⟩ := List.exists_mem_of_ne_nil _ hacc
        obtain ⟨i, hi, hm⟩ := mem_afterF.1 ht
        exact mem_labelsF.2 ⟨i, hi, t, hm⟩
      obtain ⟨q', hq', g1, g2, g3⟩ := h.done q hqk l hlab
      exact ⟨q', hq', by simp; omega, g2, g3⟩
  exact key _ x rfl

/-- a word that tells them apart -/
def ApartW (a b : Sys) (x : List Int) : Prop := Acc a x ∧ ¬ Acc b x
theorem Met.none {a b : Sys} {seen : List TP} {k : Nat} (h : Met a b seen k) {x : List Int} (hx : ∀ p, seen[k]? = some p → x.length ≤ p.1.length) : ¬ ApartW a b x := fun ⟨h1, h2⟩ => by
  obtain ⟨q, hq, _, _, g3⟩ := h.reach x h1 hx
  exact h2 (by unfold Acc; rw [← g3]; exact (h.valid q hq).2.2)
end Go.AM

/-! ## SG -/
namespace Go.AM
open Go Go.Proofs Go.RowKit

set_option maxRecDepth 100000 in
theorem con_raccepts (s : Sys) (word : List Int) (hsl : ∀ x ∈ s, x.length ≤ 281474976710656) (hs : s.length ≤ 9223372036854775806) (hw : word.length ≤ 9223372036854775806) :
    Con Try.prog 25 [vy 0 s, vs 0 word] [] fun r _ => r = .sc (.bool (if checkS s = 0 then decide (0 < (accF s word).length) else false)) := by
  refine Con.intro Try.func25 rfl Try.ntmps25 Try.results25 (by kernel_rfl) (by simp) 0 (by simp) ?_
  simp only [go_sem]
  refine CallU.free (con_rcheck s hsl hs) (by simp only [go_sem]) (by simp only [go_sem]) ?_
  rintro r bx rfl
  by_cases hc : checkS s = 0
  case neg =>
    have hne : (checkS s != 0) = true := by simp [hc]
    simp only [go_sem, hne, hc, if_false]
  simp only [go_sem, hc, if_true]
  refine LoopK.freeze (fun _ => true) (fun i : Nat => ⟨27, [(1, vs 0 word), (2, .pb 0 0), (4, vb false), (5, vs 0 (accF s (word.take i))), (6, vi i)], [[.sl 0 1 (s.map (vl 0))]]⟩)
    (fun i => word.length - i) (fun i => i ≤ word.length) 0 (by omega) ?_ ?_
  · simp only [go_sem, accF, List.take_zero, List.foldl_nil, List.map_cons, List.map_nil]
  intro i hi
  by_cases h : i < word.length
  · have g1 := getv h
    have hw2 : IntKind.i64.wrap (i + 1) = i + 1 := wrap_in (by omega) (by omega)
    have hsn : accF s (word.take (i + 1)) = afterF s (accF s (word.take i)) word[i]! := by rw [take_one h, accF_snoc]
    simp only [go_sem, h]
    refine DrawK.walk 6 mixed (by kernel_rfl) ?_
    simp only [go_sem, h, g1]
    refine CallU.free (con_behind s (accF s (word.take i)) word[i]! hc hsl (accF_among hc _)) (by simp only [go_sem]) (by simp only [go_sem]) ?_
    rintro r bx rfl
    simp only [go_sem, hw2]
    refine roundK.freeze (fun _ => true) (i + 1) (by show i + 1 ≤ word.length; omega) (by show word.length - (i + 1) < word.length - i; omega) ?_
    simp only [go_sem, hsn]
  · have hie : i = word.length := by omega
    subst hie
    simp only [go_sem, h, List.take_length]
    rw [if_pos hc]
end Go.AM

/-! ## SH -/
namespace Go.AM
open Go Go.Proofs Go.RowKit

section
variable (a b : Sys) (hab : bothS a b ≠ 0) (ha : ∀ l ∈ a, l.length ≤ 281474976710656) (ha2 : a.length ≤ 9223372036854775806) (hb : ∀ l ∈ b, l.length ≤ 281474976710656) (hb2 : b.length ≤ 9223372036854775806)
include hab ha ha2 hb hb2

set_option maxRecDepth 100000 in
theorem con_greatestE : Con Try.prog 16 [vy 0 a, vy 0 b] [] fun r _ => r = .tup [.nil, vi (bothS a b)] := by
  refine Con.intro Try.func16 rfl Try.ntmps16 Try.results16 (by kernel_rfl) (by simp) 0 (by simp) ?_
  simp only [go_sem]
  refine CallU.free (con_both a b ha ha2 hb hb2) (by simp only [go_sem]) (by simp only [go_sem]) ?_
  rintro r bx rfl
  have hne : (bothS a b != 0) = true := bne_iff_ne.2 hab
  simp only [go_sem, hne]
set_option maxRecDepth 100000 in
theorem con_rgreatestE : Con Try.prog 26 [vy 0 a, vy 0 b] [] fun r _ => r = .tup [.nil, vi (bothS a b)] := by
  refine Con.intro Try.func26 rfl Try.ntmps26 Try.results26 (by kernel_rfl) (by simp) 0 (by simp) ?_
  simp only [go_sem]
  refine CallU.free (con_rboth a b ha ha2 hb hb2) (by simp only [go_sem]) (by simp only [go_sem]) ?_
  rintro r bx rfl
  have hne : (bothS a b != 0) = true := bne_iff_ne.2 hab
  simp only [go_sem, hne]
set_option maxRecDepth 100000 in
theorem con_simulatesE : Con Try.prog 12 [vy 0 a, vy 0 b] [] fun r _ => r = .tup [.sc (.bool false), vi (bothS a b)] := by
  refine Con.intro Try.func12 rfl Try.ntmps12 Try.results12 (by kernel_rfl) (by simp) 0 (by simp) ?_
  simp only [go_sem]
  refine CallU.free (con_greatestE a b hab ha ha2 hb hb2) (by simp only [go_sem]) (by simp only [go_sem]) ?_
  rintro r bx rfl
  have hne : (bothS a b != 0) = true := bne_iff_ne.2 hab
  simp only [go_sem, hne]
set_option maxRecDepth 100000 in
theorem con_rsimE : Con Try.prog 28 [vy 0 a, vy 0 b] [] fun r _ => r = .tup [.sc (.bool false), vi (bothS a b)] := by
  refine Con.intro Try.func28 rfl Try.ntmps28 Try.results28 (by kernel_rfl) (by simp) 0 (by simp) ?_
  simp only [go_sem]
  refine CallU.free (con_rgreatestE a b hab ha ha2 hb hb2) (by simp only [go_sem]) (by simp only [go_sem]) ?_
  rintro r bx rfl
  have hne : (bothS a b != 0) = true := bne_iff_ne.2 hab
  simp only [go_sem, hne]
set_option maxRecDepth 100000 in
theorem con_holdsE (r : Rel) : Con Try.prog 17 [vy 0 a, vy 0 b, vr 0 r] [] fun u _ => u = vi (bothS a b) := by
  refine Con.intro Try.func17 rfl Try.ntmps17 Try.results17 (by kernel_rfl) (by simp) 0 (by simp) ?_
  simp only [go_sem]
  refine CallU.free (con_both a b ha ha2 hb hb2) (by simp only [go_sem]) (by simp only [go_sem]) ?_
  rintro u bx rfl
  have hne : (bothS a b != 0) = true := bne_iff_ne.2 hab
  simp only [go_sem, hne]
set_option maxRecDepth 100000 in
theorem con_rholdsE (r : Rel) : Con Try.prog 29 [vy 0 a, vy 0 b, vr 0 r] [] fun u _ => u = vi (bothS a b) := by
  refine Con.intro Try.func29 rfl Try.ntmps29 Try.results29 (by kernel_rfl) (by simp) 0 (by simp) ?_
  simp only [go_sem]
  refine CallU.free (con_rboth a b ha ha2 hb hb2) (by simp only [go_sem]) (by simp only [go_sem]) ?_
  rintro u bx rfl
  have hne : (bothS a b != 0) = true := bne_iff_ne.2 hab
  simp only [go_sem, hne]
set_option maxRecDepth 100000 in
theorem con_traceE (most : Int) : Con Try.prog 13 [vy 0 a, vy 0 b, vi most] [] fun u _ => u = .tup [.nil, .sc (.bool false), vi (bothS a b)] := by
  refine Con.intro Try.func13 rfl Try.ntmps13 Try.results13 (by kernel_rfl) (by simp) 0 (by simp) ?_
  simp only [go_sem]
  refine CallU.free (con_both a b ha ha2 hb hb2) (by simp only [go_sem]) (by simp only [go_sem]) ?_
  rintro u bx rfl
  have hne : (bothS a b != 0) = true := bne_iff_ne.2 hab
  simp only [go_sem, hne]
set_option maxRecDepth 100000 in
theorem con_rtraceE (most : Int) : Con Try.prog 30 [vy 0 a, vy 0 b, vi most] [] fun u _ => u = .tup [.nil, .sc (.bool false), vi (bothS a b)] := by
  refine Con.intro Try.func30 rfl Try.ntmps30 Try.results30 (by kernel_rfl) (by simp) 0 (by simp) ?_
  simp only [go_sem]
  refine CallU.free (con_rboth a b ha ha2 hb hb2) (by simp only [go_sem]) (by simp only [go_sem]) ?_
  rintro u bx rfl
  have hne : (bothS a b != 0) = true := bne_iff_ne.2 hab
  simp only [go_sem, hne]
end
end Go.AM

/-! ## SI -/
namespace Go.AM
open Go Go.Proofs Go.RowKit

section
variable (a b : Sys) (hab : bothS a b = 0) (ha : ∀ l ∈ a, l.length ≤ 281474976710656) (ha2 : a.length ≤ 9223372036854775806) (hb : ∀ l ∈ b, l.length ≤ 281474976710656) (hb2 : b.length ≤ 9223372036854775806)
include hab ha ha2 hb hb2

set_option maxRecDepth 100000 in
theorem con_traceM (most : Int) (hm : most < 0 ∨ 16 < most) : Con Try.prog 13 [vy 0 a, vy 0 b, vi most] [] fun u _ => u = .tup [.nil, .sc (.bool false), vi 2] := by
  refine Con.intro Try.func13 rfl Try.ntmps13 Try.results13 (by kernel_rfl) (by simp) 0 (by simp) ?_
  simp only [go_sem]
  refine CallU.free (con_both a b ha ha2 hb hb2) (by simp only [go_sem]) (by simp only [go_sem]) ?_
  rintro u bx rfl
  by_cases h1 : most < 0
  · simp only [go_sem, hab, h1]
  · have h2 : 16 < most := hm.resolve_left h1
    simp only [go_sem, hab, h1, h2]
set_option maxRecDepth 100000 in
theorem con_rtraceM (most : Int) (hm : most < 0 ∨ 16 < most) : Con Try.prog 30 [vy 0 a, vy 0 b, vi most] [] fun u _ => u = .tup [.nil, .sc (.bool false), vi 2] := by
  refine Con.intro Try.func30 rfl Try.ntmps30 Try.results30 (by kernel_rfl) (by simp) 0 (by simp) ?_
  simp only [go_sem]
  refine CallU.free (con_rboth a b ha ha2 hb hb2) (by simp only [go_sem]) (by simp only [go_sem]) ?_
  rintro u bx rfl
  by_cases h1 : most < 0
  · simp only [go_sem, hab, h1]
  · have h2 : 16 < most := hm.resolve_left h1
    simp only [go_sem, hab, h1, h2]
set_option maxRecDepth 100000 in
theorem con_holdsW (r : Rel) (hr : r.length ≤ 9223372036854775806) : Con Try.prog 17 [vy 0 a, vy 0 b, vr 0 r] [] fun u _ => ∃ e, u = vi e ∧ HoldsW a b r e := by
  by_cases hs : Sized r a.length b.length
  · exact (con_holds a b r hab ha hb hs).mono fun u bx ⟨e, h1, h2⟩ => ⟨e, h1, .inr ⟨hs, h2⟩⟩
  refine Con.intro Try.func17 rfl Try.ntmps17 Try.results17 (by kernel_rfl) (by simp) 0 (by simp) ?_
  simp only [go_sem]
  refine CallU.free (con_both a b ha ha2 hb hb2) (by simp only [go_sem]) (by simp only [go_sem]) ?_
  rintro u bx rfl
  by_cases hrl : r.length = a.length
  case neg =>
    simp only [go_sem, hab, hrl]
    exact ⟨46, rfl, .inl ⟨hs, rfl⟩⟩
  have hany : r.any (badRow b.length) = true := by
    rw [List.any_eq_true]
    apply Classical.byContradiction
    intro hn
    refine hs ⟨hrl, fun row hm => ?_⟩
    apply Classical.byContradiction
    intro hne
    exact hn ⟨row, hm, by simp [badRow, hne]⟩
  simp only [go_sem, hab, hrl]
  refine CallU.look (con_containsRow r 39 [.fp [.sl 0 1 (b.map (vl 0))] 0] (badRow b.length) (by simp only [go_sem]) (fun q hq => con_holds1 q b) hr) (by simp only [go_sem]) (by simp only [go_sem]) ?_
  rintro u bx rfl
  simp only [go_sem, hany]
  exact ⟨46, rfl, .inl ⟨hs, rfl⟩⟩
end

set_option maxRecDepth 100000 in
theorem con_acceptsE (s : Sys) (word : List Int) (hc : checkS s ≠ 0) (hsl : ∀ x ∈ s, x.length ≤ 281474976710656) (hs : s.length ≤ 9223372036854775806) :
    Con Try.prog 14 [vy 0 s, vs 0 word] [] fun r _ => r = .sc (.bool false) := by
  refine Con.intro Try.func14 rfl Try.ntmps14 Try.results14 (by kernel_rfl) (by simp) 0 (by simp) ?_
  simp only [go_sem]
  refine CallU.free (con_check s hsl hs) (by simp only [go_sem]) (by simp only [go_sem]) ?_
  rintro r bx rfl
  have hne : (checkS s != 0) = true := bne_iff_ne.2 hc
  simp only [go_sem, hne]
end Go.AM

/-! ## SJ -/
namespace Go.AM
open Go Go.Proofs Go.RowKit

set_option maxRecDepth 100000 in
theorem con_clone (l : List (Int × Int)) (hroom : roomFor l.length 16) : Con Try.prog 42 [vl 0 l] [] fun r _ => r = vl 2 l ∨ (l = [] ∧ r = .nil) := by
  refine Con.intro Try.func42 rfl Try.ntmps42 Try.results42 (by kernel_rfl) (by simp) 0 (by simp) ?_
  rw [← Nat.zero_add l.length] at hroom
  cases l with
  | nil =>
    simp only [go_sem]
    exact ⟨.inr trivial, hroom, .inl trivial⟩
  | cons x l =>
    simp only [go_sem]
    exact ⟨hroom, .inl trivial⟩
end Go.AM

/-! ## SO -/
namespace Go.AM
open Go Go.Proofs Go.RowKit

def vG (cs : List CV) (arcs : Sys) : AV := .ag [.sl 0 2 (cs.map vV), .sl 0 1 (arcs.map (vl 0))]
attribute [go_sem] vG
/-- an earlier one is the same -/
def dupV (cs : List CV) (i : Nat) : Bool := (cs.take i).any fun x => sameV x cs[i]!
def badG (cs : List CV) (arcs : Sys) (i : Nat) : Bool := dupV cs i || arcs[i]!.any (badArc cs.length)
/-- the error of a graph -/
def checkG (cs : List CV) (arcs : Sys) : Int := if decide (cs.length < 1) || decide (128 < cs.length) || decide (arcs.length ≠ cs.length) || (List.range cs.length).any (badG cs arcs) then 45 else 0
theorem checkG_bad {cs : List CV} {arcs : Sys} {i : Nat} (h : i < cs.length) (hb : badG cs arcs i = true) : checkG cs arcs = 45 := by
  unfold checkG
  rw [List.any_eq_true.2 ⟨i, List.mem_range.2 h, hb⟩, Bool.or_true, if_pos rfl]
theorem checkG_ok {cs : List CV} {arcs : Sys} (h1 : 1 ≤ cs.length) (h2 : cs.length ≤ 128) (h3 : arcs.length = cs.length) (h : ∀ i, i < cs.length → badG cs arcs i = false) : checkG cs arcs = 0 := by
  unfold checkG
  have : (List.range cs.length).any (badG cs arcs) = false := by
    rw [List.any_eq_false]
    intro i hi
    rw [h i (List.mem_range.1 hi)]; simp
  rw [this, decide_eq_false (by omega), decide_eq_false (by omega), decide_eq_false (by omega)]; rfl
theorem checkG_zero {cs : List CV} {arcs : Sys} (h : checkG cs arcs = 0) : 1 ≤ cs.length ∧ cs.length ≤ 128 ∧ arcs.length = cs.length := by
  unfold checkG at h
  split at h
  · cases h
  · rename_i hn
    simp only [Bool.not_eq_true, Bool.or_eq_false_iff, decide_eq_false_iff_not] at hn
    omega
theorem dupV_findI {cs : List CV} {i : Nat} (h : i < cs.length) : (findI (fun x => sameV x cs[i]!) cs != (i : Int)) = dupV cs i := by
  cases hd : dupV cs i
  · have hno : ∀ j, j < i → sameV cs[j]! cs[i]! = false := fun j hj => by
      unfold dupV at hd
      rw [List.any_eq_false] at hd
      have := hd cs[j]! (by
        refine List.mem_iff_getElem?.2 ⟨j, ?_⟩
        rw [List.getElem?_take, if_pos hj, List.getElem?_eq_getElem (by omega), getElem!_pos cs j (by omega)])
      simpa using this
    rw [findI_stop (p := fun x => sameV x cs[i]!) h hno (sameV_iff.2 rfl)]
    simp
  · rw [bne_iff_ne]
    intro e
    unfold dupV at hd
    obtain ⟨x, hx, hs⟩ := List.any_eq_true.1 hd
    obtain ⟨j, hj⟩ := List.getElem?_of_mem hx
    rw [List.getElem?_take] at hj
    split at hj
    · rename_i hji
      unfold findI at e
      cases hf : cs.findIdx? (fun x => sameV x cs[i]!) with
      | none => rw [hf] at e; simp at e
      | some k =>
        rw [hf] at e
        simp only at e
        obtain rfl : k = i := by omega
        rw [List.findIdx?_eq_some_iff_getElem] at hf
        have := hf.2.2 j hji
        have hjl := (List.getElem?_eq_some_iff.1 hj)
        rw [hjl.2] at this
        exact this hs
    · cases hj
theorem dupV_ge (cs : List CV) (i : Nat) : decide (0 ≤ findI (fun x => sameV x cs[i]!) (cs.take i)) = dupV cs i := findI_ge _ _

set_option maxRecDepth 100000 in
theorem con_check60 (a : Int × Int) (n : Nat) : Con Try.prog 60 [va a, .fp [vi n] 0] [] fun r _ => r = .sc (.bool (badArc n a)) := by
  refine Con.intro Try.func60 rfl Try.ntmps60 Try.results60 (by kernel_rfl) (by simp) 0 (by simp) ?_
  by_cases h : a.2 < 0 <;> simp only [go_sem, h, badArc]

section
variable (cs : List CV) (arcs : Sys) (hcs : cs.length ≤ 9223372036854775807) (hco : ∀ x ∈ cs, x.Ok) (hal : ∀ l ∈ arcs, l.length ≤ 9223372036854775806)
include hcs hco hal

set_option maxRecDepth 100000 in
set_option maxHeartbeats 1000000 in
theorem con_checkG : Con Try.prog 41 [vG cs arcs] [] fun r _ => r = vi (checkG cs arcs) := by
  refine Con.intro Try.func41 rfl Try.ntmps41 Try.results41 (by kernel_rfl) (by simp) 0 (by simp) ?_
  by_cases h1 : (cs.length : Int) < 1
  · have e : checkG cs arcs = 45 := by unfold checkG; rw [decide_eq_true (show cs.length < 1 by omega)]; rfl
    simp only [go_sem, h1, e]
  by_cases h2 : (128 : Int) < cs.length
  · have e : checkG cs arcs = 45 := by unfold checkG; rw [decide_eq_true (show 128 < cs.length by omega)]; simp
    simp only [go_sem, h1, h2, e]
  by_cases h3 : arcs.length = cs.length
  case neg =>
    have e : checkG cs arcs = 45 := by unfold checkG; rw [decide_eq_true (show arcs.length ≠ cs.length from h3)]; simp
    have h3' : ((arcs.length : Int) != cs.length) = true := bne_iff_ne.2 (by omega)
    simp only [go_sem, h1, h2, h3', e]
  have h3' : ((arcs.length : Int) != cs.length) = false := by rw [h3]; simp
  simp only [go_sem, h1, h2, h3']
  refine LoopK.intro (fun i : Nat => ⟨45, [(1, .pb 0 0), (3, .pb 1 0), (23, .sl 0 2 (cs.map vV)), (24, vi cs.length), (25, vi i)], [.sl 0 2 (cs.map vV), .sl 0 1 (arcs.map (vl 0))] :: [vi cs.length] :: Rk 2 i⟩)
    (fun i => cs.length - i) (fun i => i ≤ cs.length ∧ ∀ j, j < i → badG cs arcs j = false) 0 ⟨by omega, fun j hj => by omega⟩ ?_ ?_
  · simp only [go_sem]
    first | trivial | exact leB_self _
  rintro i ⟨hi, hb⟩
  by_cases h : i < cs.length
  case neg =>
    have hie : i = cs.length := by omega
    subst hie
    have e := checkG_ok (by omega) (by omega) h3 hb
    simp only [go_sem, h, e]
  have ha : i < arcs.length := by omega
  have g1 := getvV h
  have g2 := getvl ha
  have hw : IntKind.i64.wrap (i + 1) = i + 1 := wrap_in (by omega) (by omega)
  have hB := Rk_len 2 i
  have n0 := fun L : List (List AV) => app_at0 (L := L) hB
  have s0 := fun (L : List (List AV)) z => app_set0 (L := L) (z := z) hB
  have hc1 := con_shapeIndex (cs.take i) cs[i]! (by rw [List.length_take]; omega) (fun x hx => hco x (List.mem_of_mem_take hx)) (hco _ (mem_bang h))
  rw [vV_eq cs[i]!, List.map_take] at hc1
  simp only [go_sem, h, g1, hB, n0, s0]
  refine DrawK.walk 5 mixed (by kernel_rfl) ?_
  simp only [go_sem, n0]
  refine ⟨by omega, ?_⟩
  refine CallU.free hc1 (by simp only [go_sem]) (by simp only [go_sem]) ?_
  rintro r bx rfl
  have hge := dupV_ge cs i
  cases hd : dupV cs i
  case true =>
    have e := checkG_bad (arcs := arcs) h (by unfold badG; rw [hd]; rfl)
    rw [hd] at hge
    simp only [go_sem, hge, e]
  rw [hd] at hge
  simp only [go_sem, hge, g2, ha]
  refine CallU.look (con_containsArc arcs[i]! 60 [.fp [vi cs.length] 0] (badArc cs.length) (by simp only [go_sem]) (fun a ha => con_check60 a cs.length) (hal _ (mem_bang ha))) (by simp only [go_sem]) (by simp only [go_sem]) ?_
  rintro r bx rfl
  cases hba : arcs[i]!.any (badArc cs.length)
  case true =>
    have e := checkG_bad (arcs := arcs) h (by unfold badG; rw [hba, Bool.or_true])
    simp only [go_sem, e]
  simp only [go_sem, hw]
  refine roundK.intro (i + 1) ⟨by omega, fun j hj => ?_⟩ (by omega) ?_
  · by_cases hji : j = i
    · subst hji; unfold badG; rw [hd, hba]; rfl
    · exact hb j (by omega)
  · simp only [go_sem, Rk_succ]
    exact leB_RkA ⟨⟨leV_any _, leV_any _, trivial⟩, trivial⟩

set_option maxRecDepth 100000 in
set_option maxHeartbeats 1000000 in
theorem con_rcheckG : Con Try.prog 43 [vG cs arcs] [] fun r _ => r = vi (checkG cs arcs) := by
  refine Con.intro Try.func43 rfl Try.ntmps43 Try.results43 (by kernel_rfl) (by simp) 0 (by simp) ?_
  by_cases h1 : (cs.length : Int) < 1
  · have e : checkG cs arcs = 45 := by unfold checkG; rw [decide_eq_true (show cs.length < 1 by omega)]; rfl
    simp only [go_sem, h1, e]
  by_cases h2 : (128 : Int) < cs.length
  · have e : checkG cs arcs = 45 := by unfold checkG; rw [decide_eq_true (show 128 < cs.length by omega)]; simp
    simp only [go_sem, h1, h2, e]
  by_cases h3 : arcs.length = cs.length
  case neg =>
    have e : checkG cs arcs = 45 := by unfold checkG; rw [decide_eq_true (show arcs.length ≠ cs.length from h3)]; simp
    have h3' : ((arcs.length : Int) != cs.length) = true := bne_iff_ne.2 (by omega)
    simp only [go_sem, h1, h2, h3', e]
  have h3' : ((arcs.length : Int) != cs.length) = false := by rw [h3]; simp
  simp only [go_sem, h1, h2, h3']
  refine LoopK.intro (fun i : Nat => ⟨70, [(1, .pb 0 0), (3, vi cs.length), (4, vi i)], [[.sl 0 2 (cs.map vV), .sl 0 1 (arcs.map (vl 0))]]⟩)
    (fun i => cs.length - i) (fun i => i ≤ cs.length ∧ ∀ j, j < i → badG cs arcs j = false) 0 ⟨by omega, fun j hj => by omega⟩ ?_ ?_
  · simp only [go_sem]
  rintro i ⟨hi, hb⟩
  by_cases h : i < cs.length
  case neg =>
    have hie : i = cs.length := by omega
    subst hie
    have e := checkG_ok (by omega) (by omega) h3 hb
    simp only [go_sem, h, e]
  have ha : i < arcs.length := by omega
  have g1 := getvV h
  have g2 := getvl ha
  have hw : IntKind.i64.wrap (i + 1) = i + 1 := wrap_in (by omega) (by omega)
  have hc1 := con_number cs cs[i]! hcs hco (hco _ (mem_bang h))
  rw [vV_eq cs[i]!] at hc1
  simp only [go_sem, h]
  refine DrawK.walk 9 mixed (by kernel_rfl) ?_
  simp only [go_sem, h, g1]
  refine CallY.mk hc1 (by simp only [go_sem]) (by simp only [go_sem]) (.inl rfl) ?_
  have hge := dupV_findI h
  cases hd : dupV cs i
  case true =>
    have e := checkG_bad (arcs := arcs) h (by unfold badG; rw [hd]; rfl)
    rw [hd] at hge
    simp only [go_sem, hge, e]
  rw [hd] at hge
  simp only [go_sem, hge]
  refine LoopK.intro (fun k : Nat => ⟨70, [(1, .pb 0 0), (3, vi cs.length), (4, vi i), (5, vi k)], [[.sl 0 2 (cs.map vV), .sl 0 1 (arcs.map (vl 0))]]⟩)
    (fun k => arcs[i]!.length - k) (fun k => k ≤ arcs[i]!.length ∧ ∀ j, j < k → badArc cs.length arcs[i]![j]! = false) 0 ⟨by omega, fun j hj => by omega⟩ ?_ ?_
  · simp only [go_sem]
  rintro k ⟨hk, hbk⟩
  have hali := hal _ (mem_bang ha)
  by_cases h4 : k < arcs[i]!.length
  case neg =>
    have hke : k = arcs[i]!.length := by omega
    subst hke
    simp only [go_sem, ha, g2, h4, hw]
    refine roundK.intro (i + 1) ⟨by omega, fun j hj => ?_⟩ (by omega) ?_
    · by_cases hji : j = i
      · subst hji; unfold badG; rw [hd, any_none hbk]; rfl
      · exact hb j (by omega)
    · simp only [go_sem]
  have g3 := getva h4
  have hw3 : IntKind.i64.wrap (k + 1) = k + 1 := wrap_in (by omega) (by omega)
  by_cases h5 : arcs[i]![k]!.2 < 0
  · have hbad : badArc cs.length arcs[i]![k]! = true := by simp only [badArc, h5, decide_true, Bool.true_or]
    have e := checkG_bad (arcs := arcs) h (by unfold badG; rw [any_of h4 hbad, Bool.or_true])
    simp only [go_sem, ha, g2, h4, g3, h5, e]
  by_cases h6 : (cs.length : Int) ≤ arcs[i]![k]!.2
  · have hbad : badArc cs.length arcs[i]![k]! = true := by simp only [badArc, h6, decide_true, Bool.or_true]
    have e := checkG_bad (arcs := arcs) h (by unfold badG; rw [any_of h4 hbad, Bool.or_true])
    simp only [go_sem, ha, g2, h4, g3, h5, h6, e]
  simp only [go_sem, ha, g2, h4, g3, h5, h6, hw3]
  refine roundK.intro (k + 1) ⟨by omega, fun j hj => ?_⟩ (by omega) ?_
  · by_cases hji : j = k
    · subst hji; simp only [badArc, h5, h6, decide_false, Bool.or_self]
    · exact hbk j (by omega)
  · simp only [go_sem]
end
end Go.AM

/-! ## Am1 -/
namespace Go.AM
open Go.RowKit

inductive Tr where
  | done
  /-- an operation that only names a place: taken at once -/
  | front (j : Nat) (t : Tr)
  | one (j : Nat) (t : Tr)
  /-- an operation that only adds, taken as in a region's head -/
  | hd (j : Nat) (t : Tr)
  | alt (a b : Tr)
  /-- what bears tag a bears b from here on -/
  | retag (a b : Nat) (t : Tr)

def Tr.cover : Tr → List Nat
  | .one j _ => [j]
  | .hd j _ => [j]
  | .alt a b => a.cover ++ b.cover
  | _ => []

def readyIn (ops : Array Oper) (L : List Nat) (i : Nat) : Bool :=
  !L.contains i && match ops[i]? with
  | none => false
  | some o => (edges o).all fun k => L.contains k
def covers (ops : Array Oper) (L : List Nat) (c : List Nat) : Bool := ((List.range ops.size).any fun i => !L.contains i) && (List.range ops.size).all fun i => !readyIn ops L i || c.contains i

def trOk (ops : Array Oper) : Bool → List Nat → Tr → Bool
  | top, L, .done => top && (List.range ops.size).all fun i => L.contains i
  | top, L, .front j t => top && (readyIn ops L j && ((match ops[j]? with | some p => frontOk ops j p | none => false) && trOk ops true (j :: L) t))
  | top, L, .one j t => (!top || covers ops L [j]) && trOk ops true (j :: L) t
  | top, L, .hd j t => (!top || covers ops L [j]) && trOk ops true (j :: L) t
  | top, L, .retag _ _ t => top && trOk ops true L t
  | top, L, .alt a b => (!top || covers ops L (a.cover ++ b.cover)) && (trOk ops false L a && trOk ops false L b)
def treeOk (ops : Array Oper) (t : Tr) : Bool :=
  ((List.range ops.size).all fun i => match ops[i]? with | none => false | some o => (edges o).all fun k => decide (k < i)) && trOk ops true [] t

/-- what only names a place, or is known from the operands alone -/
def frontW (P : Program) (op : Op) (σ : St) (K : AV → Prop) : Prop :=
  match op with
  | .fieldAddr T x f => evFieldAddr P T (σ.ev x) f K
  | op => frontV P op σ K

theorem frontV_sound' {P : Program} {p : Oper} {σ : St} {K : AV → Prop} (h : frontV P p.op σ K) :
    ∃ y, K y ∧ ∀ (G : Nat → Status) (a : Act) (w : World), Good G w → (∀ x ∈ p.op.operands, VRel G w (σ.ev x) (a.eval x)) → ∃ v, VRel G w y v ∧ ∀ w', (execOp a.eval p).run P w' = .ok (.value v) w' := by
  unfold frontV at h
  split at h
  · rename_i x ho
    exact ⟨_, h, fun G a w _ hv => ⟨_, hv x (by simp [ho, Op.operands]), fun w' => by simp [execOp, ho]⟩⟩
  · rename_i T x i ho
    obtain ⟨hsl, h⟩ := h
    unfold evIndexAddr at h
    split at h
    · rename_i k n hi
      split at h
      · rename_i E t es xs hT hx
        obtain ⟨⟨⟨sz, by_, z⟩, hq, rfl⟩, h0, h1, hK⟩ := h
        refine ⟨_, hK, fun G a w hg hv => ?_⟩
        have hu := hv i (by simp [ho, Op.operands]); rw [hi] at hu
        have hu := hu.sc_inv
        have hv' := hv x (by simp [ho, Op.operands]); rw [hx] at hv'
        obtain ⟨ao, c, hvx, h2, h3, _, h4⟩ := hv'.sl_inv
        rcases h4 with rfl | ⟨b, off, vals, rfl, hs⟩
        · simp at h1; omega
        · refine ⟨.pointer (some ⟨b, off + n.toNat * sz + 0, none⟩), .pe _ _ _ _ _ _ _ c (by rw [hvx] at hv'; exact hv') (by omega), fun w' => ?_⟩
          simp [execOp, ho, hvx, hu, Instr.indexAt, asIntOf, run_underlying hT, h0, h1, run_sizeOf hq, Addr.add_none]
      · rename_i E t xs hT hx
        obtain ⟨⟨⟨sz, by_, z⟩, hq, rfl⟩, h0, h1, hK⟩ := h
        refine ⟨_, hK, fun G a w hg hv => ?_⟩
        have hu := hv i (by simp [ho, Op.operands]); rw [hi] at hu
        have hu := hu.sc_inv
        have hv' := hv x (by simp [ho, Op.operands]); rw [hx] at hv'
        obtain ⟨ao, c, hvx, h3, _, h4⟩ := hv'.so_inv
        rcases h4 with rfl | ⟨b, vals, rfl, hs⟩
        · simp at h1; omega
        · refine ⟨.pointer (some ⟨b, 0 + n.toNat, none⟩), .po _ _ _ _ _ c (by rw [hvx] at hv'; exact hv') (by omega), fun w' => ?_⟩
          simp [execOp, ho, hvx, hu, Instr.indexAt, asIntOf, run_underlying hT, h0, h1, run_sizeOf hq, Addr.add_none]
      · rename_i hx
        rw [hx] at hsl; simp [isSlice] at hsl
      · rename_i len E hT
        exfalso
        obtain ⟨hp, _⟩ := h
        generalize σ.ev x = y at hsl hp
        cases y <;> simp [isSlice, isPtr] at hsl hp
      · exact h.elim
    · exact h.elim
  · exact h.elim

theorem frontW_sound' {P : Program} {p : Oper} {σ : St} {K : AV → Prop} (h : frontW P p.op σ K) :
    ∃ y, K y ∧ ∀ (G : Nat → Status) (a : Act) (w : World), Good G w → (∀ x ∈ p.op.operands, VRel G w (σ.ev x) (a.eval x)) → ∃ v, VRel G w y v ∧ ∀ w', (execOp a.eval p).run P w' = .ok (.value v) w' := by
  unfold frontW at h
  split at h
  · rename_i T x f ho
    obtain ⟨hp, ⟨off, ty⟩, hf, ⟨⟨sz, by_, z⟩, hq, h0⟩, hK⟩ := h
    obtain ⟨fs, fd, hT, hfd, rfl, rfl⟩ := fieldOf_some hf
    refine ⟨_, hK, fun G a w hg hv => ?_⟩
    have hvx := hv x (by simp [ho, Op.operands])
    obtain ⟨b, o, hb, ho'⟩ := hvx.ptr_inv hp
    refine ⟨.pointer (some ⟨b, o + fd.offset, none⟩), ho' _, fun w' => ?_⟩
    simp only at h0 hq
    simp [execOp, ho, hb, Instr.fieldAt, run_underlying hT, hfd, Instr.sureAddr, fieldPlace, run_sizeOf hq, h0, Addr.add_none]
  · exact frontV_sound' h

theorem frontW_sound {P : Program} {p : Oper} {σ : St} {K : AV → Prop} (h : frontW P p.op σ K) :
    ∃ y, K y ∧ ∀ (G : Nat → Status) (a : Act) (w : World), Good G w → (∀ x, VRel G w (σ.ev x) (a.eval x)) → ∃ v, VRel G w y v ∧ ∀ w', (execOp a.eval p).run P w' = .ok (.value v) w' :=
  let ⟨y, h1, h2⟩ := frontW_sound' h
  ⟨y, h1, fun G a w hg hv => h2 G a w hg fun x _ => hv x⟩

def frA (P : Program) (o : Option Oper) (σ : St) (K : St → Prop) : Prop :=
  match o with
  | some ⟨some d, op, _, _, _, _⟩ => d < σ.n ∧ frontW P op σ fun y => K (σ.put (some d) y)
  | _ => False
def stepA (P : Program) (ops : Array Oper) (o : Option Oper) (σ : St) (K : St → Prop) : Prop :=
  match o with
  | some o => opsA P ops [o] σ K
  | none => False
def stepH (P : Program) (o : Option Oper) (σ : St) (K : St → Prop) : Prop :=
  match o with
  | some ⟨some d, op, T, pos, af, none⟩ => σ.free d = true ∧ headOp P ⟨some d, op, T, pos, af, none⟩ σ K
  | _ => False
def treeA (P : Program) (ops : Array Oper) : Tr → St → (St → Prop) → Prop
  | .done, σ, K => K σ
  | .front j t, σ, K => frA P ops[j]? σ fun σ' => treeA P ops t σ' K
  | .one j t, σ, K => stepA P ops ops[j]? σ fun σ' => treeA P ops t σ' K
  | .hd j t, σ, K => stepH P ops[j]? σ fun σ' => treeA P ops t σ' K
  | .alt a b, σ, K => treeA P ops a σ K ∧ treeA P ops b σ K
  | .retag a b t, σ, K => 2 ≤ a ∧ 2 ≤ b ∧ treeA P ops t (σ.map (retagLeaf a b)) K

section
variable {P : Program} {ops : Array Oper} {G0 : Orig} {w0 : World} {Q : Exit → Act → World → Prop}

theorem one_run {i : Nat} {o : Oper} {σ : St} {K1 : St → Prop} {KK : Act → World → Prop} {G : Nat → Status} {a : Act} {w : World} (h0 : True) (ho : ops[i]? = some o) (hw : opsA P ops [o] σ K1) (h : SRel G0 w0 σ G a w)
    (hcont : ∀ {σ' G' a' w'}, K1 σ' → SRel G0 w0 σ' G' a' w' → KK a' w') : Go.wpOp P ops Q i KK a w := by
  simp only [opsA] at hw
  simp only [Go.wpOp, ho]
  have run : ∀ {σ}, AM.wpOp P o σ K1 → SRel G0 w0 σ G a w → o.wp P a w KK Q := fun hw h =>
    wpOp_sound hw h h0 _ _ fun σ' G' a' w' hk hs => hcont hk hs
  cases hg : o.guard with
  | none =>
    simp only [hg] at hw
    rw [if_pos (by simp [Region.wanted, hg])]
    exact .inl (run hw h)
  | some p =>
    obtain ⟨j, want⟩ := p
    simp only [hg] at hw
    cases hgs : guardSlot ops j with
    | none => simp [hgs] at hw
    | some g =>
      simp only [hgs] at hw
      split at hw
      · rename_i b hb
        have hv := h.slots g
        rw [hb] at hv
        have hy := yielded_bool hgs hv.sc_inv
        by_cases hbw : b = want
        · subst hbw
          rw [if_pos (by simp [Region.wanted, hg, hy])]
          exact .inl (run (hw.1 rfl) (h.same hb))
        · rw [if_neg (by simp [Region.wanted, hg, hy, hbw])]
          have hbn : b = !want := by cases b <;> cases want <;> simp_all
          obtain ⟨hdst, hw⟩ := hw.2 hbn
          have hs := (h.same (g := g) (x := .sc (.bool (!want))) (by rw [hb, hbn])).add (.refl G w) h.good (fun _ _ h => h) (d := o.dst) (x := .sc undef) (v := undef) (by rw [put_n]; exact hdst) (.froz (.sc _))
          exact hcont hw hs
      · rename_i vs hb
        have hv := h.slots g
        rw [hb] at hv
        have hy := yielded_none hgs hv.sc_inv
        rw [if_neg (by simp [Region.wanted, hg, hy])]
        obtain ⟨hdst, hw⟩ := hw
        have hs := h.add (.refl G w) h.good (fun _ _ h => h) (d := o.dst) (x := .sc undef) (v := undef) hdst (.froz (.sc _))
        exact hcont hw hs
      · exact hw.elim

theorem hd_run {i : Nat} {o : Oper} {σ : St} {K1 : St → Prop} {KK : Act → World → Prop} {G : Nat → Status} {a : Act} {w : World} (h0 : True) (ho : ops[i]? = some o) (hw : stepH P (some o) σ K1) (h : SRel G0 w0 σ G a w)
    (hcont : ∀ {σ' G' a' w'}, K1 σ' → SRel G0 w0 σ' G' a' w' → KK a' w') : Go.wpOp P ops Q i KK a w := by
  unfold stepH at hw
  split at hw
  · rename_i d op T pos af hoo
    simp only [Option.some.injEq] at hoo
    subst hoo
    obtain ⟨hf, hw⟩ := hw
    obtain ⟨d', y, hd, hdn, hK, hstep⟩ := headOp_sound hw
    obtain rfl : d = d' := by simpa using hd
    obtain ⟨hs, hfr⟩ := h.fresh hf h0
    simp only [Go.wpOp, ho]
    rw [if_pos (by simp [Region.wanted])]
    exact .inl (hstep _ _ a w hs.good hs.boxes (fun _ => hfr) (fun x _ => hs.ev x) _ _ fun v w' G' g1 g2 g3 g4 =>
      hcont hK (hs.add g2 g3 g4.boxes (d := some d) (by simp [dstOk, hdn]) g1))
  · exact hw.elim

theorem readyIn_iff {listed : Array Bool} {U : List Nat} {L : List Nat} (hl : Left ops listed U) (hlt : ∀ i o, ops[i]? = some o → ∀ k ∈ edges o, k < i) (hL : ∀ i, i < ops.size → (listed.getD i false = true ↔ L.contains i = true)) {i : Nat} :
    readyIn ops L i = true ↔ i ∈ Region.ready .any ops listed := by
  rw [ready_iff hl.size]
  unfold readyIn
  cases ho : ops[i]? with
  | none => simp
  | some o =>
    have hi := (Array.getElem?_eq_some_iff.1 ho).1
    have h1 := hL i hi
    simp only [Bool.and_eq_true, Bool.not_eq_true', List.all_eq_true, Option.some.injEq, exists_eq_left']
    refine and_congr ?_ ⟨fun h k hk => ?_, fun h k hk => ?_⟩
    · cases hb : listed.getD i false <;> cases hc : L.contains i <;> simp_all
    · exact (hL k (by have := hlt i o ho k hk; omega)).2 (h k hk)
    · exact (hL k (by have := hlt i o ho k hk; omega)).1 (h k hk)

theorem of_steps {listed : Array Bool} {U : List Nat} {L c : List Nat} {a : Act} {w : World} (hl : Left ops listed U) (hlt : ∀ i o, ops[i]? = some o → ∀ k ∈ edges o, k < i) (hL : ∀ i, i < ops.size → (listed.getD i false = true ↔ L.contains i = true))
    (hc : covers ops L c = true) (h : ∀ i ∈ c, i ∈ Region.ready .any ops listed → Go.wpOp P ops Q i (wpAny P .any ops Q (U.length - 1) (listed.setIfInBounds i true)) a w) : wpAny P .any ops Q U.length listed a w := by
  simp only [covers, Bool.and_eq_true, List.any_eq_true, List.all_eq_true, List.mem_range, Bool.or_eq_true, Bool.not_eq_true'] at hc
  obtain ⟨⟨i, hi, hn⟩, hcov⟩ := hc
  have hUn : U ≠ [] := fun hU => by
    have : i ∈ U := (hl.mem i).2 ⟨hi, by
      cases hb : listed.getD i false
      · rfl
      · rw [(hL i hi).1 hb] at hn; cases hn⟩
    rw [hU] at this; simp at this
  obtain ⟨n, hn⟩ : ∃ n, U.length = n + 1 := ⟨U.length - 1, by have := List.length_pos_iff.2 hUn; omega⟩
  rw [hn] at h ⊢
  refine ⟨fun hr => absurd hr (some_ready hl hlt hUn), fun i hi => h i ?_ hi⟩
  obtain ⟨o, ho, _, _⟩ := (ready_iff hl.size).1 hi
  have := (hcov i (Array.getElem?_eq_some_iff.1 ho).1).resolve_left (by rw [(readyIn_iff hl hlt hL).2 hi]; simp)
  simpa using this

theorem tree_run {K : St → Prop} (h0 : True) (hlt : ∀ i o, ops[i]? = some o → ∀ k ∈ edges o, k < i) (hN : ∀ e a w, e ≠ .normal → ¬ Q e a w) (hQ : ∀ σ' G' a' w', K σ' → SRel G0 w0 σ' G' a' w' → Q .normal a' w') :
    ∀ (t : Tr) (top : Bool) (L : List Nat) (listed : Array Bool) (U : List Nat) (σ : St) (G : Nat → Status) (a : Act) (w : World), trOk ops top L t = true → Left ops listed U → Closed ops (fun k => listed.getD k false) → (∀ i, i < ops.size → (listed.getD i false = true ↔ L.contains i = true)) →
      treeA P ops t σ K → SRel G0 w0 σ G a w →
      (top = true → wpAny P .any ops Q U.length listed a w) ∧ ∀ i ∈ t.cover, i ∈ Region.ready .any ops listed → Go.wpOp P ops Q i (wpAny P .any ops Q (U.length - 1) (listed.setIfInBounds i true)) a w
  | .done, top, L, listed, U, σ, G, a, w, hok, hl, hc, hL, h, hs => by
    simp only [trOk, Bool.and_eq_true, List.all_eq_true, List.mem_range] at hok
    refine ⟨fun _ => ?_, fun i hi => by simp [Tr.cover] at hi⟩
    have hU : U = [] := by
      apply List.eq_nil_iff_forall_not_mem.2
      intro i hi
      obtain ⟨h1, h2⟩ := (hl.mem i).1 hi
      rw [(hL i h1).2 (hok.2 i h1)] at h2; cases h2
    subst hU
    refine ⟨?_, hQ σ G a w h hs⟩
    apply List.eq_nil_iff_forall_not_mem.2
    intro i hi
    obtain ⟨o, ho, h1, _⟩ := (ready_iff hl.size).1 hi
    have hlt' := (Array.getElem?_eq_some_iff.1 ho).1
    rw [(hL i hlt').2 (hok.2 i hlt')] at h1; cases h1
  | .front j t, top, L, listed, U, σ, G, a, w, hok, hl, hc, hL, h, hs => by
    simp only [trOk, Bool.and_eq_true] at hok
    obtain ⟨_, hr, hf, ht⟩ := hok
    have hready := (readyIn_iff hl hlt hL).1 hr
    refine ⟨fun _ => ?_, fun i hi => by simp [Tr.cover] at hi⟩
    obtain ⟨p, hp, k1, k2⟩ := (ready_iff hl.size).1 hready
    rw [hp] at hf
    obtain ⟨d', hfr⟩ := frontOk_front hp hf
    simp only [treeA, frA, hp] at h
    split at h
    · rename_i d op T pos af g hj
      cases hj
      obtain ⟨hdn, h⟩ := h
      obtain rfl : d = d' := by simpa using hfr.dst
      have hjs := (Array.getElem?_eq_some_iff.1 hp).1
      have hmem : j ∈ U := (hl.mem j).2 ⟨hjs, k1⟩
      obtain ⟨l1, l2⟩ := hl.step hmem
      have hsz : j < listed.size := by rw [hl.size]; exact hjs
      obtain ⟨y, hK, hy⟩ := frontW_sound (p := ⟨some d, op, T, pos, af, g⟩) h
      obtain ⟨v, hv, hex⟩ := hy G a w hs.good (fun x => hs.ev x)
      have hrun := (tree_run h0 hlt hN hQ t true (j :: L) (listed.setIfInBounds j true) (U.erase j) (σ.put (some d) y) G (a.put (some d) v) w ht l1 (hc.step hsz hp k2) (fun i hi => by
          rw [set_getD hsz]
          by_cases hij : j = i
          · subst hij; simp
          · rw [if_neg hij, hL i hi]; simp [Ne.symm hij]) hK
        (hs.add (.refl G w) hs.good (fun _ _ h => h) (by simp [dstOk, hdn]) hv)).1 rfl
      rw [← l2]
      exact front_run hN hfr _ _ _ _ v hl.size hc hready hex hrun
    · exact h.elim
  | .one j t, top, L, listed, U, σ, G, a, w, hok, hl, hc, hL, h, hs => by
    simp only [trOk, Bool.and_eq_true, Bool.or_eq_true, Bool.not_eq_true'] at hok
    have key : j ∈ Region.ready .any ops listed → Go.wpOp P ops Q j (wpAny P .any ops Q (U.length - 1) (listed.setIfInBounds j true)) a w := by
      intro hready
      obtain ⟨o, ho, k1, k2⟩ := (ready_iff hl.size).1 hready
      have hjs := (Array.getElem?_eq_some_iff.1 ho).1
      have hmem : j ∈ U := (hl.mem j).2 ⟨hjs, k1⟩
      obtain ⟨l1, l2⟩ := hl.step hmem
      have hsz : j < listed.size := by rw [hl.size]; exact hjs
      simp only [treeA, stepA, ho] at h
      refine one_run h0 ho h hs fun {σ' G' a' w'} hk hs' => ?_
      have := (tree_run h0 hlt hN hQ t true (j :: L) (listed.setIfInBounds j true) (U.erase j) σ' G' a' w' hok.2 l1 (hc.step hsz ho k2) (fun i hi => by
          rw [set_getD hsz]
          by_cases hij : j = i
          · subst hij; simp
          · rw [if_neg hij, hL i hi]; simp [Ne.symm hij]) hk hs').1 rfl
      rw [show U.length - 1 = (U.erase j).length by omega]
      exact this
    refine ⟨fun htop => ?_, fun i hi hr => ?_⟩
    · refine of_steps hl hlt hL (hok.1.resolve_left (by simp [htop])) fun i hi hr => ?_
      have hij : i = j := by simpa using hi
      subst hij; exact key hr
    · have hij : i = j := by simpa [Tr.cover] using hi
      subst hij; exact key hr
  | .hd j t, top, L, listed, U, σ, G, a, w, hok, hl, hc, hL, h, hs => by
    simp only [trOk, Bool.and_eq_true, Bool.or_eq_true, Bool.not_eq_true'] at hok
    have key : j ∈ Region.ready .any ops listed → Go.wpOp P ops Q j (wpAny P .any ops Q (U.length - 1) (listed.setIfInBounds j true)) a w := by
      intro hready
      obtain ⟨o, ho, k1, k2⟩ := (ready_iff hl.size).1 hready
      have hjs := (Array.getElem?_eq_some_iff.1 ho).1
      have hmem : j ∈ U := (hl.mem j).2 ⟨hjs, k1⟩
      obtain ⟨l1, l2⟩ := hl.step hmem
      have hsz : j < listed.size := by rw [hl.size]; exact hjs
      simp only [treeA, ho] at h
      refine hd_run h0 ho h hs fun {σ' G' a' w'} hk hs' => ?_
      have := (tree_run h0 hlt hN hQ t true (j :: L) (listed.setIfInBounds j true) (U.erase j) σ' G' a' w' hok.2 l1 (hc.step hsz ho k2) (fun i hi => by
          rw [set_getD hsz]
          by_cases hij : j = i
          · subst hij; simp
          · rw [if_neg hij, hL i hi]; simp [Ne.symm hij]) hk hs').1 rfl
      rw [show U.length - 1 = (U.erase j).length by omega]
      exact this
    refine ⟨fun htop => ?_, fun i hi hr => ?_⟩
    · refine of_steps hl hlt hL (hok.1.resolve_left (by simp [htop])) fun i hi hr => ?_
      have hij : i = j := by simpa using hi
      subst hij; exact key hr
    · have hij : i = j := by simpa [Tr.cover] using hi
      subst hij; exact key hr
  | .retag x y t, top, L, listed, U, σ, G, a, w, hok, hl, hc, hL, h, hs => by
    simp only [trOk, Bool.and_eq_true] at hok
    exact ⟨fun _ => (tree_run h0 hlt hN hQ t true L listed U _ _ a w hok.2 hl hc hL h.2.2 (hs.retag h0 h.1 h.2.1)).1 rfl, fun i hi => by simp [Tr.cover] at hi⟩
  | .alt x y, top, L, listed, U, σ, G, a, w, hok, hl, hc, hL, h, hs => by
    simp only [trOk, Bool.and_eq_true, Bool.or_eq_true, Bool.not_eq_true'] at hok
    obtain ⟨hcov, hx, hy⟩ := hok
    have ix := (tree_run h0 hlt hN hQ x false L listed U σ G a w hx hl hc hL h.1 hs).2
    have iy := (tree_run h0 hlt hN hQ y false L listed U σ G a w hy hl hc hL h.2 hs).2
    have key : ∀ i ∈ (Tr.alt x y).cover, i ∈ Region.ready .any ops listed → Go.wpOp P ops Q i (wpAny P .any ops Q (U.length - 1) (listed.setIfInBounds i true)) a w := fun i hi hr => by
      rcases List.mem_append.1 hi with hi | hi
      · exact ix i hi hr
      · exact iy i hi hr
    exact ⟨fun htop => of_steps hl hlt hL (hcov.resolve_left (by simp [htop])) key, key⟩
end

/-- A DRAWN REGION, in every order that its edges allow. -/
theorem DrawK.treeO {P : Program} {ops : Array Oper} {σ : St} {K : St → Prop} (t : Tr) (hm : P.follows .mixedOrders = true) (hok : treeOk ops t = true) (h : treeA P ops t σ K) : DrawK P ops σ K := by
  intro G0 w0 G a w id Q h0 hs hQ
  simp only [treeOk, Bool.and_eq_true, List.all_eq_true, List.mem_range] at hok
  refine wp_region_any hm (wpAny_normal _ _ _ _ ?_)
  have hgd : ∀ i, (Array.replicate ops.size false).getD i false = false := fun i => by
    by_cases hi : i < ops.size <;> simp [hi]
  have := (tree_run (P := P) (Q := fun e a w => e = .normal ∧ Q e a w) h0 (fun i o ho => by
      have := hok.1 i (Array.getElem?_eq_some_iff.1 ho).1
      rw [ho] at this
      simpa only [List.all_eq_true, decide_eq_true_eq] using this) (fun e a w hn h => hn h.1) (fun σ' G' a' w' hk hs => ⟨rfl, hQ σ' G' a' w' hk hs⟩) t true [] (Array.replicate ops.size false) (List.range ops.size) σ G a _ hok.2
      ⟨by simp, List.nodup_range, fun i => by rw [List.mem_range, hgd]; simp⟩ (fun i o _ hi => absurd (show (Array.replicate ops.size false).getD i false = true from hi) (by rw [hgd]; simp)) (fun i _ => by rw [hgd]; simp) h (hs.drawn (w.drawn + 1))).1 rfl
  simpa using this

theorem DrawK.tree {P : Program} {l : List Oper} {σ : St} {K : St → Prop} (t : Tr) (hm : P.follows .mixedOrders = true) (hok : treeOk l.toArray t = true) (h : treeA P l.toArray t σ K) : DrawK P l.toArray σ K := DrawK.treeO t hm hok h

/-! ### rules -/
section
variable {P : Program} {n : Nat} {t : List (Nat × AV)} {b : List (List AV)} {ops : Array Oper} {l : List Oper} {tr tr' : Tr} {j : Nat}
variable {d : Nat} {T : TypeId} {pos : String} {af : Array Edge} {g : Option (Nat × Bool)} {K : St → Prop}
@[congr] theorem frA_congr {o o' : Option Oper} {σ σ' : St} (h1 : o = o') (h : mkd σ = σ') : frA P o σ K = frA P o' σ' K := by subst_vars; rfl
@[congr] theorem stepA_congr {o o' : Option Oper} {σ σ' : St} (h1 : o = o') (h : mkd σ = σ') : stepA P ops o σ K = stepA P ops o' σ' K := by subst_vars; rfl
@[congr] theorem treeA_congr {σ σ' : St} (h : mkd σ = σ') : treeA P ops tr σ K = treeA P ops tr σ' K := by subst_vars; rfl
@[go_sem] theorem treeA_done : treeA P ops .done ⟨n, t, b⟩ K = K ⟨n, t, b⟩ := rfl
@[go_sem] theorem treeA_front : treeA P l.toArray (.front j tr) ⟨n, t, b⟩ K = frA P l[j]? ⟨n, t, b⟩ fun σ' => treeA P l.toArray tr σ' K := by rw [← List.getElem?_toArray]; rfl
@[go_sem] theorem treeA_one : treeA P l.toArray (.one j tr) ⟨n, t, b⟩ K = stepA P l.toArray l[j]? ⟨n, t, b⟩ fun σ' => treeA P l.toArray tr σ' K := by rw [← List.getElem?_toArray]; rfl
@[go_sem] theorem treeA_alt : treeA P ops (.alt tr tr') ⟨n, t, b⟩ K = andK (treeA P ops tr ⟨n, t, b⟩ K) (treeA P ops tr' ⟨n, t, b⟩ K) := rfl
@[go_sem] theorem treeA_retag {x y : Nat} : treeA P ops (.retag x y tr) ⟨n, t, b⟩ K = andK (2 ≤ x) (andK (2 ≤ y) (treeA P ops tr (St.map ⟨n, t, b⟩ (retagLeaf x y)) K)) := rfl
@[go_sem] theorem stepA_some {o : Oper} : stepA P ops (some o) ⟨n, t, b⟩ K = opsA P ops [o] ⟨n, t, b⟩ K := rfl
@[congr] theorem stepH_congr {o o' : Option Oper} {σ σ' : St} (h1 : o = o') (h : mkd σ = σ') : stepH P o σ K = stepH P o' σ' K := by subst_vars; rfl
@[go_sem] theorem treeA_hd : treeA P l.toArray (.hd j tr) ⟨n, t, b⟩ K = stepH P l[j]? ⟨n, t, b⟩ fun σ' => treeA P l.toArray tr σ' K := by rw [← List.getElem?_toArray]; rfl
@[go_sem] theorem stepH_some {op : Op} : stepH P (some ⟨some d, op, T, pos, af, none⟩) ⟨n, t, b⟩ K = andK (St.free ⟨n, t, b⟩ d = true) (headOp P ⟨some d, op, T, pos, af, none⟩ ⟨n, t, b⟩ K) := rfl
@[go_sem] theorem frA_move {x : Operand} : frA P (some ⟨some d, .move x, T, pos, af, g⟩) ⟨n, t, b⟩ K = andK (d < n) (K (St.put ⟨n, t, b⟩ (some d) (St.ev ⟨n, t, b⟩ x))) := rfl
@[go_sem] theorem frA_fieldAddr {T' : TypeId} {x : Operand} {f : Nat} : frA P (some ⟨some d, .fieldAddr T' x f, T, pos, af, g⟩) ⟨n, t, b⟩ K = andK (d < n) (evFieldAddr P T' (St.ev ⟨n, t, b⟩ x) f fun r => K (St.put ⟨n, t, b⟩ (some d) r)) := rfl
@[go_sem] theorem frA_indexAddr {T' : TypeId} {x i : Operand} : frA P (some ⟨some d, .indexAddr T' x i, T, pos, af, g⟩) ⟨n, t, b⟩ K = andK (d < n) (andK (isSlice (St.ev ⟨n, t, b⟩ x) = true) (evIndexAddr P T' (St.ev ⟨n, t, b⟩ x) (St.ev ⟨n, t, b⟩ i) fun r => K (St.put ⟨n, t, b⟩ (some d) r))) := by simp [frA, frontW, frontV, andK]
end
end Go.AM

/-! ## SM -/
namespace Go.AM
open Go Go.Proofs Go.RowKit

theorem con_cloneF (l : List (Int × Int)) (hroom : roomFor l.length 16) : Con Try.prog 42 [vl 0 l] [] fun r _ => r = vl 0 l :=
  (Con.freezeR (fun _ => true) (con_clone l hroom)).weak fun r b ⟨r0, h0, h1⟩ => by
    subst h1
    rcases h0 with rfl | ⟨rfl, rfl⟩
    · exact ⟨_, rfl, leV_refl _⟩
    · refine ⟨_, rfl, ?_⟩
      simp only [go_sem, AV.freeze, List.map_nil]

def ofT9 : Tr := .one 9 (.one 10 (.one 11 .done))
def ofTree : Tr := .front 0 (.front 2 (.front 4 (.alt
  (.one 1 (.one 3 (.front 5 (.one 6 (.one 7 (.one 8 ofT9))))))
  (.one 3 (.front 5 (.alt (.one 1 (.one 6 (.one 7 (.one 8 ofT9))))
    (.one 6 (.alt (.one 1 (.one 7 (.one 8 ofT9)))
      (.one 7 (.alt (.one 1 (.one 8 ofT9)) (.one 8 (.one 1 ofT9)))))))))))) 
section
variable (cs : List CV) (arcs : Sys) (hcs : cs.length ≤ 9223372036854775807) (hco : ∀ x ∈ cs, x.Ok) (hal : ∀ l ∈ arcs, l.length ≤ 8796093022208)
include hcs hco hal

set_option maxRecDepth 100000 in
theorem con_ofO : Con Try.prog 20 [vG cs arcs] [] fun r _ => r = .tup [.ag [.nil], vi (checkG cs arcs)] ∧ checkG cs arcs ≠ 0 ∨ checkG cs arcs = 0 ∧ r = .tup [.ag [.nil], vi (checkS arcs)] ∧ checkS arcs ≠ 0 ∨ checkG cs arcs = 0 ∧ checkS arcs = 0 ∧ r = .tup [vy 2 arcs, vi 0] := by
  refine Con.intro Try.func20 rfl Try.ntmps20 Try.results20 (by kernel_rfl) (by simp) 0 (by simp) ?_
  simp only [go_sem]
  refine CallU.free (con_checkG cs arcs hcs hco fun l hl => Nat.le_trans (hal l hl) (by decide)) (by simp only [go_sem]) (by simp only [go_sem]) ?_
  rintro r bx rfl
  by_cases hg : checkG cs arcs = 0
  case neg =>
    have hg' : (checkG cs arcs != 0) = true := bne_iff_ne.2 hg
    simp only [go_sem, hg']
    exact .inl hg
  have hn := checkG_zero hg
  simp only [go_sem, hg]
  refine LoopK.intro (fun i : Nat => ⟨37, [(1, .pb 0 0), (2, .pb 1 0), (3, vi 0), (5, .pb 2 0), (16, .sl 0 1 (arcs.map (vl 0))), (17, vi arcs.length), (18, vi i)], [[.sl 0 2 (cs.map vV), .sl 0 1 (arcs.map (vl 0))], [.nil], [.sl 1792 1 ((arcs.take i).map (vl 0))]]⟩)
    (fun i => arcs.length - i) (fun i => i ≤ arcs.length) 0 (by omega) ?_ ?_
  · simp only [go_sem, List.take_zero, List.map_nil]
  intro i hi
  by_cases h : i < arcs.length
  · have g1 := getvl h
    have hw : IntKind.i64.wrap (i + 1) = i + 1 := wrap_in (by omega) (by omega)
    have hroom : roomFor arcs[i]!.length 16 := by have := hal _ (mem_bang h); simp only [roomFor]; omega
    have e1 := take_snoc h
    have hti : (arcs.take i).length = i := by rw [List.length_take]; omega
    simp only [go_sem, h, g1]
    refine DrawK.walk 5 mixed (by kernel_rfl) ?_
    simp only [go_sem]
    refine CallY.mk (con_cloneF arcs[i]! hroom) (by simp only [go_sem]) (by simp only [go_sem]) (.inl rfl) ?_
    simp only [go_sem, hw]
    refine ⟨by simp only [roomFor, hti]; omega, roundK.intro (i + 1) (by show i + 1 ≤ arcs.length; omega) (by show arcs.length - (i + 1) < arcs.length - i; omega) ?_⟩
    simp only [go_sem, e1, List.map_append, List.map_cons, List.map_nil]
  · obtain rfl : i = arcs.length := by omega
    simp only [go_sem, h, List.take_length]
    refine CallU.flat (con_check arcs (fun l hl => Nat.le_trans (hal l hl) (by decide)) (by omega)) (by simp only [go_sem]) (by simp only [go_sem]) ?_
    rintro r bx rfl
    by_cases hs : checkS arcs = 0
    · simp only [go_sem, hs]
      exact .inr (.inr hg)
    · have hs' : (checkS arcs != 0) = true := bne_iff_ne.2 hs
      simp only [go_sem, hs']
      exact .inr (.inl ⟨hg, hs⟩)

set_option maxRecDepth 100000 in
theorem con_rofO : Con Try.prog 21 [vG cs arcs] [] fun r _ => r = .tup [.ag [.nil], vi (checkG cs arcs)] ∧ checkG cs arcs ≠ 0 ∨ checkG cs arcs = 0 ∧ r = .tup [.ag [.nil], vi (checkS arcs)] ∧ checkS arcs ≠ 0 ∨ checkG cs arcs = 0 ∧ checkS arcs = 0 ∧ r = .tup [vy 2 arcs, vi 0] := by
  refine Con.intro Try.func21 rfl Try.ntmps21 Try.results21 (by kernel_rfl) (by simp) 0 (by simp) ?_
  simp only [go_sem]
  refine CallU.free (con_rcheckG cs arcs hcs hco fun l hl => Nat.le_trans (hal l hl) (by decide)) (by simp only [go_sem]) (by simp only [go_sem]) ?_
  rintro r bx rfl
  by_cases hg : checkG cs arcs = 0
  case neg =>
    have hg' : (checkG cs arcs != 0) = true := bne_iff_ne.2 hg
    simp only [go_sem, hg']
    exact .inl hg
  have hn := checkG_zero hg
  simp only [go_sem, hg]
  refine LoopK.intro (fun i : Nat => ⟨39, [(1, .pb 0 0), (2, .pb 1 0), (3, vi 0), (5, .pb 2 0), (6, vi i)], [[.sl 0 2 (cs.map vV), .sl 0 1 (arcs.map (vl 0))], [.nil], [.sl 1984 1 ((arcs.take i).map (vl 0))]]⟩)
    (fun i => arcs.length - i) (fun i => i ≤ arcs.length) 0 (by omega) ?_ ?_
  · simp only [go_sem, List.take_zero, List.map_nil]
  intro i hi
  by_cases h : i < arcs.length
  · have g1 := getvl h
    have hw : IntKind.i64.wrap (i + 1) = i + 1 := wrap_in (by omega) (by omega)
    have hroom : roomFor (0 + arcs[i]!.length) 16 := by have := hal _ (mem_bang h); simp only [roomFor]; omega
    have e1 := take_snoc h
    have hti : (arcs.take i).length = i := by rw [List.length_take]; omega
    simp only [go_sem, h]
    refine DrawK.tree ofTree mixed (by kernel_rfl) ?_
    unfold ofTree ofT9
    have r1 : roomFor arcs[i]!.length 16 := by rw [Nat.zero_add] at hroom; exact hroom
    have r2 : roomFor ((arcs.take i).length + 1) 24 := by rw [hti]; simp only [roomFor]; omega
    simp only [go_sem, h, g1, hw]
    refine ⟨⟨r1, r2, roundK.intro (i + 1) (by show i + 1 ≤ arcs.length; omega) (by show arcs.length - (i + 1) < arcs.length - i; omega) ?_⟩, ?_⟩
    · simp only [go_sem, e1, List.map_append, List.map_cons, List.map_nil]
    simp only [go_sem, h, g1, hw]
    refine ⟨⟨r1, r2, roundK.intro (i + 1) (by show i + 1 ≤ arcs.length; omega) (by show arcs.length - (i + 1) < arcs.length - i; omega) ?_⟩, ?_⟩
    · simp only [go_sem, e1, List.map_append, List.map_cons, List.map_nil]
    simp only [go_sem, g1, hw]
    refine ⟨⟨r1, r2, roundK.intro (i + 1) (by show i + 1 ≤ arcs.length; omega) (by show arcs.length - (i + 1) < arcs.length - i; omega) ?_⟩, ?_⟩
    · simp only [go_sem, e1, List.map_append, List.map_cons, List.map_nil]
    simp only [go_sem, hw]
    refine ⟨r1, ⟨r2, roundK.intro (i + 1) (by show i + 1 ≤ arcs.length; omega) (by show arcs.length - (i + 1) < arcs.length - i; omega) ?_⟩, ?_⟩
    · simp only [go_sem, e1, List.map_append, List.map_cons, List.map_nil]
    simp only [go_sem, hw]
    refine ⟨r2, roundK.intro (i + 1) (by show i + 1 ≤ arcs.length; omega) (by show arcs.length - (i + 1) < arcs.length - i; omega) ?_⟩
    simp only [go_sem, e1, List.map_append, List.map_cons, List.map_nil]
  · obtain rfl : i = arcs.length := by omega
    simp only [go_sem, h, List.take_length]
    refine CallU.flat (con_rcheck arcs (fun l hl => Nat.le_trans (hal l hl) (by decide)) (by omega)) (by simp only [go_sem]) (by simp only [go_sem]) ?_
    rintro r bx rfl
    by_cases hs : checkS arcs = 0
    · simp only [go_sem, hs]
      exact .inr (.inr hg)
    · have hs' : (checkS arcs != 0) = true := bne_iff_ne.2 hs
      simp only [go_sem, hs']
      exact .inr (.inl ⟨hg, hs⟩)
/-- the system of a graph, or its error -/
def ofS : Sys := if checkG cs arcs = 0 ∧ checkS arcs = 0 then arcs else []
def ofE : Int := if checkG cs arcs = 0 then checkS arcs else checkG cs arcs
omit hcs hco hal in
theorem of_weak {f : FuncId} (h : Con Try.prog f [vG cs arcs] [] fun r _ => r = .tup [.ag [.nil], vi (checkG cs arcs)] ∧ checkG cs arcs ≠ 0 ∨ checkG cs arcs = 0 ∧ r = .tup [.ag [.nil], vi (checkS arcs)] ∧ checkS arcs ≠ 0 ∨ checkG cs arcs = 0 ∧ checkS arcs = 0 ∧ r = .tup [vy 2 arcs, vi 0]) :
    Con Try.prog f [vG cs arcs] [] fun r _ => r = .tup [vy 0 (ofS cs arcs), vi (ofE cs arcs)] :=
  (Con.freezeR (fun _ => true) h).weak fun r b ⟨r0, h0, h1⟩ => by
    subst h1
    have hnil : ∀ e : Int, leV ((AV.tup [.ag [.nil], vi e]).freeze fun _ => true) (.tup [vy 0 [], vi e]) := fun e => by
      simp only [go_sem, AV.freeze, List.map_nil]
      exact leV_tup ⟨leV_ag ⟨leV_nil _ _, trivial⟩, leV_refl _, trivial⟩
    rcases h0 with ⟨rfl, hg⟩ | ⟨hg, rfl, hs⟩ | ⟨hg, hs, rfl⟩
    · rw [show ofS cs arcs = [] from if_neg fun h => hg h.1, show ofE cs arcs = checkG cs arcs from if_neg hg]
      exact ⟨_, rfl, hnil _⟩
    · rw [show ofS cs arcs = [] from if_neg fun h => hs h.2, show ofE cs arcs = checkS arcs from if_pos hg]
      exact ⟨_, rfl, hnil _⟩
    · rw [show ofS cs arcs = arcs from if_pos ⟨hg, hs⟩, show ofE cs arcs = checkS arcs from if_pos hg, hs]
      exact ⟨_, rfl, leV_refl _⟩
theorem con_of : Con Try.prog 20 [vG cs arcs] [] fun r _ => r = .tup [vy 0 (ofS cs arcs), vi (ofE cs arcs)] := of_weak cs arcs (con_ofO cs arcs hcs hco hal)
theorem con_rof : Con Try.prog 21 [vG cs arcs] [] fun r _ => r = .tup [vy 0 (ofS cs arcs), vi (ofE cs arcs)] := of_weak cs arcs (con_rofO cs arcs hcs hco hal)
end
end Go.AM

/-! ## SK -/
namespace Go.AM
open Go Go.Proofs Go.RowKit

/-- an arc that has been looked at has this label -/
def SeenL (s : Sys) (l : List Int) (i k : Nat) (x : Int) : Prop := (∃ i', i' < i ∧ ∃ t, (x, t) ∈ s[(l[i']!).toNat]!) ∨ ∃ k', k' < k ∧ s[(l[i]!).toNat]![k']!.1 = x
def Names (s : Sys) (l : List Int) (i k : Nat) (out : List Int) : Prop := out.Pairwise (· < ·) ∧ (∀ x, x ∈ out ↔ SeenL s l i k x) ∧ out.length ≤ i * 1000000 + k
theorem Names.none {s : Sys} {l : List Int} : Names s l 0 0 [] := ⟨List.Pairwise.nil, fun x => by simp [SeenL], Nat.zero_le _⟩
theorem seen_succ {s : Sys} {l : List Int} {i k : Nat} {x : Int} : SeenL s l i (k + 1) x ↔ SeenL s l i k x ∨ s[(l[i]!).toNat]![k]!.1 = x := by
  unfold SeenL
  constructor
  · rintro (h | ⟨k', hk, e⟩)
    · exact .inl (.inl h)
    · rcases Nat.lt_or_ge k' k with hlt | hge
      · exact .inl (.inr ⟨k', hlt, e⟩)
      · obtain rfl : k' = k := by omega
        exact .inr e
  · rintro ((h | ⟨k', hk, e⟩) | e)
    · exact .inl h
    · exact .inr ⟨k', by omega, e⟩
    · exact .inr ⟨k, by omega, e⟩
theorem Names.next {s : Sys} {l : List Int} {i : Nat} {out : List Int} (h : Names s l i s[(l[i]!).toNat]!.length out) (hs : s[(l[i]!).toNat]!.length ≤ 1000000) : Names s l (i + 1) 0 out := by
  have h3 := h.2.2
  have h4 : out.length ≤ (i + 1) * 1000000 + 0 := by rw [Nat.add_mul, Nat.one_mul, Nat.add_zero]; exact Nat.le_trans h3 (Nat.add_le_add_left hs _)
  refine ⟨h.1, fun x => ?_, h4⟩
  rw [h.2.1 x]
  unfold SeenL
  constructor
  · rintro (⟨i', hi, e⟩ | ⟨k', hk, e⟩)
    · exact .inl ⟨i', by omega, e⟩
    · exact .inl ⟨i, by omega, s[(l[i]!).toNat]![k']!.2, by rw [← e]; exact mem_bang hk⟩
  · rintro (⟨i', hi, t, e⟩ | ⟨k', hk, e⟩)
    · rcases Nat.lt_or_ge i' i with hlt | hge
      · exact .inl ⟨i', hlt, t, e⟩
      · obtain rfl : i' = i := by omega
        obtain ⟨j, hj⟩ := List.getElem?_of_mem e
        exact .inr ⟨j, (List.getElem?_eq_some_iff.1 hj).1, by rw [bang_of hj]⟩
    · omega
theorem Names.skip {s : Sys} {l : List Int} {i k j : Nat} {out : List Int} (h : Names s l i k out) (hj : j < out.length) (e : out[j]! = s[(l[i]!).toNat]![k]!.1) : Names s l i (k + 1) out := by
  refine ⟨h.1, fun x => ?_, by have := h.2.2; omega⟩
  rw [seen_succ, ← h.2.1 x]
  refine ⟨.inl, fun h' => h'.elim id fun e' => ?_⟩
  rw [← e', ← e]; exact mem_bang hj
theorem put_strict {l : List Int} {n : Int} {j : Nat} (h : l.Pairwise (· < ·)) (h1 : ∀ i, i < j → l[i]! < n) (h2 : j < l.length → n < l[j]!) : (l.take j ++ n :: l.drop j).Pairwise (· < ·) := by
  rw [List.pairwise_append]
  have hd : (l.drop j).Pairwise (· < ·) := h.sublist (List.drop_sublist _ _)
  have hn : ∀ y ∈ l.drop j, n < y := fun y hy => by
    obtain ⟨i, hi⟩ := List.getElem?_of_mem hy
    rw [List.getElem?_drop] at hi
    have hlen := (List.getElem?_eq_some_iff.1 hi).1
    have h3 := h2 (by omega)
    rcases Nat.eq_zero_or_pos i with h0 | h0
    · subst h0
      rw [Nat.add_zero] at hi
      rw [bang_of hi] at h3; exact h3
    · have := List.pairwise_iff_getElem.1 h j (j + i) (by omega) hlen (by omega)
      rw [getElem!_pos l j (by omega)] at h3
      rw [List.getElem?_eq_getElem hlen] at hi
      simp only [Option.some.injEq] at hi
      omega
  refine ⟨h.sublist (List.take_sublist _ _), List.pairwise_cons.2 ⟨hn, hd⟩, fun x hx y hy => ?_⟩
  have hxn : x < n := by
    obtain ⟨i, hi⟩ := List.getElem?_of_mem hx
    rw [List.getElem?_take] at hi
    split at hi
    · have := h1 i (by assumption)
      rw [bang_of hi] at this; exact this
    · cases hi
  rcases List.mem_cons.1 hy with rfl | hy
  · exact hxn
  · have := hn y hy; omega
theorem Names.put {s : Sys} {l : List Int} {i k j : Nat} {out : List Int} (h : Names s l i k out) (h1 : ∀ i', i' < j → out[i']! < s[(l[i]!).toNat]![k]!.1) (h2 : j < out.length → s[(l[i]!).toNat]![k]!.1 < out[j]!) :
    Names s l i (k + 1) (out.take j ++ s[(l[i]!).toNat]![k]!.1 :: out.drop j) := by
  refine ⟨put_strict h.1 h1 h2, fun x => ?_, by have := h.2.2; have := congrArg List.length (List.take_append_drop j out); simp only [List.length_append, List.length_cons] at *; omega⟩
  rw [seen_succ, ← h.2.1 x]
  conv => rhs; lhs; rw [← List.take_append_drop j out]
  simp only [List.mem_append, List.mem_cons]
  constructor
  · rintro (h' | rfl | h')
    · exact .inl (.inl h')
    · exact .inr rfl
    · exact .inl (.inr h')
  · rintro ((h' | h') | rfl)
    · exact .inl h'
    · exact .inr (.inr h')
    · exact .inr (.inl rfl)
theorem names_labels {s : Sys} {l : List Int} {out : List Int} (h : Names s l l.length 0 out) : out = labelsF s l := by
  refine strict_one h.1 (strict_labelsF s l) fun x => ?_
  rw [h.2.1 x, mem_labelsF]
  constructor
  · rintro (⟨i, hi, t, e⟩ | ⟨k', hk, _⟩)
    · exact ⟨l[i]!, mem_bang hi, t, e⟩
    · omega
  · rintro ⟨i, hi, t, e⟩
    obtain ⟨j, hj⟩ := List.getElem?_of_mem hi
    exact .inl ⟨j, (List.getElem?_eq_some_iff.1 hj).1, t, by rw [bang_of hj]; exact e⟩

set_option maxRecDepth 100000 in
set_option maxHeartbeats 1000000 in
theorem con_rlabels (s : Sys) (l : List Int) (hl : Among s l) (hs : ∀ x ∈ s, x.length ≤ 1000000) :
    Con Try.prog 50 [vy 0 s, vs 0 l] [] fun r _ => r = vs 0 (labelsF s l) := by
  have hll := hl.1
  refine Con.intro Try.func50 rfl Try.ntmps50 Try.results50 (by kernel_rfl) (by simp) 0 (by simp) ?_
  simp only [go_sem]
  refine LoopK.freeze (fun _ => true) (fun p : Nat × List Int => ⟨82, [(1, vs 0 l), (2, .pb 0 0), (5, vs 0 p.2), (6, vi p.1)], [[.sl 0 1 (s.map (vl 0))]]⟩)
    (fun p => l.length - p.1) (fun p => p.1 ≤ l.length ∧ Names s l p.1 0 p.2) (0, []) ⟨by simp, .none⟩ ?_ ?_
  · simp only [go_sem, List.map_nil]
  rintro ⟨i, out⟩ ⟨hi, hm⟩
  simp only at hi hm
  by_cases h : i < l.length
  case neg =>
    have hie : i = l.length := by omega
    subst hie
    have hfin := names_labels hm
    simp only [go_sem, h, hfin]
  have hw : IntKind.i64.wrap (i + 1) = i + 1 := wrap_in (by omega) (by omega)
  have g1 := getv h
  have hb := hl.2 _ (mem_bang h)
  obtain ⟨u, hu⟩ := Int.eq_ofNat_of_zero_le hb.1
  have hun : u < s.length := by omega
  have hut : (l[i]!).toNat = u := by omega
  have g2 := getvl hun
  have hsu := hs _ (mem_bang hun)
  rw [hu] at g1
  simp only [go_sem, h]
  refine LoopK.freeze (fun _ => true) (fun p : Nat × List Int => ⟨82, [(1, vs 0 l), (2, .pb 0 0), (5, vs 0 p.2), (6, vi i), (7, vi p.1)], [[.sl 0 1 (s.map (vl 0))]]⟩)
    (fun p => s[u]!.length - p.1) (fun p => p.1 ≤ s[u]!.length ∧ Names s l i p.1 p.2) (0, out) ⟨by simp, hm⟩ ?_ ?_
  · simp only [go_sem]
  rintro ⟨k, o2⟩ ⟨hk, hm2⟩
  simp only at hk hm2
  simp only [go_sem]
  refine DrawK.walk 11 mixed (by kernel_rfl) ?_
  by_cases h3 : k < s[u]!.length
  case neg =>
    have hke : k = s[u]!.length := by omega
    subst hke
    simp only [go_sem, h, g1, hun, g2, h3, hw]
    refine roundK.freeze (fun _ => true) (i + 1, o2) ⟨by show i + 1 ≤ l.length; omega, (show Names s l i s[(l[i]!).toNat]!.length o2 by rw [hut]; exact hm2).next (by rw [hut]; exact hsu)⟩ (by show l.length - (i + 1) < l.length - i; omega) ?_
    simp only [go_sem]
  have hg3 := getva h3
  have hw3 : IntKind.i64.wrap (k + 1) = k + 1 := wrap_in (by omega) (by omega)
  simp only [go_sem, h, g1, hun, g2, h3]
  refine DrawK.walk 13 mixed (by kernel_rfl) ?_
  have hol : o2.length ≤ 130000000 := by have := hm2.2.2; omega
  obtain ⟨n, hn⟩ : ∃ n, s[u]![k]!.1 = n := ⟨_, rfl⟩
  simp only [go_sem, h, g1, hun, g2, h3, hg3, hn]
  refine LoopK.intro (fun j : Nat => ⟨82, [(1, vs 0 l), (2, .pb 0 0), (5, vs 0 o2), (6, vi i), (7, vi k), (8, vi n), (9, vi j)], [[.sl 0 1 (s.map (vl 0))]]⟩)
    (fun j => o2.length - j) (fun j => j ≤ o2.length ∧ ∀ i', i' < j → o2[i']! < n) 0 ⟨by omega, fun i' hi' => by omega⟩ ?_ ?_
  · simp only [go_sem]
  rintro j ⟨hj, hjn⟩
  have hput := fun h2 => Names.put (j := j) hm2 (by rw [hut, hn]; exact hjn) h2
  rw [hut, hn] at hput
  have hT : List.take o2.length (List.map vi o2) = List.map vi o2 := List.take_of_length_le (by simp)
  have hE : List.map vi (o2.take j ++ n :: o2.drop j) = List.take j (List.map vi o2) ++ [.sc (.int .i64 n)] ++ List.drop j (List.map vi o2) := by simp [vi, List.map_take, List.map_drop]
  by_cases h4 : j < o2.length
  case neg =>
    have hje : j = o2.length := by omega
    subst hje
    rw [hT] at hE
    simp only [go_sem, h4, hT, hw3]
    refine ⟨by omega, by simp only [roomFor]; omega, by simp only [roomFor]; omega, by omega, by omega, by simp only [roomFor, List.length_append, List.length_map, List.length_drop, List.length_cons, List.length_nil]; omega, ?_⟩
    refine roundK.freeze (fun _ => true) (k + 1, o2.take o2.length ++ n :: o2.drop o2.length) ⟨by show k + 1 ≤ s[u]!.length; omega, hput fun h => absurd h h4⟩ (by show s[u]!.length - (k + 1) < s[u]!.length - k; omega) ?_
    simp only [go_sem, hE]
  have g4 := getv h4
  have hwj : IntKind.i64.wrap (j + 1) = j + 1 := wrap_in (by omega) (by omega)
  by_cases h5 : o2[j]! < n
  · simp only [go_sem, h4, g4, h5, hwj]
    refine roundK.intro (j + 1) ⟨by omega, fun i' hi' => ?_⟩ (by omega) ?_
    · by_cases e : i' = j
      · subst e; exact h5
      · exact hjn i' (by omega)
    · simp only [go_sem]
  by_cases h6 : o2[j]! = n
  · have h6' : (o2[j]! == n) = true := beq_iff_eq.2 h6
    simp only [go_sem, h4, g4, h5, h6', hw3]
    refine roundK.freeze (fun _ => true) (k + 1, o2) ⟨by show k + 1 ≤ s[u]!.length; omega, hm2.skip h4 (by rw [hut, hn]; exact h6)⟩ (by show s[u]!.length - (k + 1) < s[u]!.length - k; omega) ?_
    simp only [go_sem]
  have h6' : (o2[j]! == n) = false := beq_eq_false_iff_ne.2 h6
  simp only [go_sem, h4, g4, h5, h6', hT, hw3]
  refine ⟨by omega, by simp only [roomFor, List.length_take, List.length_map]; omega, by simp only [roomFor, List.length_take, List.length_map]; omega, by omega, by omega, by simp only [roomFor, List.length_append, List.length_map, List.length_drop, List.length_take, List.length_cons, List.length_nil]; omega, ?_⟩
  refine roundK.freeze (fun _ => true) (k + 1, o2.take j ++ n :: o2.drop j) ⟨by show k + 1 ≤ s[u]!.length; omega, hput fun h => by omega⟩ (by show s[u]!.length - (k + 1) < s[u]!.length - k; omega) ?_
  simp only [go_sem, hE]
end Go.AM

/-! ## WQ -/
namespace Go.AM
open Go Go.Proofs Go.RowKit

/-- the variables of k rounds -/
def Rx (k : Nat) : List (List AV) := List.replicate k [.any, .any, .any]
theorem Rx_len (k : Nat) : (Rx k).length = k := by simp [Rx]
@[go_sem] theorem freeB_Rx {d k : Nat} : freeB d (Rx k) = true := by
  induction k with
  | zero => rfl
  | succ k ih => unfold Rx at *; rw [List.replicate_succ, freeB, ih]; rfl
theorem mapB_Rx {f : AV → AV} (hf : f .any = .any) (k : Nat) : mapB f (Rx k) = Rx k := by
  induction k with
  | zero => rfl
  | succ k ih => unfold Rx at *; rw [List.replicate_succ, mapB, ih]; simp [mapTops, AV.mapTop, hf]
@[go_sem] theorem mapB_kill_Rx {t k : Nat} : mapB (killLeaf t) (Rx k) = Rx k := mapB_Rx rfl k
@[go_sem] theorem mapB_freeze_Rx {p : Nat → Bool} {k : Nat} : mapB (freezeLeaf p) (Rx k) = Rx k := mapB_Rx rfl k
@[go_sem] theorem mapB_put_Rx {t k : Nat} {P : Program} {a e : TypeId} {D : DataW Unit} : mapB (putMap t P a e D) (Rx k) = Rx k := mapB_Rx rfl k
@[go_sem] theorem mapB_store_Rx {t es i o k : Nat} {ys : List AV} : mapB (storeLeaf t es i o ys) (Rx k) = Rx k := mapB_Rx rfl k
theorem Rx_succ (k : Nat) : Rx (k + 1) = Rx k ++ [[.any, .any, .any]] := by unfold Rx; rw [List.replicate_succ']
@[go_sem] theorem leB_Rx {k : Nat} : leB (Rx k) (Rx k) = True := eq_true (leB_refl _)
@[go_sem] theorem leB_RxS {k : Nat} {x : List AV} : leB (Rx k ++ [x]) (Rx k ++ [x]) = True := eq_true (leB_refl _)
@[go_sem] theorem leB_RxA {k : Nat} {x y z : AV} : leB (Rx k ++ [[x, y, z]]) (Rx k ++ [[.any, .any, .any]]) = True := eq_true (leB_app (leB_refl _) ⟨⟨leV_any _, leV_any _, leV_any _, trivial⟩, trivial⟩)

/-- an element of the queue -/
def pairT (p : TP) : AV := .ag [vs 0 p.1, vs 0 p.2.1, vs 0 p.2.2]
theorem start_le {t : Nat} (ht : 2 ≤ t) {x y : AV} : leV (.sl t 3 [.ag [.nil, x, y]]) (.tl t 3 [.ag [.sl 0 1 [], x, y]] 0) := leV_sem fun G w v h => by
  refine VRel.le (x := .sl t 3 [.ag [.sl 0 1 [], x, y]]) ?_ (leV_sltl (by simp))
  cases h with
  | froz h => exfalso; cases h <;> omega
  | own _ _ _ _ e vals h1 h2 h3 h4 h0 h5 =>
    have h5' : PW (FRel (Stable G) w) [.nil, x, y] vals := by simpa [flat, AV.cells] using h5
    refine .own t 3 _ v e vals h1 h2 h3 (fun z hz => by simp at hz; subst hz; rfl) h0 ?_
    obtain ⟨u, us, rfl, k1, k2⟩ := h5'.cons_inv
    have : FRel (Stable G) w (.sl 0 1 []) u := by cases k1; exact .slNil 0 1 none 0 (by omega) (fun h => by omega) (fun _ => rfl)
    simpa [flat, AV.cells] using PW.cons this k2

theorem uniq_len (l : List Int) : (uniq l).length ≤ l.length := by
  unfold uniq upTo; rw [List.length_map]; exact Nat.le_trans (List.length_filter_le _ _) (by simp)
theorem labels_len {x : Sys} {s : List Int} (hs : Among x s) (hx : ∀ l ∈ x, l.length ≤ 1000000) : (labelsF x s).length ≤ 128 * 1000000 := by
  unfold labelsF
  refine Nat.le_trans (uniq_len _) ?_
  rw [(sortI_perm _).length_eq, List.length_map]
  exact Nat.le_trans (visA_le hx _) (Nat.mul_le_mul_right _ hs.1)
theorem strOf_size (ns : List Int) : (strOf ns).size = ns.length := by
  have : ∀ (ns : List Int) (r : ByteArray), (ns.foldl (fun r n => r.push (UInt8.ofNat n.toNat)) r).size = r.size + ns.length := by
    intro ns
    induction ns with
    | nil => intro r; simp
    | cons x ns ih => intro r; rw [List.foldl_cons, ih, ByteArray.size_push, List.length_cons]; omega
  have h := this ns ByteArray.empty
  unfold strOf
  rw [h]; simp
/-- what Trace returns -/
def outT (r : List Int × Bool × Int) : AV := .tup [if r.2.1 = true then vs 0 r.1 else .nil, .sc (.bool r.2.1), vi r.2.2]

set_option maxRecDepth 100000 in
set_option maxHeartbeats 4000000 in
theorem con_trace (a b : Sys) (most : Nat) (hca : checkS a = 0) (hcb : checkS b = 0) (hm : most ≤ 16) (ha : ∀ l ∈ a, l.length ≤ 1000000) (hb : ∀ l ∈ b, l.length ≤ 1000000) :
    Con Try.prog 13 [vy 0 a, vy 0 b, vi most] [] fun r _ => r = outT (traceF a b most) := by
  have ha' : ∀ l ∈ a, l.length ≤ 281474976710656 := fun l hl => Nat.le_trans (ha l hl) (by decide)
  have hb' : ∀ l ∈ b, l.length ≤ 281474976710656 := fun l hl => Nat.le_trans (hb l hl) (by decide)
  have a2 := (checkS_ok hca).2.1
  have b2 := (checkS_ok hcb).2.1
  have hab : bothS a b = 0 := dealt_both hca hcb
  refine Con.intro Try.func13 rfl Try.ntmps13 Try.results13 (by kernel_rfl) (by simp) 0 (by simp) ?_
  simp only [go_sem]
  refine CallU.free (con_both a b ha' (by omega) hb' (by omega)) (by simp only [go_sem]) (by simp only [go_sem]) ?_
  rintro r bx rfl
  have hm0 : ¬ ((most : Int) < 0) := by omega
  have hm1 : ¬ ((16 : Int) < most) := by omega
  simp only [go_sem, hab, hm0, hm1]
  refine CallU.flat (con_key .nil [0] [0] (by decide) (by decide) (by decide) (by decide)) (by simp only [go_sem]) (by simp only [go_sem]) ?_
  rintro r bx rfl
  simp only [go_sem]
  refine evMapPut_str Try.underlying69 Try.underlying9 Try.underlying4 (by decide +kernel) (by decide) ?_
  have hD : (DataW.map ([] : List (Lit × DataW Unit))).put (Lit.string (strOf (keyB [0] [0])).data.toList) (DataW.lit (Lit.bool true)) = metD [keyP startP] := metD_snoc [] _
  simp only [go_sem, hD]
  refine LoopK.intro (fun q : List TP × Nat × List (List UInt8) × Nat => ⟨98, [(2, vi most), (3, .pb 0 0), (4, .pb 1 0), (11, .mp 2112 Try.prog 9 4 (metD q.2.2.1)), (12, .tl 2432 3 (q.1.map pairT) q.2.1)], [.sl 0 1 (a.map (vl 0))] :: [.sl 0 1 (b.map (vl 0))] :: [.any, .any, .any] :: Rx q.2.2.2⟩)
    (fun q => (q.1.length - q.2.1) + (4096 - q.2.2.1.length))
    (fun q => q.2.1 ≤ q.1.length ∧ q.1.length ≤ q.2.2.1.length ∧ q.2.2.1.length ≤ 4096 ∧ q.2.2.1.Nodup ∧ (∀ p ∈ q.1, p.1.length ≤ most ∧ Among a p.2.1 ∧ Among b p.2.2) ∧
      outerF a b most ((q.1.length - q.2.1) + (4096 - q.2.2.1.length)) (q.1.drop q.2.1) q.2.2.1 = traceF a b most) ([startP], 0, [keyP startP], 0)
    ⟨by simp, by simp, by simp, by simp, fun p hp => by simp at hp; subst hp; exact ⟨by simp [startP], among_start hca, among_start hcb⟩, rfl⟩ ?_ ?_
  · simp only [go_sem, Rx, List.replicate_zero]
    exact start_le (by omega)
  rintro ⟨all, i, met, k⟩ ⟨c1, c2, c3, c4, c5, c6⟩
  simp only at c1 c2 c3 c4 c5 c6
  by_cases hi : i < all.length
  case neg =>
    have hn0 : ¬ ((0 : Int) < ((all.length - i : Nat) : Int)) := by omega
    have e : traceF a b most = ([], false, 0) := by
      rw [← c6, List.drop_of_length_le (by omega)]; unfold outerF; rfl
    simp only [go_sem, hn0, e, outT]
  have hn0 : (0 : Int) < ((all.length - i : Nat) : Int) := by omega
  rcases hp : all[i]! with ⟨w, pa, pb⟩
  have hpm : (w, pa, pb) ∈ all := by rw [← hp]; exact mem_bang hi
  obtain ⟨d1, d2, d3⟩ := c5 _ hpm
  simp only at d1 d2 d3
  have gp : (all.map pairT)[i]? = some (.ag [vs 0 w, vs 0 pa, vs 0 pb]) := by rw [List.getElem?_map, List.getElem?_eq_getElem hi, ← getElem!_pos all i hi, hp]; rfl
  have hdrop : all.drop i = (w, pa, pb) :: all.drop (i + 1) := by rw [← List.getElem_cons_drop hi, ← getElem!_pos all i hi, hp]
  have hBl := Rx_len k
  have hBn : ∀ z : List AV, (Rx k ++ [z])[k]? = some z := fun z => by rw [List.getElem?_append_right (by rw [hBl]; exact Nat.le_refl _), hBl, Nat.sub_self]; rfl
  have hBs : ∀ z z' : List AV, (Rx k ++ [z]).set k z' = Rx k ++ [z'] := fun z z' => by rw [List.set_append_right _ _ (by rw [hBl]; exact Nat.le_refl _), hBl, Nat.sub_self]; rfl
  obtain ⟨M, hM⟩ : ∃ M, all.length - i + (4096 - met.length) = M + 1 := ⟨all.length - i + (4096 - met.length) - 1, by omega⟩
  rw [hM, hdrop] at c6
  by_cases hw : w.length = most
  · have e : traceF a b most = ([], false, 0) := by
      rw [← c6]; unfold outerF; rw [if_pos hw]
    simp only [go_sem, hn0, gp, hBl, hBn, hBs, hw]
    refine ⟨by omega, ?_⟩
    simp only [go_sem, e, outT]
  have c6' : (match innerF a b (w, pa, pb) (labelsF a pa) ((w, pa, pb) :: all.drop (i + 1)) met with
    | .go todo met' => outerF a b most M todo.tail met'
    | .done w s e => (w, s, e)) = traceF a b most := by
    rw [← c6]; conv => rhs; unfold outerF
    rw [if_neg hw]
    all_goals rfl
  clear c6
  simp only [go_sem, hn0, gp, hBl, hBn, hBs, hw]
  refine ⟨by omega, ?_⟩
  refine CallU.free (con_labels pa a d2 ha) (by simp only [go_sem]) (by simp only [go_sem]) ?_
  rintro r bx rfl
  generalize hI : innerF a b (w, pa, pb) (labelsF a pa) ((w, pa, pb) :: all.drop (i + 1)) met = I at c6'
  generalize hL : labelsF a pa = L at hI
  have hLl : L.length ≤ 128 * 1000000 := by rw [← hL]; exact labels_len d2 ha
  simp only [go_sem]
  refine LoopK.intro (fun q : List TP × Nat × List (List UInt8) × Nat => ⟨98, [(2, vi most), (3, .pb 0 0), (4, .pb 1 0), (11, .mp 2112 Try.prog 9 4 (metD q.2.2.1)), (12, .tl 2432 3 (q.1.map pairT) q.2.1), (13, .pb (k + 1 + 1 + 1) 0), (54, vs 0 L), (55, vi L.length), (56, vi q.2.2.2)], [.sl 0 1 (a.map (vl 0))] :: [.sl 0 1 (b.map (vl 0))] :: [.any, .any, .any] :: (Rx k ++ [[vs 0 w, vs 0 pa, vs 0 pb]])⟩)
    (fun q => L.length - q.2.2.2)
    (fun q => q.2.1 < q.1.length ∧ q.1.length ≤ q.2.2.1.length ∧ q.2.2.1.length ≤ 4096 ∧ q.2.2.1.Nodup ∧ (∀ p ∈ q.1, p.1.length ≤ most ∧ Among a p.2.1 ∧ Among b p.2.2) ∧ q.2.2.2 ≤ L.length ∧
      q.1.length - q.2.1 + (4096 - q.2.2.1.length) = M + 1 ∧ innerF a b (w, pa, pb) (L.drop q.2.2.2) (q.1.drop q.2.1) q.2.2.1 = I) (all, i, met, 0)
    ⟨hi, c2, c3, c4, c5, Nat.zero_le _, hM, by show innerF a b (w, pa, pb) (L.drop 0) (all.drop i) met = I; rw [hdrop]; exact hI⟩ ?_ ?_
  · simp only [go_sem]
  rintro ⟨al2, i2, met2, j⟩ ⟨m1, m2, m3, m4, m5, m6, m7, m8⟩
  simp only at m1 m2 m3 m4 m5 m6 m7 m8
  by_cases hj : j < L.length
  case neg =>
    obtain rfl : j = L.length := by omega
    rw [List.drop_length] at m8
    simp only [go_sem, hj]
    refine ⟨by omega, roundK.intro (al2, i2 + 1, met2, k + 1) ⟨by show i2 + 1 ≤ al2.length; omega, m2, m3, m4, m5, ?_⟩ (by show al2.length - (i2 + 1) + (4096 - met2.length) < all.length - i + (4096 - met.length); omega) ?_⟩
    · show outerF a b most (al2.length - (i2 + 1) + (4096 - met2.length)) (al2.drop (i2 + 1)) met2 = traceF a b most
      rw [← c6', ← m8]
      simp only [innerF]
      rw [show al2.length - (i2 + 1) + (4096 - met2.length) = M by omega, List.tail_drop]
    · simp only [go_sem, Rx_succ]
  have hjw : IntKind.i64.wrap (j + 1) = j + 1 := wrap_in (by omega) (by omega)
  have hdj : L.drop j = L[j]! :: L.drop (j + 1) := by rw [← List.getElem_cons_drop hj, ← getElem!_pos L j hj]
  rw [hdj] at m8
  have gl := getv hj
  generalize hlab : L[j]! = lab at gl m8
  have hclip : Con Try.prog 34 [vs 0 w] [] fun r _ => r = .sl 1 1 (w.map vi) := con_clip w (by omega)
  simp only [go_sem, hj, gl]
  refine DrawK.walk 18 mixed (by kernel_rfl) ?_
  simp only [go_sem, hBn]
  refine CallY.mk hclip (by simp only [go_sem]) (by simp only [go_sem]) (.inl rfl) ?_
  simp only [go_sem, hBn]
  refine ⟨by simp [roomFor]; omega, CallY.mk (con_after pa a lab d2 ha) (by simp only [go_sem]) (by simp only [go_sem]) (.inl (by simp only [go_sem])) ?_⟩
  simp only [go_sem, hBn]
  refine CallY.mk (con_after pb b lab d3 hb) (by simp only [go_sem]) (by simp only [go_sem]) (.inl (by simp only [go_sem])) ?_
  simp only [go_sem]
  generalize hna : afterF a pa lab = na
  generalize hnb : afterF b pb lab = nb
  have hnext : nextP a b (w, pa, pb) lab = (w ++ [lab], na, nb) := by unfold nextP; rw [hna, hnb]
  simp only [innerF, hnext] at m8
  have hAna : Among a na := by rw [← hna]; exact among_afterF hca d2
  have hAnb : Among b nb := by rw [← hnb]; exact among_afterF hcb d3
  by_cases hz : nb = []
  · rw [if_pos hz] at m8
    have e : traceF a b most = (w ++ [lab], true, 0) := by rw [← c6', ← m8]
    have hz' : ((nb.length : Int) == 0) = true := by rw [hz]; rfl
    simp only [go_sem, hz', e, outT, List.map_append, List.map_cons, List.map_nil]
  rw [if_neg hz] at m8
  have hzl : 0 < nb.length := List.length_pos_iff.2 hz
  have hz' : ((nb.length : Int) == 0) = false := by simp; omega
  simp only [go_sem, hz']
  have r1 : ∀ i ∈ na, 0 ≤ i ∧ i < 128 := fun t ht => by have := hAna.2 t ht; omega
  have r2 : ∀ i ∈ nb, 0 ≤ i ∧ i < 128 := fun t ht => by have := hAnb.2 t ht; omega
  have hkey := con_key (.sl 0 1 (w.map vi ++ [vi lab])) na nb r1 r2 hAna.1 hAnb.1
  have hks : (strOf (keyB na nb)).size ≤ 9223372036854775807 := by
    rw [strOf_size]; unfold keyB; rw [List.length_append, List.length_cons]; have := hAna.1; have := hAnb.1; omega
  have hkl : (strOf (keyB na nb)).data.toList = keyP (w ++ [lab], na, nb) := rfl
  generalize keyP (w ++ [lab], na, nb) = key at m8 hkl
  refine CallU.flat hkey (by simp only [go_sem]) (by simp only [go_sem]) ?_
  rintro r bx rfl
  simp only [go_sem]
  refine evLookup_str Try.underlying69 Try.underlying9 Try.underlying4 tinfo_4 rfl hks ?_
  rw [hkl, metD_at]
  cases hmet : met2.contains key
  case true =>
    rw [if_pos hmet] at m8
    simp only [go_sem, hjw]
    refine roundK.intro (al2, i2, met2, j + 1) ⟨m1, m2, m3, m4, m5, by show j + 1 ≤ L.length; omega, m7, m8⟩ (by show L.length - (j + 1) < L.length - j; omega) ?_
    simp only [go_sem]
  rw [if_neg (by rw [hmet]; simp)] at m8
  have hlen := metD_len met2 m4
  by_cases hfull : 4096 ≤ met2.length
  · rw [if_pos hfull] at m8
    have e : traceF a b most = ([], false, 1) := by rw [← c6', ← m8]
    have hf : (4096 : Int) ≤ met2.length := by omega
    simp only [go_sem, hlen, hf, e, outT]
  rw [if_neg hfull] at m8
  have hf : ¬ ((4096 : Int) ≤ met2.length) := by omega
  simp only [go_sem, hlen, hf]
  refine CallU.flat hkey (by simp only [go_sem]) (by simp only [go_sem]) ?_
  rintro r bx rfl
  simp only [go_sem]
  refine evMapPut_str Try.underlying69 Try.underlying9 Try.underlying4 hks (by rw [hlen]; omega) ?_
  rw [hkl, metD_snoc]
  simp only [go_sem, hjw]
  have hnew : ∀ p ∈ [((w ++ [lab], na, nb) : TP)], p.1.length ≤ most ∧ Among a p.2.1 ∧ Among b p.2.2 := fun p hp => by
    simp at hp; subst hp
    exact ⟨by simp; omega, hAna, hAnb⟩
  have hnd : (met2 ++ [key]).Nodup := by
    rw [List.nodup_append]
    refine ⟨m4, by simp, fun x hx y hy => ?_⟩
    simp at hy; subst hy
    intro e; subst e
    have := List.contains_iff_mem.2 hx
    rw [hmet] at this; cases this
  have hpt : AV.ag [AV.sl 0 1 (List.map vi w ++ [AV.sc (Value.int IntKind.i64 lab)]), AV.sl 0 1 (List.map vi na), AV.sl 0 1 (List.map vi nb)] = pairT (w ++ [lab], na, nb) := by simp [pairT, vs, vi]
  refine ⟨by simp [roomFor]; omega, ?_, ?_⟩
  · refine roundK.intro (al2 ++ [(w ++ [lab], na, nb)], i2, met2 ++ [key], j + 1) ⟨by simp; omega, by simp; omega, by simp; omega, hnd, fun p hp => ?_, by show j + 1 ≤ L.length; omega, by simp; omega, ?_⟩ (by show L.length - (j + 1) < L.length - j; omega) ?_
    · exact (List.mem_append.1 hp).elim (m5 p) (hnew p)
    · show innerF a b (w, pa, pb) (L.drop (j + 1)) ((al2 ++ [(w ++ [lab], na, nb)]).drop i2) (met2 ++ [key]) = I
      rw [List.drop_append_of_le_length (by omega)]; exact m8
    · simp only [go_sem, List.map_append, List.map_cons, List.map_nil, ← hpt]
  · refine roundK.intro (al2.drop i2 ++ [(w ++ [lab], na, nb)], 0, met2 ++ [key], j + 1) ⟨by simp, by simp; omega, by simp; omega, hnd, fun p hp => ?_, by show j + 1 ≤ L.length; omega, by simp; omega, ?_⟩ (by show L.length - (j + 1) < L.length - j; omega) ?_
    · exact (List.mem_append.1 hp).elim (fun h => m5 p (List.mem_of_mem_drop h)) (hnew p)
    · show innerF a b (w, pa, pb) (L.drop (j + 1)) ((al2.drop i2 ++ [(w ++ [lab], na, nb)]).drop 0) (met2 ++ [key]) = I
      rw [List.drop_zero]; exact m8
    · simp only [go_sem, List.map_append, List.map_cons, List.map_nil, List.map_drop, ← hpt]
end Go.AM

/-! ## AmW -/
namespace Go.AM
open Go.RowKit

theorem freeT_put {d : Nat} {x : AV} (hx : x.allLeaf (freeLeaf d) = true) : ∀ {l : List (Nat × AV)} {s : Nat}, freeT d l = true → freeT d (putT l s x) = true
  | [], s, _ => by simp [putT, freeT, hx]
  | (s', v) :: r, s, h => by
    simp only [freeT, Bool.and_eq_true] at h
    unfold putT
    split
    · simp [freeT, hx, h.2]
    · simp [freeT, h.1, freeT_put hx h.2]

/-- how many of the effects are listed -/
def posE (E : List Nat) (L : Nat → Bool) : Nat := (E.filter L).length

/-- an effect: a call of a function that writes to variable i0 alone -/
def EffC (P : Program) (σ0 : St) (i0 : Nat) (o : Oper) (d : Nat) (ρ : Operand → AV) (c : List AV) (y : AV) (c' : List AV) : Prop :=
  o.guard = none ∧ ∃ fid args As r c1, o.op = .call { callee := .value (.func fid), args := args, argTypes := As } ∧ dedup (pbss (args.toList.map ρ)) = [i0] ∧ allLeafs noTag (args.toList.map ρ) = true ∧ allNoTags [c] = true ∧
    Con P fid (mapTops (pbIn [i0]) (args.toList.map ρ)) (mapB (pbIn [i0]) [c]) (fun r' bx => r' = r ∧ bx = [c1]) ∧ r.allLeaf lt64b = true ∧ allNoTags [c1] = true ∧
    y = r.mapTop (outLeaf (64 * (d + 1)) [i0] σ0.boxes.length) ∧ [c'] = mapB (outLeaf (64 * (d + 1)) [i0] σ0.boxes.length) [c1]

/-- a variable of which nothing is known but its size; where no effects are, it is as it was -/
def blankC : List Nat → List AV → List AV
  | [], c => c
  | _ :: _, c => c.map fun _ => .any

structure AtE (vs : List (Nat × AV)) (E : List Nat) (C : Nat → List AV) (i0 : Nat) (L : Nat → Bool) (σ τ : St) : Prop where
  n : τ.n = σ.n
  boxes : τ.boxes = σ.boxes.set i0 (C (posE E L))
  dst : ∀ (i d : Nat) (y : AV), vs[i]? = some (d, y) → τ.get d = if L i = true then y else σ.get d
  rest : ∀ s : Nat, (∀ (i d : Nat) (y : AV), vs[i]? = some (d, y) → d ≠ s) → τ.get s = σ.get s

section
variable {P : Program} {ops : Array Oper} {m : Nat} {vs : List (Nat × AV)} {E : List Nat} {C : Nat → List AV} {i0 : Nat} {σ : St} {K : St → Prop} {G0 : Orig} {w0 : World} {Q : Exit → Act → World → Prop}

theorem BRel.blank {gh : Gh} {G : Nat → Status} {w : World} {bx : List (List AV)} {c c' : List AV} (h : BRel gh G w (bx.set i0 c)) (hl : c.length = c'.length) (he : E = [] → c = c') : BRel gh G w (bx.set i0 (blankC E c')) := by
  cases E with
  | nil => rw [← he rfl]; exact h
  | cons e E =>
  refine ⟨fun i vs hv => by have := h.low i vs hv; simpa using this, fun i cs hi => ?_⟩
  rw [List.getElem?_set] at hi
  by_cases hii : i0 = i
  · subst hii
    rw [if_pos rfl] at hi
    split at hi
    · rename_i hlt
      cases hi
      have h2 := h.cell i0 c (by rw [List.getElem?_set, if_pos rfl, if_pos hlt])
      refine h2.turn (by simp [blankC, hl]) (fun j x y v h3 h4 hr => ?_) (fun b hb => ⟨hb, rfl⟩) fun h0 => h0
      unfold blankC at h4
      rw [List.getElem?_map] at h4
      cases hc : c'[j]? with
      | none => simp [hc] at h4
      | some z => simp [hc] at h4; subst h4; exact .froz (.any _)
    · cases hi
  · rw [if_neg hii] at hi
    exact h.cell i cs (by rw [List.getElem?_set, if_neg hii]; exact hi)

theorem posE_step {L L' : Nat → Bool} {i : Nat} (hn : E.Nodup) (hL : ∀ j, j ≠ i → L' j = L j) (h1 : L i = false) (h2 : L' i = true) : posE E L' = posE E L + if i ∈ E then 1 else 0 := by
  unfold posE
  induction E with
  | nil => simp
  | cons e E ih =>
    have hn' := List.nodup_cons.1 hn
    have ih := ih hn'.2
    by_cases he : e = i
    · subst he
      have hni : e ∉ E := hn'.1
      rw [if_neg hni] at ih
      simp only [List.filter_cons, h1, h2, if_true, Bool.false_eq_true, if_false, List.length_cons, List.mem_cons, true_or, if_true]
      omega
    · simp only [List.filter_cons, hL e he, List.mem_cons, Ne.symm he, false_or]
      split
      · simp only [List.length_cons]; omega
      · exact ih

/-- what the check of the effects says -/
structure PlanE (ops : Array Oper) (m : Nat) (E : List Nat) : Prop where
  nodup : E.Nodup
  lt : ∀ e ∈ E, e < m
  chain : ∀ e ∈ E, ∀ e' ∈ E, e < e' → reach ops ops.size e' e = true

/-- the straggler: an operation of the head that the tail need not wait for -/
def sgIs (sg : Option (Nat × Tr)) (j : Nat) : Bool := match sg with
  | some (x, _) => j == x
  | none => false
/-- what is left to walk, when all but the straggler have run -/
def sgA (P : Program) (ops : Array Oper) (sg : Option (Nat × Tr)) (σ : St) (K : St → Prop) : Prop := match sg with
  | none => True
  | some (x, t) => match ops[x]? with
    | some o => ∃ d, o.dst = some d ∧ treeA P ops t (σ.put (some d) .any) K
    | none => False

/-- .. and those that only name places: taken as soon as they are ready -/
structure PlanL (ops : Array Oper) (m : Nat) (E LF : List Nat) (tr : Tr) (sg : Option (Nat × Tr)) : Prop where
  le : m ≤ ops.size
  lt : ∀ i o, ops[i]? = some o → ∀ k ∈ edges o, k < i
  head : ∀ i o, ops[i]? = some o → i < m → ∃ d, o.dst = some d ∧ d ∉ slotsG ops o ∧ ∀ j p s, j < m → j ≠ i → ops[j]? = some p → p.dst = some s → s ≠ d ∧ (s ∈ slotsG ops o → if j < i then reach ops ops.size i j = true else reach ops ops.size j i = true)
  tail : ∀ i o, ops[i]? = some o → m ≤ i → ∀ j, j < m → j ∉ LF → sgIs sg j = false → reach ops ops.size i j = true
  fr : ∀ j ∈ LF, j < m ∧ j ∉ E ∧ ∀ p, ops[j]? = some p → ∃ d, Front ops j p d
  tr : trOk ops true (List.range m) tr = true
  sg : ∀ x t, sg = some (x, t) → x < m ∧ x ∉ E ∧ x ∉ LF ∧ (∀ j ∈ LF, ∀ p, ops[j]? = some p → x ∉ edges p) ∧ trOk ops true ((List.range m).filter fun i => !(i == x)) t = true

def FrontC (P : Program) (o : Oper) (ρ : Operand → AV) (y : AV) : Prop :=
  ∀ (G : Nat → Status) (a : Act) (w : World), Good G w → (∀ x ∈ o.op.operands, VRel G w (ρ x) (a.eval x)) → ∃ v, VRel G w y v ∧ ∀ w', (execOp a.eval o).run P w' = .ok (.value v) w'

theorem head_runE {LF : List Nat} {tr : Tr} {sg : Option (Nat × Tr)} (hp : PlanL ops m E LF tr sg) (hE : PlanE ops m E) (h0 : True) (hN : ∀ e a w, e ≠ .normal → ¬ Q e a w) (hQ : ∀ σ' G' a' w', K σ' → SRel G0 w0 σ' G' a' w' → Q .normal a' w') (hvl : vs.length = m) (hap : Apart vs) (hC : ∀ j, (C j).length = (C 0).length)
    (hK : treeA P ops tr (puts { σ with boxes := σ.boxes.set i0 (C E.length) } vs) K) (hK2 : sgA P ops sg (puts { σ with boxes := σ.boxes.set i0 (C E.length) } vs) K)
    (hst : ∀ i o, i < m → ops[i]? = some o → ∃ d y, vs[i]? = some (d, y) ∧ o.dst = some d ∧ d < σ.n ∧
      if i ∈ E then EffC P σ i0 o d (puts σ (vs.take i)).ev (C (E.filter fun e => decide (e < i)).length) y (C ((E.filter fun e => decide (e < i)).length + 1)) else if i ∈ LF then FrontC P o (puts σ (vs.take i)).ev y else StepG P ops o d (puts σ (vs.take i)) (σ.boxes.set i0 (blankC E (C 0))) y)
    (hfr : ∀ i o d, ops[i]? = some o → i < m → o.dst = some d → creates o.op = true → (∀ j d' y, j ≠ i → vs[j]? = some (d', y) → y.allLeaf (freeLeaf d) = true) ∧ ∀ j, allLeafs (freeLeaf d) (C j) = true) :
    ∀ (fuel : Nat) (listed : Array Bool) (U : List Nat) (τ : St) (G : Nat → Status) (a : Act) (w : World), Left ops listed U → U.length = fuel → (∀ i, m ≤ i → listed.getD i false = false) →
      Closed ops (fun k => listed.getD k false) → AtE vs E C i0 (fun i => listed.getD i false) σ τ → SRel G0 w0 τ G a w →
      (∀ i o d, ops[i]? = some o → i < m → o.dst = some d → creates o.op = true → listed.getD i false = false → τ.free d = true) → wpAny P .any ops Q fuel listed a w := by
  have posAll : ∀ {L : Nat → Bool}, (∀ i, i < m → L i = true) → posE E L = E.length := fun {L} h => by
    unfold posE
    rw [List.filter_eq_self.2 fun e he => h e (hE.lt e he)]
  have done : ∀ {τ G a w} {L : Nat → Bool}, AtE vs E C i0 L σ τ → (∀ i, i < m → L i = true) → SRel G0 w0 τ G a w → SRel G0 w0 (puts { σ with boxes := σ.boxes.set i0 (C E.length) } vs) G a w := by
    intro τ G a w L hat hall h
    have hpa := puts_at m vs { σ with boxes := σ.boxes.set i0 (C E.length) } hap
    rw [List.take_of_length_le (by omega)] at hpa
    refine h.slotsEq (by rw [hpa.n, hat.n]) (by rw [hpa.boxes, hat.boxes, posAll hall]) fun s => ?_
    by_cases hs : ∀ (i d : Nat) (y : AV), vs[i]? = some (d, y) → d ≠ s
    · rw [hpa.rest s hs, hat.rest s hs]; rfl
    · have : ∃ (i : Nat) (y : AV), vs[i]? = some (s, y) := by
        apply Classical.byContradiction
        intro hcon
        exact hs fun i d y hi hds => hcon ⟨i, y, by rw [← hds]; exact hi⟩
      obtain ⟨i, y, hi⟩ := this
      have hil : i < m := by rw [← hvl]; exact (List.getElem?_eq_some_iff.1 hi).1
      rw [hpa.dst i s y hi, hat.dst i s y hi]
      simp [hil, hall i hil]
  have done2 : ∀ {τ G a w} {L : Nat → Bool} {x dx : Nat} {yx : AV}, AtE vs E C i0 L σ τ → x ∉ E → vs[x]? = some (dx, yx) → (∀ i, i < m → i ≠ x → L i = true) → SRel G0 w0 τ G a w → SRel G0 w0 ((puts { σ with boxes := σ.boxes.set i0 (C E.length) } vs).put (some dx) .any) G a w := by
    intro τ G a w L x dx yx hat hxE hx hall h
    have hpa := puts_at m vs { σ with boxes := σ.boxes.set i0 (C E.length) } hap
    rw [List.take_of_length_le (by omega)] at hpa
    have hpos : posE E L = E.length := by
      unfold posE
      rw [List.filter_eq_self.2 fun e he => hall e (hE.lt e he) fun h' => hxE (h' ▸ he)]
    have h2 := h.reput (d := dx) (x := .any) (.froz (.any _))
    refine h2.slotsEq (by rw [put_n, put_n, hpa.n, hat.n]) (by rw [put_boxes, put_boxes, hpa.boxes, hat.boxes, hpos]) fun s => ?_
    rw [get_put, get_put]
    by_cases hds : dx = s
    · rw [if_pos hds, if_pos hds]
    rw [if_neg hds, if_neg hds]
    by_cases hs : ∀ (i d : Nat) (y : AV), vs[i]? = some (d, y) → d ≠ s
    · rw [hpa.rest s hs, hat.rest s hs]; rfl
    · have : ∃ (i : Nat) (y : AV), vs[i]? = some (s, y) := by
        apply Classical.byContradiction
        intro hcon
        exact hs fun i d y hi hds => hcon ⟨i, y, by rw [← hds]; exact hi⟩
      obtain ⟨i, y, hi⟩ := this
      have hil : i < m := by rw [← hvl]; exact (List.getElem?_eq_some_iff.1 hi).1
      have hix : i ≠ x := fun h' => by subst h'; rw [hx] at hi; cases hi; exact hds rfl
      rw [hpa.dst i s y hi, hat.dst i s y hi]
      simp [hil, hall i hil hix]
  intro fuel
  induction fuel with
  | zero =>
    intro listed U τ G a w hl hU hm hc hat h _
    have hUn : U = [] := List.eq_nil_of_length_eq_zero hU
    subst hUn
    have hall : ∀ i, i < ops.size → listed.getD i false = true := fun i hi => by
      cases hb : listed.getD i false
      · have := (hl.mem i).2 ⟨hi, hb⟩; simp at this
      · rfl
    have hms : m = ops.size := by
      apply Classical.byContradiction
      intro hne
      have := hp.le
      have h1 := hall m (by omega)
      rw [hm m (Nat.le_refl m)] at h1; cases h1
    exact (tree_run (P := P) h0 hp.lt hN hQ tr true (List.range m) listed [] _ G a w hp.tr hl hc (fun i hi => by rw [hall i hi]; simp; omega) hK (done hat (fun i hi => hall i (by have := hp.le; omega)) h)).1 rfl
  | succ fuel ih =>
    intro listed U τ G a w hl hU hm hc hat h hfree
    have hUn : U ≠ [] := by intro h; rw [h] at hU; simp at hU
    by_cases hdone : ∀ i, i < m → listed.getD i false = true
    · have := (tree_run (P := P) h0 hp.lt hN hQ tr true (List.range m) listed U _ G a w hp.tr hl hc (fun i hi => by
        simp only [List.contains_iff_mem, List.mem_range]
        refine ⟨fun hb => ?_, fun hlt => hdone i hlt⟩
        apply Classical.byContradiction
        intro hge
        rw [hm i (by omega)] at hb; cases hb) hK (done hat hdone h)).1 rfl
      rw [hU] at this; exact this
    by_cases hsg : ∃ x t, sg = some (x, t) ∧ ∀ i, i < m → i ≠ x → listed.getD i false = true
    · obtain ⟨x, t, rfl, hall⟩ := hsg
      obtain ⟨hxm, hxE, hxL, _, ht⟩ := hp.sg x t rfl
      obtain ⟨o, ho⟩ : ∃ p, ops[x]? = some p := ⟨ops[x]'(by have := hp.le; omega), by have := hp.le; simp [show x < ops.size by omega]⟩
      obtain ⟨dx, yx, hv, hd, _, _⟩ := hst x o hxm ho
      have hxf : listed.getD x false = false := by
        cases hb : listed.getD x false
        · rfl
        · exact absurd (fun i hi => by by_cases hix : i = x; · rw [hix]; exact hb
                                       · exact hall i hi hix) hdone
      simp only [sgA, ho] at hK2
      obtain ⟨d', hd', hK2⟩ := hK2
      rw [hd] at hd'; cases hd'
      have := (tree_run (P := P) h0 hp.lt hN hQ t true _ listed U _ G a w ht hl hc (fun i hi => by
        simp only [List.contains_iff_mem, List.mem_filter, List.mem_range, Bool.not_eq_true', beq_eq_false_iff_ne, ne_eq]
        refine ⟨fun hb => ⟨?_, fun hix => by rw [hix, hxf] at hb; cases hb⟩, fun ⟨h1, h2⟩ => hall i h1 h2⟩
        apply Classical.byContradiction
        intro hge
        rw [hm i (by omega)] at hb; cases hb) hK2 (done2 hat hxE hv hall h)).1 rfl
      rw [hU] at this; exact this
    · suffices key : ∀ i, i ∈ Region.ready .any ops listed → i < m → (i ∈ LF → wpAny P .any ops Q (fuel + 1) listed a w) ∧ (i ∉ LF → Go.wpOp P ops Q i (wpAny P .any ops Q fuel (listed.setIfInBounds i true)) a w) by
        by_cases hLF : ∃ j, j ∈ LF ∧ j ∈ Region.ready .any ops listed
        · obtain ⟨j, h1, h2⟩ := hLF
          exact (key j h2 (hp.fr j h1).1).1 h1
        · refine ⟨fun hr => absurd hr (some_ready hl hp.lt hUn), fun i hi => (key i hi ?_).2 fun hiL => hLF ⟨i, hiL, hi⟩⟩
          obtain ⟨o, ho, h1, h2⟩ := (ready_iff hl.size).1 hi
          apply Classical.byContradiction
          intro hge
          have hall : ∀ j, j < m → sgIs sg j = false → listed.getD j false = true := fun j => by
            refine Nat.strongRecOn (motive := fun j => j < m → sgIs sg j = false → listed.getD j false = true) j ?_
            intro j ihj hjm hjs
            by_cases hjL : j ∈ LF
            · obtain ⟨p, hpj⟩ : ∃ p, ops[j]? = some p := ⟨ops[j]'(by have := hp.le; omega), by have := hp.le; simp [show j < ops.size by omega]⟩
              cases hb : listed.getD j false
              · exact absurd ⟨j, hjL, (ready_iff hl.size).2 ⟨p, hpj, hb, fun k hk => by
                  have := hp.lt j p hpj k hk
                  refine ihj k this (by omega) ?_
                  cases hsg' : sg with
                  | none => rfl
                  | some q =>
                    obtain ⟨x, t⟩ := q
                    have := (hp.sg x t hsg').2.2.2.1 j hjL p hpj
                    simp only [sgIs, beq_eq_false_iff_ne, ne_eq]
                    exact fun hkx => this (hkx ▸ hk)⟩⟩ hLF
              · rfl
            · exact reach_listed hc ops.size i j o ho h2 (hp.tail i o ho (by omega) j hjm hjL hjs)
          cases hsg' : sg with
          | none => exact hdone fun j hj => hall j hj (by rw [hsg']; rfl)
          | some q =>
            obtain ⟨x, t⟩ := q
            exact hsg ⟨x, t, hsg', fun j hj hjx => hall j hj (by rw [hsg']; simpa [sgIs] using hjx)⟩
      intro i hi him
      obtain ⟨o, ho, h1, h2⟩ := (ready_iff hl.size).1 hi
      have hlt := (Array.getElem?_eq_some_iff.1 ho).1
      obtain ⟨d, y, hv, hd, hdn, hstep⟩ := hst i o him ho
      obtain ⟨d', hd', hself, hpair⟩ := hp.head i o ho him
      rw [hd] at hd'; cases hd'
      have hmem : i ∈ U := (hl.mem i).2 ⟨hlt, h1⟩
      obtain ⟨l1, l2⟩ := hl.step hmem
      have hsz : i < listed.size := by rw [hl.size]; exact hlt
      have hsame : ∀ s ∈ slotsG ops o, (puts σ (vs.take i)).get s = τ.get s := by
        intro s hsm
        have hpa := puts_at i vs σ hap
        by_cases hs : ∀ (i d : Nat) (y : AV), vs[i]? = some (d, y) → d ≠ s
        · rw [hpa.rest s hs, hat.rest s hs]
        · have : ∃ (j : Nat) (y : AV), vs[j]? = some (s, y) := by
            apply Classical.byContradiction
            intro hcon
            exact hs fun i d y hi hds => hcon ⟨i, y, by rw [← hds]; exact hi⟩
          obtain ⟨j, y', hj⟩ := this
          have hjl : j < m := by rw [← hvl]; exact (List.getElem?_eq_some_iff.1 hj).1
          obtain ⟨p, hpj⟩ : ∃ p, ops[j]? = some p := ⟨ops[j]'(by have := hp.le; omega), by have := hp.le; simp [show j < ops.size by omega]⟩
          obtain ⟨d'', y'', hv'', hds'', _⟩ := hst j p hjl hpj
          rw [hj] at hv''; cases hv''
          have hji : j ≠ i := fun hji => by subst hji; rw [hv] at hj; cases hj; exact hself hsm
          have hre := (hpair j p s hjl hji hpj hds'').2 hsm
          rw [hpa.dst j s y' hj, hat.dst j s y' hj]
          by_cases hjlt : j < i
          · rw [if_pos hjlt] at hre
            have := reach_listed hc ops.size i j o ho h2 hre
            simp [hjlt, this]
          · rw [if_neg hjlt] at hre
            have hjf : listed.getD j false = false := by
              cases hb : listed.getD j false
              · rfl
              · have := reach_listed hc ops.size j i p hpj (fun k hk => hc j p hpj hb k hk) hre
                rw [h1] at this; cases this
            simp [hjlt, hjf]
      have hevs : ∀ x ∈ o.op.operands, (puts σ (vs.take i)).ev x = τ.ev x := by
        intro x hx
        cases x with
        | tmp s =>
          simp only [St.ev]
          refine hsame s (List.mem_append.2 (.inr ?_))
          unfold slotsOf
          exact List.mem_filterMap.2 ⟨.tmp s, by simpa using hx, rfl⟩
        | const v => rfl
        | func f => rfl
        | global g => rfl
      -- the frame behind the step
      have hLi : (listed.setIfInBounds i true).getD i false = true := by rw [set_getD hsz]; simp
      have hLj : ∀ j, j ≠ i → (listed.setIfInBounds i true).getD j false = listed.getD j false := fun j hj => by rw [set_getD hsz, if_neg (Ne.symm hj)]
      have hpos := posE_step (L := fun k => listed.getD k false) (L' := fun k => (listed.setIfInBounds i true).getD k false) hE.nodup hLj h1 hLi
      have hgo : ∀ {τ' G' a' w'}, τ'.n = τ.n → τ'.tmps = putT τ.tmps d y → τ'.boxes = σ.boxes.set i0 (C (posE E fun k => (listed.setIfInBounds i true).getD k false)) → SRel G0 w0 τ' G' a' w' → wpAny P .any ops Q fuel (listed.setIfInBounds i true) a' w' := by
        intro τ' G' a' w' e1 e2 e3 hs'
        have hget : ∀ s, τ'.get s = if d = s then y else τ.get s := fun s => by unfold St.get; rw [e2, lookT_put]
        refine ih _ _ τ' G' _ _ l1 (by omega) (fun j hj => ?_) (hc.step hsz ho h2) ⟨by rw [e1, hat.n], e3, fun j d' y' hj => ?_, fun s hs => ?_⟩ hs' (fun j oj dj hoj hjm hdj hcr hjf => ?_)
        · rw [set_getD hsz, if_neg (by omega)]; exact hm j hj
        · rw [hget]
          by_cases hij : j = i
          · subst hij; rw [hv] at hj; cases hj; simp [hLi]
          · rw [if_neg (hap i j d y d' y' hv hj (Ne.symm hij)), hat.dst j d' y' hj, hLj j hij]
        · rw [hget, if_neg (hs i d y hv), hat.rest s hs]
        · by_cases hij : j = i
          · subst hij; rw [hLi] at hjf; cases hjf
          · rw [hLj j hij] at hjf
            have hf := hfree j oj dj hoj hjm hdj hcr hjf
            obtain ⟨f1, f2⟩ := hfr j oj dj hoj hjm hdj hcr
            simp only [St.free, Bool.and_eq_true, decide_eq_true_eq] at hf ⊢
            refine ⟨hf.1, by rw [e2]; exact freeT_put (f1 i d y (Ne.symm hij) hv) hf.2.1, ?_⟩
            rw [e3]
            have hfb := hf.2.2
            rw [hat.boxes] at hfb
            have hset : ∀ (bx : List (List AV)) (k : Nat) (c c' : List AV), freeB dj (bx.set k c) = true → allLeafs (freeLeaf dj) c' = true → freeB dj (bx.set k c') = true := by
              intro bx
              induction bx with
              | nil => intro k c c' _ _; rfl
              | cons b bx ihb =>
                intro k c c' h1 h2
                cases k with
                | zero => simp only [List.set_cons_zero, freeB, Bool.and_eq_true] at h1 ⊢; exact ⟨h2, h1.2⟩
                | succ k => simp only [List.set_cons_succ, freeB, Bool.and_eq_true] at h1 ⊢; exact ⟨h1.1, ihb k c c' h1.2 h2⟩
            exact hset _ _ _ _ hfb (f2 _)
      refine ⟨fun hiL => ?_, fun hnL => ?_⟩
      · obtain ⟨_, hiE, hfr'⟩ := hp.fr i hiL
        obtain ⟨d', hfront⟩ := hfr' o ho
        obtain rfl : d = d' := by have := hfront.dst; rw [hd] at this; simpa using this
        rw [if_neg hiE, if_pos hiL] at hstep
        rw [if_neg hiE, Nat.add_zero] at hpos
        obtain ⟨v, hv', hex⟩ := hstep G a w h.good (fun x hx => by rw [hevs x hx]; exact h.ev x)
        have hs' := h.add (.refl G w) h.good (fun _ _ h => h) (d := some d) (x := y) (v := v) (by simp [dstOk, hat.n, hdn]) hv'
        exact front_run hN hfront fuel listed a w v hl.size hc hi hex (hgo (τ' := τ.put (some d) y) rfl rfl (by rw [put_boxes, hat.boxes, hpos]) hs')
      by_cases hiE : i ∈ E
      case neg =>
        rw [if_neg hiE, if_neg hnL] at hstep
        rw [if_neg hiE, Nat.add_zero] at hpos
        have hops : ∀ x ∈ o.op.operands, ∀ {G}, SRel G0 w0 τ G a w → VRel G w ((puts σ (vs.take i)).ev x) (a.eval x) := fun x hx G h => by rw [hevs x hx]; exact h.ev x
        have hgo2 : ∀ {G' a' w'}, SRel G0 w0 (τ.put (some d) y) G' a' w' → wpAny P .any ops Q fuel (listed.setIfInBounds i true) a' w' := fun hs' =>
          hgo (τ' := τ.put (some d) y) rfl rfl (by rw [put_boxes, hat.boxes, hpos]) hs'
        have hrun : StepOk P o d (puts σ (vs.take i)).ev (σ.boxes.set i0 (blankC E (C 0))) y → o.wp P a w (wpAny P .any ops Q fuel (listed.setIfInBounds i true)) Q := by
          intro hstep
          have key : ∀ {G}, SRel G0 w0 τ G a w → (creates o.op = true → Fresh d G) → o.wp P a w (wpAny P .any ops Q fuel (listed.setIfInBounds i true)) Q := fun {G} h hfr' =>
            hstep _ G a w h.good ((show BRel _ G w (σ.boxes.set i0 (C (posE E fun k => listed.getD k false))) from by rw [← hat.boxes]; exact h.boxes).blank (hC _) fun hE0 => by rw [hE0]; rfl) hfr' (fun x hx => hops x hx h) _ _ fun v w' G' g1 g2 g3 g4 =>
              hgo2 (by rw [hd]; exact h.add g2 g3 g4.boxes (by simp [dstOk, hat.n, hdn]) g1)
          by_cases hcr : creates o.op = true
          · obtain ⟨hs, hf⟩ := h.fresh (hfree i o d ho him hd hcr h1) h0
            exact key hs fun _ => hf
          · exact key h fun hc' => absurd hc' hcr
        simp only [Go.wpOp, ho]
        rcases hstep with ⟨hg, hstep⟩ | ⟨j, want, g, c, hg, hgs, hgv, hc2⟩ | ⟨j, want, g, vs', hg, hgs, hgv, rfl⟩
        · rw [if_pos (by simp [Region.wanted, hg])]
          exact .inl (hrun hstep)
        · have hgm : g ∈ slotsG ops o := by simp [slotsG, guardS, hg, hgs]
          have hv2 := h.slots g
          rw [← hsame g hgm, hgv] at hv2
          have hy := yielded_bool hgs hv2.sc_inv
          rcases hc2 with ⟨rfl, hstep⟩ | ⟨hne, rfl⟩
          · rw [if_pos (by simp [Region.wanted, hg, hy])]
            exact .inl (hrun hstep)
          · rw [if_neg (by simp [Region.wanted, hg, hy, hne])]
            have hs' := h.add (.refl G w) h.good (fun _ _ h => h) (d := o.dst) (x := .sc undef) (v := undef) (by rw [hd]; simp [dstOk, hat.n, hdn]) (.froz (.sc _))
            exact hgo2 (G' := G) (by rw [hd] at hs' ⊢; exact hs')
        · have hgm : g ∈ slotsG ops o := by simp [slotsG, guardS, hg, hgs]
          have hv2 := h.slots g
          rw [← hsame g hgm, hgv] at hv2
          have hy := yielded_none hgs hv2.sc_inv
          rw [if_neg (by simp [Region.wanted, hg, hy])]
          have hs' := h.add (.refl G w) h.good (fun _ _ h => h) (d := o.dst) (x := .sc undef) (v := undef) (by rw [hd]; simp [dstOk, hat.n, hdn]) (.froz (.sc _))
          exact hgo2 (G' := G) (by rw [hd] at hs' ⊢; exact hs')
      case pos =>
        rw [if_pos hiE] at hstep
        rw [if_pos hiE] at hpos
        obtain ⟨hg, fid, args, As, r, c1, hop, hpb, hnt, hnt0, hcon, hr1, hr2, hye, hce⟩ := hstep
        -- all effects ahead of it are listed, none behind it is
        have hposi : posE E (fun k => listed.getD k false) = (E.filter fun e => decide (e < i)).length := by
          unfold posE
          congr 1
          refine List.filter_congr fun e he => ?_
          rcases Nat.lt_trichotomy e i with hlt' | heq | hgt
          · have := reach_listed hc ops.size i e o ho h2 (hE.chain e he i hiE hlt')
            simp [hlt', this]
          · subst heq; simp [h1]
          · have hnl : listed.getD e false = false := by
              cases hb : listed.getD e false
              · rfl
              · have hel := hE.lt e he
                obtain ⟨p, hpe⟩ : ∃ p, ops[e]? = some p := ⟨ops[e]'(by have := hp.le; omega), by have := hp.le; simp [show e < ops.size by omega]⟩
                have := reach_listed hc ops.size e i p hpe (fun k hk => hc e p hpe hb k hk) (hE.chain i hiE e he hgt)
                rw [h1] at this; cases this
            simp [hnl]; omega
        have hargs : args.toList.map (puts σ (vs.take i)).ev = args.toList.map τ.ev := by
          refine List.map_congr_left fun x hx => hevs x ?_
          simp [hop, Op.operands, Call.operands]
          exact .inr (by simpa using hx)
        rw [hargs] at hpb hnt hcon
        have hcr : creates o.op = true := by simp [creates, hop]
        have hfd := hfree i o d ho him hd hcr h1
        -- the variable is there
        have hva : ∀ G, SRel G0 w0 τ G a w → PW (VRel G w) (args.toList.map τ.ev) (args.map a.eval).toList := fun G hs => by
          rw [Array.toList_map]
          refine ⟨by simp, fun j x u hx hu => ?_⟩
          simp only [List.getElem?_map] at hx hu
          cases hj : args.toList[j]? with
          | none => simp [hj] at hx
          | some c => simp [hj] at hx hu; subst hx; subst hu; exact hs.ev c
        have hi0 : i0 < σ.boxes.length := by
          obtain ⟨b, hb⟩ := pbss_real (i := i0) _ _ (hva G h) (dedup_mem _ (by rw [hpb]; simp))
          have := h.blt b i0 hb
          rw [hat.boxes] at this; simpa using this
        have hbx : getAll τ.boxes [i0] = some [C (posE E fun k => listed.getD k false)] := by
          simp only [getAll, hat.boxes, List.getElem?_set, if_true, hi0]
        have hlen : τ.boxes.length = σ.boxes.length := by rw [hat.boxes]; simp
        rw [← hposi] at hcon hnt0 hce
        have hcall : CallB P fid (args.toList.map τ.ev) [i0] d τ fun σ' => σ'.n = τ.n ∧ σ'.tmps = putT τ.tmps d y ∧ σ'.boxes = σ.boxes.set i0 (C (posE E (fun k => listed.getD k false) + 1)) := by
          refine ⟨hfd, by rw [hat.n]; exact hdn, hnt, rfl, _, hbx, hnt0, hcon.mono ?_⟩
          rintro r' bx ⟨rfl, rfl⟩
          refine ⟨hr1, hr2, rfl, by rw [hlen, ← hye]; rfl, ?_⟩
          rw [put_boxes]
          have hce' : mapB (outLeaf (64 * (d + 1)) [i0] σ.boxes.length) [c1] = [C (posE E (fun k => listed.getD k false) + 1)] := hce.symm
          simp only [List.length_singleton, List.take_succ_cons, List.take_zero, List.drop_succ_cons, List.drop_nil, hlen, hce', mapB, setAll, List.append_nil]
          rw [hat.boxes, List.set_set]
        obtain ⟨⟨fn, hfn, hname, hbody⟩, hcalls⟩ := CallB.sound hcall h h0 hva (fun G hs j hj => by
          simp at hj; subst hj
          exact pbss_real _ _ (hva G hs) (dedup_mem _ (by rw [hpb]; simp)))
        have hrun : (execOp a.eval o).run P w = .ok (.enter fid (args.map a.eval)) w := by
          have hname' : ¬ fn.name = "runtime.NumGoroutine" := by simpa using hname
          have hbody' : ¬ fn.body = none := by intro h; rw [h] at hbody; simp at hbody
          have hfe : a.eval (.func fid) = .func (.func fid) #[] #[] := rfl
          simp [execOp, hop, resolve, hfe, Deferred.ofValue, invoke, callFunc, hfn, hname', hbody']
        simp only [Go.wpOp, ho]
        rw [if_pos (by simp [Region.wanted, hg])]
        refine .inl ?_
        unfold Oper.wp
        rw [hrun, Oper.upon_enter]
        refine hcalls.mono ?_
        rintro e w' ⟨v, σ', G', rfl, ⟨e1, e2, e3⟩, hs'⟩
        exact hgo e1 e2 (by rw [e3, hpos]) (by rw [hd]; exact hs')
end

/-! ### the walk -/
/-- an effect, as the walk meets it -/
def EffK (P : Program) (n0 i0 : Nat) (o : Oper) (σ : St) (c : List AV) (K : St → List AV → Prop) : Prop :=
  ∃ d y c', o.dst = some d ∧ d < σ.n ∧ EffC P ⟨0, [], List.replicate n0 []⟩ i0 o d σ.ev c y c' ∧ c'.length = c.length ∧ allLeafs noTag c' = true ∧ K (σ.put (some d) y) c'

/-- an operation that only names a place -/
def frB (P : Program) (o : Oper) (σ : St) (K : St → Prop) : Prop := frA P (some o) σ K
theorem frB_sound {P : Program} {o : Oper} {σ : St} {K : St → Prop} (h : frB P o σ K) : ∃ d y, o.dst = some d ∧ d < σ.n ∧ K (σ.put (some d) y) ∧ FrontC P o σ.ev y := by
  unfold frB frA at h
  split at h
  · rename_i d op T pos af g hj
    cases hj
    obtain ⟨hdn, h⟩ := h
    obtain ⟨y, hK, hy⟩ := frontW_sound' (p := ⟨some d, op, T, pos, af, g⟩) h
    exact ⟨d, y, rfl, hdn, hK, hy⟩
  · exact h.elim

def headE (P : Program) (ops : Array Oper) (n0 i0 : Nat) (E LF : List Nat) : Nat → List Oper → St → List AV → (St → List AV → Prop) → Prop
  | _, [], σ, c, K => K σ c
  | k, o :: r, σ, c, K => if E.contains k = true then EffK P n0 i0 o σ c fun σ' c' => headE P ops n0 i0 E LF (k + 1) r σ' c' K else if LF.contains k = true then frB P o σ fun σ' => headE P ops n0 i0 E LF (k + 1) r σ' c K else headG P ops o σ fun σ' => headE P ops n0 i0 E LF (k + 1) r σ' c K

def cntE (E : List Nat) (i : Nat) : Nat := posE E fun e => decide (e < i)
theorem cntE_succ {E : List Nat} (hn : E.Nodup) (i : Nat) : cntE E (i + 1) = cntE E i + if i ∈ E then 1 else 0 :=
  posE_step hn (fun j hj => by simp only [decide_eq_decide]; omega) (by simp) (by simp)

section
variable {P : Program} {ops : Array Oper} {n0 i0 : Nat} {E LF : List Nat}

theorem headE_vals (hn : E.Nodup) : ∀ (l : List Oper) (k : Nat) (σ : St) (c : List AV) (K : St → List AV → Prop), headE P ops n0 i0 E LF k l σ c K → allLeafs noTag c = true → ∃ (vs : List (Nat × AV)) (C : Nat → List AV), vs.length = l.length ∧ (∀ j, j ≤ cntE E k → C j = c) ∧ (∀ j, (C j).length = c.length ∧ allLeafs noTag (C j) = true) ∧ K (puts σ vs) (C (cntE E (k + l.length))) ∧
    ∀ i o, l[i]? = some o → ∃ d y, vs[i]? = some (d, y) ∧ o.dst = some d ∧ d < σ.n ∧
      if k + i ∈ E then EffC P ⟨0, [], List.replicate n0 []⟩ i0 o d (puts σ (vs.take i)).ev (C (cntE E (k + i))) y (C (cntE E (k + i) + 1)) else if k + i ∈ LF then FrontC P o (puts σ (vs.take i)).ev y else StepG P ops o d (puts σ (vs.take i)) σ.boxes y
  | [], k, σ, c, K, h, hc => ⟨[], fun _ => c, rfl, fun _ _ => rfl, fun _ => ⟨rfl, hc⟩, h, fun i o hi => by simp at hi⟩
  | o :: l, k, σ, c, K, h, hc => by
    unfold headE at h
    have hcs := cntE_succ hn k
    by_cases hk : k ∈ E
    · rw [if_pos (by simpa using hk)] at h
      rw [if_pos hk] at hcs
      obtain ⟨d, y, c', h1, h2, h3, h4, h5, h6⟩ := h
      obtain ⟨vs, C, g1, g2, g3, g4, g5⟩ := headE_vals hn l (k + 1) _ c' K h6 h5
      refine ⟨(d, y) :: vs, fun j => if j ≤ cntE E k then c else C j, by simp [g1], fun j hj => if_pos hj, fun j => ?_, ?_, fun i o' hi => ?_⟩
      · simp only
        split
        · exact ⟨rfl, hc⟩
        · exact ⟨(g3 j).1.trans h4, (g3 j).2⟩
      · simp only [puts, List.length_cons]
        rw [show k + (l.length + 1) = k + 1 + l.length by omega]
        have : ¬ cntE E (k + 1 + l.length) ≤ cntE E k := by
          have : ∀ t, cntE E (k + 1) ≤ cntE E (k + 1 + t) := fun t => by
            induction t with
            | zero => exact Nat.le_refl _
            | succ t ih => have := cntE_succ hn (k + 1 + t); rw [show k + 1 + (t + 1) = k + 1 + t + 1 by omega]; omega
          have := this l.length; omega
        rw [if_neg this]; exact g4
      · cases i with
        | zero =>
          simp at hi; subst hi
          refine ⟨d, y, rfl, h1, h2, ?_⟩
          rw [Nat.add_zero, if_pos hk]
          dsimp only
          rw [if_pos (Nat.le_refl _), if_neg (by omega), ← hcs, g2 _ (Nat.le_refl _)]
          exact h3
        | succ i =>
          obtain ⟨d', y', k1, k2, k3, k4⟩ := g5 i o' (by simpa using hi)
          rw [put_n] at k3
          refine ⟨d', y', by simpa using k1, k2, k3, ?_⟩
          rw [show k + (i + 1) = k + 1 + i by omega]
          have hge : ∀ t, cntE E (k + 1) ≤ cntE E (k + 1 + t) := fun t => by
            induction t with
            | zero => exact Nat.le_refl _
            | succ t ih => have := cntE_succ hn (k + 1 + t); rw [show k + 1 + (t + 1) = k + 1 + t + 1 by omega]; omega
          have := hge i
          dsimp only
          rw [if_neg (show ¬ cntE E (k + 1 + i) ≤ cntE E k by omega), if_neg (show ¬ cntE E (k + 1 + i) + 1 ≤ cntE E k by omega)]
          rw [put_boxes] at k4
          exact k4
    · rw [if_neg (by simpa using hk)] at h
      rw [if_neg hk, Nat.add_zero] at hcs
      obtain ⟨d, y, h1, h2, h3, h4⟩ : ∃ d y, o.dst = some d ∧ d < σ.n ∧ headE P ops n0 i0 E LF (k + 1) l (σ.put (some d) y) c K ∧ if k ∈ LF then FrontC P o σ.ev y else StepG P ops o d σ σ.boxes y := by
        by_cases hkL : k ∈ LF
        · rw [if_pos (by simpa using hkL)] at h
          obtain ⟨d, y, h1, h2, h3, h4⟩ := frB_sound h
          exact ⟨d, y, h1, h2, h3, by rw [if_pos hkL]; exact h4⟩
        · rw [if_neg (by simpa using hkL)] at h
          obtain ⟨d, y, h1, h2, h3, h4⟩ := headG_sound h
          exact ⟨d, y, h1, h2, h3, by rw [if_neg hkL]; exact h4⟩
      obtain ⟨vs, C, g1, g2, g3, g4, g5⟩ := headE_vals hn l (k + 1) _ c K h3 hc
      refine ⟨(d, y) :: vs, C, by simp [g1], fun j hj => g2 j (by omega), g3, ?_, fun i o' hi => ?_⟩
      · simp only [puts, List.length_cons]
        rw [show k + (l.length + 1) = k + 1 + l.length by omega]; exact g4
      · cases i with
        | zero =>
          simp at hi; subst hi
          refine ⟨d, y, rfl, h1, h2, ?_⟩
          rw [Nat.add_zero, if_neg hk]; exact h4
        | succ i =>
          obtain ⟨d', y', k1, k2, k3, k4⟩ := g5 i o' (by simpa using hi)
          rw [put_n] at k3
          rw [put_boxes] at k4
          refine ⟨d', y', by simpa using k1, k2, k3, ?_⟩
          rw [show k + (i + 1) = k + 1 + i by omega]; exact k4

/-- no other slot bears these tags -/
def freeBut (d : Nat) : List (Nat × AV) → Bool
  | [] => true
  | (s, v) :: r => (s == d || v.allLeaf (freeLeaf d)) && freeBut d r
def freeOthers (l : List (Nat × AV)) : List Nat → Bool
  | [] => true
  | d :: r => freeBut d l && freeOthers l r
theorem freeBut_look {d : Nat} : ∀ {l : List (Nat × AV)}, freeBut d l = true → ∀ s, s ≠ d → (lookT l s).allLeaf (freeLeaf d) = true
  | [], _, _, _ => rfl
  | (s', v) :: r, h, s, hs => by
    simp only [freeBut, Bool.and_eq_true, Bool.or_eq_true, beq_iff_eq] at h
    unfold lookT
    split
    · rename_i he
      rcases h.1 with h1 | h1
      · exact absurd (he.symm.trans h1) (by intro e; exact hs e)
      · exact h1
    · exact freeBut_look h.2 s hs
theorem freeOthers_mem {l : List (Nat × AV)} : ∀ {ds : List Nat}, freeOthers l ds = true → ∀ d ∈ ds, freeBut d l = true
  | d' :: r, h, d, hd => by
    simp only [freeOthers, Bool.and_eq_true] at h
    rcases List.mem_cons.1 hd with rfl | hd
    · exact h.1
    · exact freeOthers_mem h.2 d hd
theorem noTag_free {d : Nat} : ∀ (x : AV), noTag x = true → freeLeaf d x = true := fun x h => by
  cases x <;> simp [noTag, freeLeaf] at h ⊢
  all_goals (first | (unfold root; omega) | skip)
def nodupE : List Nat → Bool
  | [] => true
  | e :: r => !r.contains e && nodupE r
theorem nodupE_spec : ∀ {E : List Nat}, nodupE E = true → E.Nodup
  | [], _ => List.nodup_nil
  | e :: r, h => by
    simp only [nodupE, Bool.and_eq_true, Bool.not_eq_true'] at h
    exact List.nodup_cons.2 ⟨by simpa using h.1, nodupE_spec h.2⟩
def effOk (ops : Array Oper) (m : Nat) (E : List Nat) : Bool :=
  nodupE E && E.all (fun e => decide (e < m)) && E.all fun e => E.all fun e' => !decide (e < e') || reach ops ops.size e' e

/-- what the check of all says: LF name places and are taken as soon as they are ready; the tail is walked as the tree says -/
def lateOk (ops : Array Oper) (m : Nat) (E LF : List Nat) (tr : Tr) (sg : Option (Nat × Tr)) : Bool :=
  decide (m ≤ ops.size) && ((List.range ops.size).all (fun i => match ops[i]? with
    | none => false
    | some o => if i < m then headOkG ops m i o else (edges o).all (fun k => decide (k < i)) && (List.range m).all fun j => LF.contains j || (sgIs sg j || reach ops ops.size i j)) &&
  (LF.all (fun j => decide (j < m) && (!E.contains j && match ops[j]? with | none => false | some p => frontOk ops j p)) && (trOk ops true (List.range m) tr && match sg with
    | none => true
    | some (x, t) => decide (x < m) && (!E.contains x && (!LF.contains x && ((LF.all fun j => match ops[j]? with | none => false | some p => !(edges p).contains x) && trOk ops true ((List.range m).filter fun i => !(i == x)) t))))))
theorem lateOk_plan {ops : Array Oper} {m : Nat} {E LF : List Nat} {tr : Tr} {sg : Option (Nat × Tr)} (h : lateOk ops m E LF tr sg = true) : PlanL ops m E LF tr sg := by
  simp only [lateOk, Bool.and_eq_true, decide_eq_true_eq, List.all_eq_true, List.mem_range, Bool.not_eq_true'] at h
  obtain ⟨h1, h2, h3, h4, h5⟩ := h
  have hof : ∀ i o, ops[i]? = some o → (if i < m then headOkG ops m i o else (edges o).all (fun k => decide (k < i)) && (List.range m).all fun j => LF.contains j || (sgIs sg j || reach ops ops.size i j)) = true := fun i o ho => by
    have := h2 i (Array.getElem?_eq_some_iff.1 ho).1
    rw [ho] at this; simpa using this
  refine ⟨h1, fun i o ho k hk => ?_, fun i o ho hi => ?_, fun i o ho hi j hj hjL hjs => ?_, fun j hj => ⟨(h3 j hj).1, by simpa using (h3 j hj).2.1, fun p hp => ?_⟩, h4, fun x t hsg => ?_⟩
  · have := hof i o ho
    split at this
    · simp only [headOkG, Bool.and_eq_true, List.all_eq_true, decide_eq_true_eq] at this
      exact this.1 k hk
    · simp only [Bool.and_eq_true, List.all_eq_true, decide_eq_true_eq] at this
      exact this.1 k hk
  · have := hof i o ho
    rw [if_pos hi] at this
    simp only [headOkG, Bool.and_eq_true] at this
    obtain ⟨_, g3⟩ := this
    split at g3
    · cases g3
    · rename_i d hd
      simp only [Bool.and_eq_true, List.all_eq_true, List.mem_range, Bool.not_eq_true', Bool.or_eq_true, beq_iff_eq] at g3
      refine ⟨d, hd, by simpa using g3.1, fun j p s hj hji hp hs => ?_⟩
      have := (g3.2 j hj).resolve_left hji
      simp only [hp, hs, Bool.and_eq_true, bne_iff_ne, ne_eq, Bool.or_eq_true, Bool.not_eq_true'] at this
      refine ⟨this.1, fun hm => ?_⟩
      have h' := this.2.resolve_left (by simpa using hm)
      split at h'
      · rename_i hlt; rw [if_pos hlt]; exact h'
      · rename_i hlt; rw [if_neg hlt]; exact h'
  · have := hof i o ho
    rw [if_neg (by omega)] at this
    simp only [Bool.and_eq_true, List.all_eq_true, List.mem_range, Bool.or_eq_true] at this
    exact ((this.2 j hj).resolve_left (by simpa using hjL)).resolve_left (by rw [hjs]; simp)
  · have := (h3 j hj).2.2
    rw [hp] at this
    exact frontOk_front hp this
  · subst hsg
    simp only [Bool.and_eq_true, decide_eq_true_eq, Bool.not_eq_true', List.all_eq_true] at h5
    refine ⟨h5.1, by simpa using h5.2.1, by simpa using h5.2.2.1, fun j hj p hp => ?_, h5.2.2.2.2⟩
    have := h5.2.2.2.1 j hj
    rw [hp] at this
    simpa using this

theorem puts_eq : ∀ (vs : List (Nat × AV)) (σ : St) (b : List (List AV)), puts { σ with boxes := b } vs = { puts σ vs with boxes := b }
  | [], σ, b => rfl
  | p :: r, σ, b => by simp only [puts]; exact puts_eq r (σ.put (some p.1) p.2) b
theorem puts_boxes : ∀ (vs : List (Nat × AV)) (σ : St), (puts σ vs).boxes = σ.boxes
  | [], σ => rfl
  | p :: r, σ => by simp only [puts]; rw [puts_boxes r, put_boxes]
theorem puts_ev (vs : List (Nat × AV)) (σ : St) (b : List (List AV)) : (puts { σ with boxes := b } vs).ev = (puts σ vs).ev := by
  funext x; rw [puts_eq]; cases x <;> rfl
theorem puts_get (vs : List (Nat × AV)) (σ : St) (b : List (List AV)) (s : Nat) : (puts { σ with boxes := b } vs).get s = (puts σ vs).get s := by rw [puts_eq]; rfl

/-- a drawn region, as the order that is drawn -/
def DrawN (P : Program) (ops : Array Oper) (σ : St) (K : St → Prop) : Prop :=
  ∀ (G0 : Orig) (w0 : World) (G : Nat → Status) (a : Act) (w : World) (Q : Exit → Act → World → Prop), True → SRel G0 w0 σ G a w → (∀ e a w, e ≠ .normal → ¬ Q e a w) → (∀ σ' G' a' w', K σ' → SRel G0 w0 σ' G' a' w' → Q .normal a' w') → wpAny P .any ops Q ops.size (Array.replicate ops.size false) a w
theorem DrawK.ofN {σ : St} {K : St → Prop} (hm : P.follows .mixedOrders = true) (h : DrawN P ops σ K) : DrawK P ops σ K := by
  intro G0 w0 G a w id Q h0 hs hQ
  exact wp_region_any hm (wpAny_normal _ _ _ _ (h G0 w0 G a _ _ h0 (hs.drawn (w.drawn + 1)) (fun e a w hn h => hn h.1) fun σ' G' a' w' hk hs => ⟨rfl, hQ σ' G' a' w' hk hs⟩))

/-- A DRAWN REGION with effects: the operations whose places are E call functions that write to variable i0, one after the other; the others of the first m only add. -/
theorem DrawN.eff {σ : St} {K : St → Prop} (i0 : Nat) (E LF : List Nat) (m : Nat) (tr : Tr) (sg : Option (Nat × Tr)) (c : List AV) (hok : lateOk ops m E LF tr sg = true) (hE : effOk ops m E = true) (hc : σ.boxes[i0]? = some c) (hnt : allLeafs noTag c = true) (hfree : freeAll σ (creators ops m) = true)
    (h : headE P ops σ.boxes.length i0 E LF 0 (ops.toList.take m) { σ with boxes := σ.boxes.set i0 (blankC E c) } c fun σ' c' => freeOthers σ'.tmps (creators ops m) = true ∧ treeA P ops tr { σ' with boxes := σ'.boxes.set i0 c' } K ∧ sgA P ops sg { σ' with boxes := σ'.boxes.set i0 c' } K) : DrawN P ops σ K := by
  intro G0 w0 G a w Q h0 hs hN hQ
  have hp := lateOk_plan hok
  simp only [effOk, Bool.and_eq_true, List.all_eq_true, decide_eq_true_eq, Bool.or_eq_true, Bool.not_eq_true', decide_eq_false_iff_not] at hE
  have hpE : PlanE ops m E := ⟨nodupE_spec hE.1.1, hE.1.2, fun e he e' he' hlt => (hE.2 e he e' he').resolve_left (fun hn => hn hlt)⟩
  obtain ⟨vs, C, hvl, hC0, hC, ⟨hoth, hK, hK2⟩, hst⟩ := headE_vals hpE.nodup _ _ _ _ _ h hnt
  have hlen : (ops.toList.take m).length = m := by have := hp.le; simp; omega
  rw [hlen] at hvl
  have hcm : cntE E (0 + (ops.toList.take m).length) = E.length := by
    rw [hlen, Nat.zero_add]
    unfold cntE posE
    rw [List.filter_eq_self.2 fun e he => by simpa using hpE.lt e he]
  rw [hcm] at hK hK2
  have hst' : ∀ i o, i < m → ops[i]? = some o → ∃ d y, vs[i]? = some (d, y) ∧ o.dst = some d ∧ d < σ.n ∧
      if i ∈ E then EffC P σ i0 o d (puts σ (vs.take i)).ev (C (E.filter fun e => decide (e < i)).length) y (C ((E.filter fun e => decide (e < i)).length + 1)) else if i ∈ LF then FrontC P o (puts σ (vs.take i)).ev y else StepG P ops o d (puts σ (vs.take i)) (σ.boxes.set i0 (blankC E (C 0))) y := fun i o hi ho => by
    obtain ⟨d, y, k1, k2, k3, k4⟩ := hst i o (by rw [List.getElem?_take, if_pos hi]; simpa using ho)
    refine ⟨d, y, k1, k2, k3, ?_⟩
    rw [Nat.zero_add] at k4
    split
    · rename_i hiE
      rw [if_pos hiE, puts_ev] at k4
      unfold EffC at k4 ⊢
      simp only [List.length_replicate] at k4
      exact k4
    · rename_i hiE
      rw [if_neg hiE] at k4
      rw [hC0 0 (Nat.zero_le _)]
      split
      · rename_i hiL
        rw [if_pos hiL, puts_ev] at k4
        exact k4
      rename_i hiL
      rw [if_neg hiL] at k4
      unfold StepG at k4 ⊢
      rw [puts_ev] at k4
      simp only [puts_get] at k4
      exact k4
  have hap : Apart vs := by
    intro i j d y d' y' h1 h2 hij
    have hil : i < m := by have := (List.getElem?_eq_some_iff.1 h1).1; omega
    have hjl : j < m := by have := (List.getElem?_eq_some_iff.1 h2).1; omega
    have hle := hp.le
    obtain ⟨oi, hoi⟩ : ∃ p, ops[i]? = some p := ⟨ops[i]'(by omega), by simp [show i < ops.size by omega]⟩
    obtain ⟨oj, hoj⟩ : ∃ p, ops[j]? = some p := ⟨ops[j]'(by omega), by simp [show j < ops.size by omega]⟩
    obtain ⟨_, _, k1, k2, _⟩ := hst' i oi hil hoi
    obtain ⟨_, _, k3, k4, _⟩ := hst' j oj hjl hoj
    rw [h1] at k1; cases k1
    rw [h2] at k3; cases k3
    obtain ⟨d1, e1, _, e2⟩ := hp.head j oj hoj hjl
    rw [k4] at e1; cases e1
    exact (e2 i oi d hil hij hoi k2).1
  have hs' := hs
  have hgd : ∀ i, (Array.replicate ops.size false).getD i false = false := fun i => by
    by_cases hi : i < ops.size <;> simp [hi]
  have hcrm : ∀ i o d, ops[i]? = some o → i < m → o.dst = some d → creates o.op = true → d ∈ creators ops m := fun i o d ho hi hd hcr => by
    unfold creators
    refine List.mem_filterMap.2 ⟨o, ?_, by rw [if_pos hcr]; exact hd⟩
    refine List.mem_of_getElem? (i := i) ?_
    rw [List.getElem?_take, if_pos hi]; simpa using ho
  have hset : ∀ c', (puts { σ with boxes := σ.boxes.set i0 (blankC E c) } vs).boxes.set i0 c' = σ.boxes.set i0 c' := fun c' => by rw [puts_boxes, List.set_set]
  refine head_runE (P := P) hp hpE h0 hN hQ hvl hap (fun j => by rw [(hC j).1, (hC 0).1]) ?_ ?_ hst' (fun i o d ho hi hd hcr => ⟨fun j d' y hji hj => ?_, fun j => allLeafs_mono noTag_free _ (hC j).2⟩) ops.size (Array.replicate ops.size false) (List.range ops.size) σ G a _ ⟨by simp, List.nodup_range, fun i => ?_⟩ (by simp) (fun i _ => hgd i)
    (fun i o _ hi => absurd (show (Array.replicate ops.size false).getD i false = true from hi) (by rw [hgd]; simp)) ⟨rfl, ?_, fun i d y _ => by simp only [hgd]; simp, fun _ _ => rfl⟩ hs' (fun i o d ho hi hd hcr _ => freeAll_mem hfree d (hcrm i o d ho hi hd hcr))
  · rw [hset] at hK
    rw [puts_eq] at hK ⊢
    exact hK
  · rw [hset] at hK2
    rw [puts_eq] at hK2 ⊢
    exact hK2
  · have hb := freeOthers_mem hoth d (hcrm i o d ho hi hd hcr)
    obtain ⟨oi, yi, k1, k2, _⟩ := hst' i o hi ho
    rw [hd] at k2; cases k2
    have hne := hap i j d yi d' y k1 hj (Ne.symm hji)
    have hpa := puts_at m vs { σ with boxes := σ.boxes.set i0 (blankC E c) } hap
    rw [List.take_of_length_le (by omega)] at hpa
    have hjm : j < m := by have := (List.getElem?_eq_some_iff.1 hj).1; omega
    have hg := hpa.dst j d' y hj
    simp only [hjm, decide_true, if_true] at hg
    rw [← hg]
    exact freeBut_look hb d' (Ne.symm hne)
  · rw [List.mem_range, hgd]; simp
  · have : posE E (fun i => (Array.replicate ops.size false).getD i false) = 0 := by
      unfold posE
      rw [List.filter_eq_nil_iff.2 fun e _ => by rw [hgd]; simp]; rfl
    rw [this, hC0 0 (Nat.zero_le _)]
    have hi := (List.getElem?_eq_some_iff.1 hc).1
    rw [← (List.getElem?_eq_some_iff.1 hc).2, List.set_getElem_self]
end

/-! ### the operations, in another row -/
def renO (π : List Nat) (o : Oper) : Oper := ⟨o.dst, o.op, o.type, o.pos, o.after.map fun e => ⟨π.idxOf e.on, e.ground⟩, o.guard.map fun p => (π.idxOf p.1, p.2)⟩
def permG (π : List Nat) (l : List Oper) : List Nat → List Oper
  | [] => []
  | i :: r => match l[i]? with
    | some o => renO π o :: permG π l r
    | none => []
def permOk (l : List Oper) (π : List Nat) : Bool :=
  π.length == l.length && (nodupE π && ((List.range l.length).all (fun i => π.contains i) && (π.all (fun i => decide (i < l.length)) && l.all fun o => (o.after.toList.all fun e => decide (e.on < l.length)) && match o.guard with | none => true | some p => decide (p.1 < l.length))))

theorem permG_len {π : List Nat} {l : List Oper} : ∀ {r : List Nat}, (∀ i ∈ r, i < l.length) → (permG π l r).length = r.length
  | [], _ => rfl
  | i :: r, h => by
    have hi := h i (List.mem_cons_self ..)
    simp only [permG, List.getElem?_eq_getElem hi, List.length_cons]
    rw [permG_len fun j hj => h j (List.mem_cons_of_mem _ hj)]
theorem permG_get {π : List Nat} {l : List Oper} : ∀ {r : List Nat}, (∀ i ∈ r, i < l.length) → ∀ (k i : Nat), r[k]? = some i → (permG π l r)[k]? = (l[i]?).map (renO π)
  | [], _, k, i, h => by simp at h
  | j :: r, h, k, i, hk => by
    have hj := h j (List.mem_cons_self ..)
    simp only [permG, List.getElem?_eq_getElem hj]
    cases k with
    | zero => simp at hk; subst hk; simp [List.getElem?_eq_getElem hj]
    | succ k => simpa using permG_get (fun j hj => h j (List.mem_cons_of_mem _ hj)) k i (by simpa using hk)

theorem edges_ren {π : List Nat} {o : Oper} : edges (renO π o) = (edges o).map fun k => π.idxOf k := by
  unfold edges renO
  simp only [Array.toList_map, List.filter_map, List.map_map]
  rfl

theorem wanted_ren {π : List Nat} {o : Oper} {y y' : Nat → Option Bool} (h : ∀ j b, o.guard = some (j, b) → y' (π.idxOf j) = y j) : Region.wanted (renO π o) y' = Region.wanted o y := by
  unfold Region.wanted renO
  cases hg : o.guard with
  | none => rfl
  | some p =>
    obtain ⟨j, b⟩ := p
    simp [h j b hg]

theorem wpAny_perm {P : Program} {ops ops' : Array Oper} {Q : Exit → Act → World → Prop} {π : List Nat} (hsz : ops'.size = ops.size) (hb : ∀ i, i < ops.size → π.idxOf i < ops.size) (hsur : ∀ k, k < ops.size → ∃ i, i < ops.size ∧ π.idxOf i = k) (hinj : ∀ i j, i < ops.size → j < ops.size → π.idxOf i = π.idxOf j → i = j)
    (hop : ∀ (i : Nat) (o : Oper), ops[i]? = some o → ops'[π.idxOf i]? = some (renO π o)) (hed : ∀ (i : Nat) (o : Oper), ops[i]? = some o → ∀ k ∈ edges o, k < ops.size) (hgd : ∀ (i : Nat) (o : Oper) (j : Nat) (b : Bool), ops[i]? = some o → o.guard = some (j, b) → j < ops.size) :
    ∀ (fuel : Nat) (listed listed' : Array Bool) (a : Act) (w : World), listed.size = ops.size → listed'.size = ops.size → (∀ i, i < ops.size → listed'.getD (π.idxOf i) false = listed.getD i false) → wpAny P .any ops' Q fuel listed' a w → wpAny P .any ops Q fuel listed a w := by
  have rdy : ∀ {listed listed' : Array Bool} {i : Nat}, listed.size = ops.size → listed'.size = ops.size → (∀ i, i < ops.size → listed'.getD (π.idxOf i) false = listed.getD i false) → i < ops.size → (π.idxOf i ∈ Region.ready .any ops' listed' ↔ i ∈ Region.ready .any ops listed) := by
    intro listed listed' i h1 h2 hl hi
    rw [ready_iff h1, ready_iff (by rw [h2, hsz])]
    have ho : ops[i]? = some ops[i] := by simp [hi]
    rw [ho, hop i _ ho]
    simp only [Option.some.injEq, exists_eq_left', edges_ren, hl i hi, List.mem_map, forall_exists_index, and_imp, forall_apply_eq_imp_iff₂]
    refine and_congr Iff.rfl ⟨fun h k hk => ?_, fun h k hk => ?_⟩
    · rw [← hl k (hed i _ ho k hk)]; exact h k hk
    · rw [hl k (hed i _ ho k hk)]; exact h k hk
  have rnil : ∀ {listed listed' : Array Bool}, listed.size = ops.size → listed'.size = ops.size → (∀ i, i < ops.size → listed'.getD (π.idxOf i) false = listed.getD i false) → (Region.ready .any ops' listed' = [] ↔ Region.ready .any ops listed = []) := by
    intro listed listed' h1 h2 hl
    simp only [List.eq_nil_iff_forall_not_mem]
    constructor
    · intro h i hi
      obtain ⟨o, ho, _⟩ := (ready_iff h1).1 hi
      exact h _ ((rdy h1 h2 hl (Array.getElem?_eq_some_iff.1 ho).1).2 hi)
    · intro h k hk
      obtain ⟨o, ho, _⟩ := (ready_iff (by rw [h2, hsz])).1 hk
      obtain ⟨i, hi, rfl⟩ := hsur k (by rw [← hsz]; exact (Array.getElem?_eq_some_iff.1 ho).1)
      exact h i ((rdy h1 h2 hl hi).1 hk)
  intro fuel
  induction fuel with
  | zero =>
    intro listed listed' a w h1 h2 hl h
    exact ⟨(rnil h1 h2 hl).1 h.1, h.2⟩
  | succ fuel ih =>
    intro listed listed' a w h1 h2 hl h
    refine ⟨fun hr => h.1 ((rnil h1 h2 hl).2 hr), fun i hi => ?_⟩
    obtain ⟨o, ho, _⟩ := (ready_iff h1).1 hi
    have hil := (Array.getElem?_eq_some_iff.1 ho).1
    have h3 := h.2 _ ((rdy h1 h2 hl hil).2 hi)
    have hlp : ∀ j, j < ops.size → (listed'.setIfInBounds (π.idxOf i) true).getD (π.idxOf j) false = (listed.setIfInBounds i true).getD j false := fun j hj => by
      rw [set_getD (by rw [h2]; exact hb i hil), set_getD (by rw [h1]; exact hil)]
      by_cases hij : i = j
      · subst hij; simp
      · rw [if_neg hij, if_neg (fun he => hij (hinj i j hil hj he)), hl j hj]
    have h4 := wpOp_mono (fun a w => ih (listed.setIfInBounds i true) _ a w (by simpa using h1) (by simpa using h2) hlp) h3
    simp only [Go.wpOp, ho, hop i o ho] at h4 ⊢
    have hw : Region.wanted (renO π o) (yielded ops' a.tmps) = Region.wanted o (yielded ops a.tmps) := wanted_ren fun j b hg => by
      have hj := hgd i o j b ho hg
      have hoj : ops[j]? = some ops[j] := by simp [hj]
      unfold yielded
      rw [hoj, hop j _ hoj]; rfl
    rw [hw] at h4
    exact h4

theorem mem_idx {π : List Nat} {i : Nat} (h : i ∈ π) : π[π.idxOf i]? = some i := by
  have := List.idxOf_lt_length_of_mem h
  rw [List.getElem?_eq_getElem this, List.getElem_idxOf this]

theorem DrawN.perm {P : Program} {l l' : List Oper} {σ : St} {K : St → Prop} (π : List Nat) (hok : permOk l π = true) (hl : permG π l π = l') (h : DrawN P l'.toArray σ K) : DrawN P l.toArray σ K := by
  subst hl
  simp only [permOk, Bool.and_eq_true, beq_iff_eq, List.all_eq_true, List.mem_range, decide_eq_true_eq] at hok
  obtain ⟨h1, h2, h3, h4, h5⟩ := hok
  have h2 := nodupE_spec h2
  have hin : ∀ i, i < l.length → i ∈ π := fun i hi => by simpa using h3 i hi
  have hlen : (permG π l π).length = l.length := by rw [permG_len h4, h1]
  intro G0 w0 G a w Q h0 hs hN hQ
  have hgd : ∀ (n i : Nat), (Array.replicate n false).getD i false = false := fun n i => by
    by_cases hi : i < n <;> simp [hi]
  refine wpAny_perm (π := π) (ops' := (permG π l π).toArray) (by simpa using hlen) (fun i hi => ?_) (fun k hk => ?_) (fun i j hi hj he => ?_) (fun i o ho => ?_) (fun i o ho k hk => ?_) (fun i o j b ho hg => ?_) _ _ (Array.replicate (permG π l π).toArray.size false) a w (by simp) (by simpa using hlen) (fun i _ => by rw [hgd, hgd]) ?_
  · have := List.idxOf_lt_length_of_mem (hin i (by simpa using hi)); simpa [h1] using this
  · have hk' : k < π.length := by simpa [h1] using hk
    refine ⟨π[k], by simpa using h4 _ (List.getElem_mem hk'), ?_⟩
    exact h2.idxOf_getElem k hk'
  · have e1 := mem_idx (hin i (by simpa using hi))
    have e2 := mem_idx (hin j (by simpa using hj))
    rw [he, e2] at e1; simpa using e1.symm
  · have hi : i < l.length := by simpa using (Array.getElem?_eq_some_iff.1 ho).1
    have := permG_get (π := π) h4 _ i (mem_idx (hin i hi))
    rw [List.getElem?_toArray, this]
    rw [List.getElem?_toArray] at ho
    rw [ho]; rfl
  · have hm : o ∈ l := List.mem_of_getElem? (by simpa using ho)
    unfold edges at hk
    obtain ⟨e, he, rfl⟩ := List.mem_map.1 hk
    simpa using (h5 o hm).1 e (List.mem_filter.1 he).1
  · have hm : o ∈ l := List.mem_of_getElem? (by simpa using ho)
    have := (h5 o hm).2
    rw [hg] at this
    simpa using this
  · have := h G0 w0 G a w Q h0 hs hN hQ
    rw [show l.toArray.size = (permG π l π).toArray.size by simpa using hlen.symm]
    exact this

/-! ### as rules -/
def headX (P : Program) (ops : Array Oper) (n0 i0 : Nat) (E LF ds : List Nat) (tr : Tr) (sg : Option (Nat × Tr)) : Nat → Nat → List Oper → St → List AV → (St → Prop) → Prop
  | _, 0, _, σ, c, K => freeOthers σ.tmps ds = true ∧ (treeA P ops tr { σ with boxes := σ.boxes.set i0 c } K ∧ sgA P ops sg { σ with boxes := σ.boxes.set i0 c } K)
  | _, _ + 1, [], σ, c, K => freeOthers σ.tmps ds = true ∧ (treeA P ops tr { σ with boxes := σ.boxes.set i0 c } K ∧ sgA P ops sg { σ with boxes := σ.boxes.set i0 c } K)
  | k, m + 1, o :: r, σ, c, K => if E.contains k = true then EffK P n0 i0 o σ c fun σ' c' => headX P ops n0 i0 E LF ds tr sg (k + 1) m r σ' c' K else if LF.contains k = true then frB P o σ fun σ' => headX P ops n0 i0 E LF ds tr sg (k + 1) m r σ' c K else headG P ops o σ fun σ' => headX P ops n0 i0 E LF ds tr sg (k + 1) m r σ' c K
theorem headX_eq {P : Program} {ops : Array Oper} {n0 i0 : Nat} {E LF ds : List Nat} {tr : Tr} {sg : Option (Nat × Tr)} {K : St → Prop} : ∀ (m k : Nat) (l : List Oper) (σ : St) (c : List AV), headX P ops n0 i0 E LF ds tr sg k m l σ c K =
    headE P ops n0 i0 E LF k (l.take m) σ c fun σ' c' => freeOthers σ'.tmps ds = true ∧ (treeA P ops tr { σ' with boxes := σ'.boxes.set i0 c' } K ∧ sgA P ops sg { σ' with boxes := σ'.boxes.set i0 c' } K)
  | 0, k, l, σ, c => by cases l <;> rfl
  | m + 1, k, [], σ, c => rfl
  | m + 1, k, o :: l, σ, c => by
    have ih : ∀ σ' c', headX P ops n0 i0 E LF ds tr sg (k + 1) m l σ' c' K = headE P ops n0 i0 E LF (k + 1) (l.take m) σ' c' fun σ' c' => freeOthers σ'.tmps ds = true ∧ (treeA P ops tr { σ' with boxes := σ'.boxes.set i0 c' } K ∧ sgA P ops sg { σ' with boxes := σ'.boxes.set i0 c' } K) := fun σ' c' => headX_eq m (k + 1) l σ' c'
    simp only [headX, List.take_succ_cons, headE, ih]
theorem headX_cons {P : Program} {ops : Array Oper} {n0 i0 : Nat} {E LF ds : List Nat} {tr : Tr} {sg : Option (Nat × Tr)} {K : St → Prop} {m k : Nat} {o : Oper} {l : List Oper} {σ : St} {c : List AV} : headX P ops n0 i0 E LF ds tr sg k (m + 1) (o :: l) σ c K =
    if E.contains k = true then EffK P n0 i0 o σ c fun σ' c' => headX P ops n0 i0 E LF ds tr sg (k + 1) m l σ' c' K else if LF.contains k = true then frB P o σ fun σ' => headX P ops n0 i0 E LF ds tr sg (k + 1) m l σ' c K else headG P ops o σ fun σ' => headX P ops n0 i0 E LF ds tr sg (k + 1) m l σ' c K := rfl
theorem crs_creators (l : List Oper) (m : Nat) : creators l.toArray m = crs (l.take m) := by rw [crs_eq]; rfl
theorem DrawN.effs {P : Program} {l : List Oper} {σ : St} {K : St → Prop} (i0 : Nat) (E LF : List Nat) (m : Nat) (tr : Tr) (sg : Option (Nat × Tr)) (c : List AV) (hok : lateOk l.toArray m E LF tr sg = true) (hE : effOk l.toArray m E = true) (hc : σ.boxes[i0]? = some c) (hnt : allLeafs noTag c = true)
    (h : andK (freeAll σ (crs (l.take m)) = true) (headX P l.toArray σ.boxes.length i0 E LF (crs (l.take m)) tr sg 0 m l ⟨σ.n, σ.tmps, σ.boxes.set i0 (blankC E c)⟩ c K)) : DrawN P l.toArray σ K :=
  DrawN.eff i0 E LF m tr sg c hok hE hc hnt (by rw [crs_creators]; exact h.1) (by rw [crs_creators]; have := h.2; rw [headX_eq] at this; exact this)
/-- A DRAWN REGION with effects, its operations put into the row π: E: the calls that write to variable i0; LF: those that name places, taken as soon as they are ready; the first m come first, then the tail in the orders of the tree. -/
theorem DrawK.effs {P : Program} {l l' : List Oper} {σ : St} {K : St → Prop} (π : List Nat) (i0 : Nat) (E LF : List Nat) (m : Nat) (tr : Tr) (sg : Option (Nat × Tr)) (c : List AV) (hm : P.follows .mixedOrders = true) (hπ : permOk l π = true) (hl : permG π l π = l') (hok : lateOk l'.toArray m E LF tr sg = true) (hE : effOk l'.toArray m E = true) (hc : σ.boxes[i0]? = some c) (hnt : allLeafs noTag c = true)
    (h : andK (freeAll σ (crs (l'.take m)) = true) (headX P l'.toArray σ.boxes.length i0 E LF (crs (l'.take m)) tr sg 0 m l' ⟨σ.n, σ.tmps, σ.boxes.set i0 (blankC E c)⟩ c K)) : DrawK P l.toArray σ K :=
  DrawK.ofN hm (DrawN.perm π hπ hl (DrawN.effs i0 E LF m tr sg c hok hE hc hnt h))
/-- .. in the text's row -/
theorem DrawK.effs0 {P : Program} {l : List Oper} {σ : St} {K : St → Prop} (i0 : Nat) (E LF : List Nat) (m : Nat) (tr : Tr) (sg : Option (Nat × Tr)) (c : List AV) (hm : P.follows .mixedOrders = true) (hok : lateOk l.toArray m E LF tr sg = true) (hE : effOk l.toArray m E = true) (hc : σ.boxes[i0]? = some c) (hnt : allLeafs noTag c = true)
    (h : andK (freeAll σ (crs (l.take m)) = true) (headX P l.toArray σ.boxes.length i0 E LF (crs (l.take m)) tr sg 0 m l ⟨σ.n, σ.tmps, σ.boxes.set i0 (blankC E c)⟩ c K)) : DrawK P l.toArray σ K :=
  DrawK.ofN hm (DrawN.effs i0 E LF m tr sg c hok hE hc hnt h)

section
variable {P : Program} {n : Nat} {t : List (Nat × AV)} {b : List (List AV)} {ops : Array Oper} {n0 i0 k m : Nat} {E LF ds : List Nat} {tr : Tr} {sg : Option (Nat × Tr)} {l : List Oper} {c : List AV} {K : St → Prop}
variable {d : Nat} {T : TypeId} {pos : String} {af : Array Edge} {g : Option (Nat × Bool)}
@[congr] theorem headX_congr {n0' k' : Nat} {σ σ' : St} {c' : List AV} (h0 : n0 = n0') (h1 : k = k') (h : mkd σ = σ') (h2 : c = c') : headX P ops n0 i0 E LF ds tr sg k m l σ c K = headX P ops n0' i0 E LF ds tr sg k' m l σ' c' K := by subst_vars; rfl
@[congr] theorem EffK_congr {n0' : Nat} {o : Oper} {σ σ' : St} {c' : List AV} {K : St → List AV → Prop} (h0 : n0 = n0') (h : mkd σ = σ') (h2 : c = c') : EffK P n0 i0 o σ c K = EffK P n0' i0 o σ' c' K := by subst_vars; rfl
@[congr] theorem frB_congr {o : Oper} {σ σ' : St} {K : St → Prop} (h : mkd σ = σ') : frB P o σ K = frB P o σ' K := by subst_vars; rfl
@[go_sem] theorem frB_eq {o : Oper} : frB P o ⟨n, t, b⟩ K = frA P (some o) ⟨n, t, b⟩ K := rfl
@[go_sem] theorem headX_zero : headX P ops n0 i0 E LF ds tr sg k 0 l ⟨n, t, b⟩ c K = andK (freeOthers t ds = true) (andK (treeA P ops tr ⟨n, t, b.set i0 c⟩ K) (sgA P ops sg ⟨n, t, b.set i0 c⟩ K)) := by cases l <;> rfl
@[go_sem] theorem headX_nil : headX P ops n0 i0 E LF ds tr sg k (m + 1) [] ⟨n, t, b⟩ c K = andK (freeOthers t ds = true) (andK (treeA P ops tr ⟨n, t, b.set i0 c⟩ K) (sgA P ops sg ⟨n, t, b.set i0 c⟩ K)) := rfl
@[go_sem] theorem headX_succ {dst : Option Tmp} {op : Op} : headX P ops n0 i0 E LF ds tr sg k (m + 1) (⟨dst, op, T, pos, af, none⟩ :: l) ⟨n, t, b⟩ c K = selK (E.contains k) (EffK P n0 i0 ⟨dst, op, T, pos, af, none⟩ ⟨n, t, b⟩ c fun σ' c' => headX P ops n0 i0 E LF ds tr sg (k + 1) m l σ' c' K)
    (selK (LF.contains k) (frB P ⟨dst, op, T, pos, af, none⟩ ⟨n, t, b⟩ fun σ' => headX P ops n0 i0 E LF ds tr sg (k + 1) m l σ' c K) (headOp P ⟨dst, op, T, pos, af, none⟩ ⟨n, t, b⟩ fun σ' => headX P ops n0 i0 E LF ds tr sg (k + 1) m l σ' c K)) := by rw [selK_ite, selK_ite]; rfl
def sgD (P : Program) (ops : Array Oper) (o : Option Oper) (tr : Tr) (σ : St) (K : St → Prop) : Prop := match o with
  | some ⟨some d, _, _, _, _, _⟩ => treeA P ops tr (σ.put (some d) .any) K
  | _ => False
@[congr] theorem sgA_congr {σ σ' : St} (h : mkd σ = σ') : sgA P ops sg σ K = sgA P ops sg σ' K := by subst_vars; rfl
@[congr] theorem sgD_congr {o o' : Option Oper} {σ σ' : St} (h1 : o = o') (h : mkd σ = σ') : sgD P ops o tr σ K = sgD P ops o' tr σ' K := by subst_vars; rfl
@[go_sem] theorem sgA_none : sgA P ops none ⟨n, t, b⟩ K = True := rfl
@[go_sem] theorem sgA_some {x : Nat} : sgA P l.toArray (some (x, tr)) ⟨n, t, b⟩ K = sgD P l.toArray l[x]? tr ⟨n, t, b⟩ K := by
  simp only [sgA, sgD, List.getElem?_toArray]
  cases l[x]? with
  | none => rfl
  | some o =>
    obtain ⟨dst, op, T, pos, af, g⟩ := o
    cases dst <;> simp
@[go_sem] theorem sgD_some {op : Op} : sgD P ops (some ⟨some d, op, T, pos, af, g⟩) tr ⟨n, t, b⟩ K = treeA P ops tr (St.put ⟨n, t, b⟩ (some d) .any) K := rfl
def consO (o : Option Oper) (r : List Oper) : List Oper := match o with
  | some o => o :: r
  | none => []
@[go_sem] theorem consO_some {o : Oper} {r : List Oper} : consO (some o) r = o :: r := rfl
@[go_sem] theorem permG_nil {π : List Nat} : permG π l [] = [] := rfl
@[go_sem] theorem permG_cons {π r : List Nat} {i : Nat} : permG π l (i :: r) = consO ((l[i]?).map (renO π)) (permG π l r) := by
  simp only [permG]
  cases l[i]? <;> rfl
@[go_sem] theorem renO_mk {π : List Nat} {dst : Option Tmp} {op : Op} : renO π ⟨dst, op, T, pos, af, none⟩ = ⟨dst, op, T, pos, af.map fun e => ⟨π.idxOf e.on, e.ground⟩, none⟩ := rfl
attribute [go_sem] freeOthers freeBut blankC
theorem EffK.mk {fid : FuncId} {args : List Operand} {As : Array TypeId} {args' c0 c1 : List AV} {r : AV} {K : St → List AV → Prop} (hcon : Con P fid args' [c0] fun r' bx => r' = r ∧ bx = [c1])
    (hc : d < n ∧ dedup (pbss (evAll ⟨n, t, b⟩ args)) = [i0] ∧ allLeafs noTag (evAll ⟨n, t, b⟩ args) = true ∧ allLeafs noTag c = true) (ha : mapTops (pbIn [i0]) (evAll ⟨n, t, b⟩ args) = args') (hc0 : mapTops (pbIn [i0]) c = c0)
    (hr : r.allLeaf lt64b = true ∧ allLeafs noTag c1 = true ∧ (mapTops (outLeaf (64 * (d + 1)) [i0] n0) c1).length = c.length ∧ allLeafs noTag (mapTops (outLeaf (64 * (d + 1)) [i0] n0) c1) = true)
    (hk : K (St.put ⟨n, t, b⟩ (some d) (r.mapTop (outLeaf (64 * (d + 1)) [i0] n0))) (mapTops (outLeaf (64 * (d + 1)) [i0] n0) c1)) :
    EffK P n0 i0 ⟨some d, .call ⟨.value (.func fid), args.toArray, As⟩, T, pos, af, none⟩ ⟨n, t, b⟩ c K := by
  rw [evAll_eq] at hc ha
  refine ⟨d, _, _, rfl, hc.1, ⟨rfl, fid, args.toArray, As, r, c1, rfl, hc.2.1, hc.2.2.1, by simp [allNoTags, hc.2.2.2], ?_, hr.1, by simp [allNoTags, hr.2.1], by rw [List.length_replicate], by simp [mapB]⟩, hr.2.2.1, hr.2.2.2, hk⟩
  rw [ha, show mapB (pbIn [i0]) [c] = [c0] by simp [mapB, hc0]]
  exact hcon
end
end Go.AM
