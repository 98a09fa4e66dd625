/-
  Plain laws: all minimal semiflows.
  Plain laws: of five places there are at most ten minimal semiflows.
  Plain laws: the order of lists of numbers; a list of lists in order; insertion sort.
  Plain laws: invariants of counter models: closed atoms hold wherever rules lead.
  Counter models: their data, as abstract values.
  Plain laws: candidates of chapter 32: lists of coefficients, each once.
  Walks: the dice.
  The abstract machine: a region that draws its order, among whose operations are new variables: for each a place is kept ahead.
  Walks: numbers of the dice; configurations of the dice.
  Walks: the deck (one fixed answer each).
  Walks: the deck's numbers, small vectors, names.
  Walks: minimal semiflows: the check, one support.
  The abstract machine: calls of function values in drawn regions.
  Walks: small functions of models and invariants.
  Walks: atoms.
  Walks: configurations of counter models.
  Walks: names.
  Walks: searches in lists.
  Walks: keywords; lists of names.
  Walks: a model's names.
  Walks: a model's numbers and ranks.
  Walks: a rule is right.
  Walks: a counter model's rule is right.
  Walks: types; flat types are right.
  Walks: values of flat types; a counter model is valid.
  Walks: the order of values.
  Plain laws: lists of which one element is changed.
  Walks: lists of rows put in order (slices.SortFunc by slices.Compare, of at most 12).
  Walks: slices.SortFunc of rows, of at most 12.
  Walks: all minimal semiflows.
  Walks: weighted sums, ranges, what a semiflow is.
  Walks: what minimal semiflows allow; bounds.
  Plain laws: the example of chapter 11.
  Walks: weighted sums; the law's sanity check.
-/
import Derived.Test.Ytoglpcfaojcmeaag10
import Derived.Test.Ytoglpcfaojcmeaag9
import Derived.Test.Ytoglpcfaojcmeaag7
/-! ## MxSemi7 -/
namespace Go.AM
open Go Go.Proofs Go.RowKit
open Go.La (sum sum_congr sum_add sum_one sum_smul D)
def semB (c : List (List Int)) (s : Nat) : Option (List Int) := if s = 0 then none else semF c (fun i => s.testBit i)
def ofL (c : List (List Int)) : List (List Int) := (List.range (2 ^ c.length)).filterMap (semB c)
theorem bits_some : ∀ n, n ≤ 6 → ∀ s, s < 2 ^ n → s ≠ 0 → 0 < (inS (fun i => s.testBit i) n).length := by
 intro n hn s hs h0
 have h : ∃ i, s.testBit i = true := by
  by_cases h : ∃ i, s.testBit i = true
  ·exact h
  ·exfalso
   apply h0
   apply Nat.eq_of_testBit_eq
   intro i
   rw [Nat.zero_testBit]
   cases hb : s.testBit i
   ·rfl
   ·exact (h ⟨i, hb⟩).elim
 obtain ⟨i, hi⟩ := h
 have hin : i < n := by
  by_cases h : i < n
  ·exact h
  ·have := Nat.testBit_lt_two_pow (x := s) (i := i) (Nat.lt_of_lt_of_le hs (Nat.pow_le_pow_right (by omega) (by omega)))
   rw [hi] at this; cases this
 exact List.length_pos_of_mem (mem_inS.2 ⟨hin, hi⟩)
theorem semB_some {c : List (List Int)} {s : Nat} {y : List Int} (h : semB c s = some y) : s ≠ 0 ∧ semF c (fun i => s.testBit i) = some y := by
 unfold semB at h
 split at h
 ·cases h
 ·rename_i h0
  exact ⟨h0, h⟩
def Within (x y : List Int) : Prop := ∀ i, i < x.length → 0 < x[i]! → 0 < y[i]!
theorem of_mem {c : List (List Int)} (hc : ChangeM c) {y : List Int} (h : y ∈ ofL c) : ∃ s, s < 2 ^ c.length ∧ s ≠ 0 ∧ semF c (fun i => s.testBit i) = some y ∧ y.length = c.length ∧ (∀ i, i < c.length → 0 ≤ y[i]! ∧ y[i]! ≤ 1000000000000) ∧ (∃ i, i < c.length ∧ 0 < y[i]!) ∧ FlowOf c (fun i => y[i]!) := by
 unfold ofL at h
 rw [List.mem_filterMap] at h
 obtain ⟨s, hs, hy⟩ := h
 rw [List.mem_range] at hs
 obtain ⟨h0, h1⟩ := semB_some hy
 have hp := bits_some c.length hc.six s hs h0
 obtain ⟨a1, a2, a3, a4⟩ := sem_flow hc hp h1
 obtain ⟨i, hi⟩ : ∃ i, i ∈ inS (fun i => s.testBit i) c.length := ⟨_, List.getElem_mem hp⟩
 obtain ⟨hi, hb⟩ := mem_inS.1 hi
 exact ⟨s, hs, h0, h1, a1, a2, ⟨i, hi, (a3 i hi).2 hb⟩, a4⟩
theorem of_pair {c : List (List Int)} (hc : ChangeM c) : (ofL c).Pairwise fun x y => ¬ Within x y ∧ ¬ Within y x := by
 have key : ∀ s t, s < 2 ^ c.length → t < 2 ^ c.length → s ≠ t → ∀ x y, semB c s = some x → semB c t = some y → ¬ Within x y := fun s t hs ht hst x y h1 h2 hw => by
  obtain ⟨s0, s1⟩ := semB_some h1
  obtain ⟨t0, t1⟩ := semB_some h2
  have hps := bits_some c.length hc.six s hs s0
  have hpt := bits_some c.length hc.six t ht t0
  obtain ⟨a1, _, a3, _⟩ := sem_flow hc hps s1
  obtain ⟨_, _, b3, _⟩ := sem_flow hc hpt t1
  have he := sem_within hc hpt hps t1 s1 (fun i hi hb => (b3 i hi).1 (hw i (by omega) ((a3 i hi).2 hb)))
  apply hst
  apply Nat.eq_of_testBit_eq
  intro i
  by_cases hi : i < c.length
  ·exact (he i hi).symm
  ·have e : ∀ u, u < 2 ^ c.length → u.testBit i = false := fun u hu => Nat.testBit_lt_two_pow (Nat.lt_of_lt_of_le hu (Nat.pow_le_pow_right (by omega) (by omega)))
   rw [e s hs, e t ht]
 unfold ofL
 rw [List.pairwise_filterMap]
 refine List.Pairwise.imp_of_mem ?_ List.pairwise_lt_range
 intro s t hs ht hlt x hx y hy
 rw [List.mem_range] at hs ht
 exact ⟨key s t hs ht (by omega) x y hx hy, key t s ht hs (by omega) y x hy hx⟩
theorem bits_of (p : Nat → Bool) : ∀ n, ∃ s, s < 2 ^ n ∧ ∀ i, i < n → p i = s.testBit i
 | 0 => ⟨0, by decide, fun i hi => by omega⟩
 | n + 1 => by
  obtain ⟨s, hs, hb⟩ := bits_of p n
  cases hp : p n
  ·refine ⟨s, by rw [Nat.pow_succ]; omega, fun i hi => ?_⟩
   by_cases h : i < n
   ·exact hb i h
   ·obtain rfl : i = n := by omega
    rw [hp, Nat.testBit_lt_two_pow hs]
  ·refine ⟨s + 2 ^ n, by rw [Nat.pow_succ]; omega, fun i hi => ?_⟩
   by_cases h : i < n
   ·rw [hb i h, Nat.add_comm, Nat.testBit_two_pow_add_gt h]
   ·obtain rfl : i = n := by omega
    rw [hp, Nat.add_comm, Nat.testBit_two_pow_add_eq, Nat.testBit_lt_two_pow hs]; rfl
theorem spr_set {p q : Nat → Bool} {v : List Int} : ∀ n, (∀ i, i < n → p i = q i) → sprGo p v n = sprGo q v n
 | 0, _ => rfl
 | n + 1, h => by
  have ih := spr_set (v := v) n fun i hi => h i (by omega)
  rw [sprGo, sprGo, ih, h n (by omega)]
theorem semF_set {c : List (List Int)} {p q : Nat → Bool} (h : ∀ i, i < c.length → p i = q i) (hin : ∀ n, n ≤ c.length → inS p n = inS q n) : semF c q = semF c p := by
 have e : turnS c p = turnS c q := by unfold turnS; rw [hin c.length (Nat.le_refl _)]
 unfold semF
 rw [e]
 split
 ·rw [spr_set c.length h]
 ·rfl
theorem of_finds {c : List (List Int)} (hc : ChangeM c) {y : List Int} (_hl : y.length = c.length) (h0 : ∀ i, i < c.length → 0 ≤ y[i]!) (hne : ∃ i, i < c.length ∧ 0 < y[i]!) (hf : FlowOf c (fun i => y[i]!)) : ∃ x ∈ ofL c, Within x y := by
 obtain ⟨p, x, hp, hpy, hx⟩ := sem_exists hc c.length (fun i => y[i]!) (by exact inS_len _ _) h0 hne hf
 -- the set as bits
 obtain ⟨s, hs, hb⟩ := bits_of p c.length
 have hcong : ∀ i, i < c.length → p i = s.testBit i := hb
 have hin : ∀ n, n ≤ c.length → inS p n = inS (fun i => s.testBit i) n := fun n hn => by
  unfold inS
  exact List.filter_congr fun i hi => hcong i (by rw [List.mem_range] at hi; omega)
 have hne0 : s ≠ 0 := fun e => by
  have h1 := hin c.length (Nat.le_refl _)
  rw [e] at h1
  have : inS (fun i => Nat.testBit 0 i) c.length = [] := by
   unfold inS
   rw [List.filter_eq_nil_iff]
   intro i _; simp
  rw [h1, this] at hp; simp at hp
 have hsem : semF c (fun i => s.testBit i) = some x := by rw [← hx]; exact semF_set hcong hin
 have hps := bits_some c.length hc.six s hs hne0
 obtain ⟨a1, _, a3, _⟩ := sem_flow hc hps hsem
 refine ⟨x, ?_, fun i hi hxi => ?_⟩
 ·unfold ofL
  rw [List.mem_filterMap]
  refine ⟨s, List.mem_range.2 hs, ?_⟩
  unfold semB
  rw [if_neg hne0]; exact hsem
 ·exact hpy i (by omega) (by rw [hcong i (by omega)]; exact (a3 i (by omega)).1 hxi)
end Go.AM

/-! ## MxSemi9 -/
namespace Go.AM
open Go Go.Proofs Go.RowKit
def chainT : List Nat := [0, 0, 1, 0, 2, 2, 1, 0, 3, 3, 4, 3, 5, 2, 1, 0, 6, 6, 7, 6, 8, 8, 7, 6, 9, 9, 4, 3, 5, 2, 1, 0]
theorem chain_lt : ∀ s, s < 32 → chainT[s]! < 10 := by decide +kernel
theorem chain_ib : ((List.range 32).all fun s => (List.range 32).all fun t => !(chainT[s]! == chainT[t]!) ||
  ((List.range 5).all (fun i => !s.testBit i || t.testBit i) || (List.range 5).all (fun i => !t.testBit i || s.testBit i))) = true := by decide +kernel
theorem chain_in (s : Nat) (hs : s < 32) (t : Nat) (ht : t < 32) (he : chainT[s]! = chainT[t]!) :
  (∀ i, i < 5 → s.testBit i = true → t.testBit i = true) ∨ (∀ i, i < 5 → t.testBit i = true → s.testBit i = true) := by
 have h := List.all_eq_true.1 (List.all_eq_true.1 chain_ib s (List.mem_range.2 hs)) t (List.mem_range.2 ht)
 rw [he, beq_self_eq_true, Bool.not_true, Bool.false_or, Bool.or_eq_true] at h
 rcases h with h | h
 ·refine Or.inl fun i hi hb => ?_
  have := List.all_eq_true.1 h i (List.mem_range.2 hi)
  rw [hb] at this; simpa using this
 ·refine Or.inr fun i hi hb => ?_
  have := List.all_eq_true.1 h i (List.mem_range.2 hi)
  rw [hb] at this; simpa using this
theorem few_nodup : ∀ (n : Nat) (l : List Nat), l.Nodup → (∀ x ∈ l, x < n) → l.length ≤ n := Go.La.nodup_lt
theorem of_few {c : List (List Int)} (hc : ChangeM c) (h5 : c.length ≤ 5) : (ofL c).length ≤ 10 := by
 -- the supports that have one
 obtain ⟨B, hB⟩ : ∃ B, B = (List.range (2 ^ c.length)).filter fun s => (semB c s).isSome := ⟨_, rfl⟩
 have hlen : (ofL c).length = B.length := by
  rw [hB]; unfold ofL
  rw [List.length_filterMap_eq_countP, List.countP_eq_length_filter]
 have h32 : 2 ^ c.length ≤ 32 := Nat.pow_le_pow_right (by omega) h5
 have hmem : ∀ s ∈ B, s < 2 ^ c.length ∧ s ≠ 0 ∧ ∃ x, semF c (fun i => s.testBit i) = some x := fun s hs => by
  rw [hB, List.mem_filter, List.mem_range] at hs
  obtain ⟨x, hx⟩ := Option.isSome_iff_exists.1 hs.2
  obtain ⟨h0, h1⟩ := semB_some hx
  exact ⟨hs.1, h0, x, h1⟩
 have hnd : (B.map fun s => chainT[s]!).Nodup := by
  rw [List.Nodup, List.pairwise_map]
  have hp : B.Pairwise (· < ·) := by rw [hB]; exact List.Pairwise.filter _ List.pairwise_lt_range
  refine List.Pairwise.imp_of_mem ?_ hp
  intro s t hs ht hlt he
  obtain ⟨s1, s2, x, sx⟩ := hmem s hs
  obtain ⟨t1, t2, y, ty⟩ := hmem t ht
  have hps := bits_some c.length hc.six s s1 s2
  have hpt := bits_some c.length hc.six t t1 t2
  have hne : s ≠ t := by omega
  have heq : (∀ i, i < c.length → s.testBit i = t.testBit i) → False := fun hh => hne (by
   apply Nat.eq_of_testBit_eq
   intro i
   by_cases hi : i < c.length
   ·exact hh i hi
   ·have e : ∀ u, u < 2 ^ c.length → u.testBit i = false := fun u hu => Nat.testBit_lt_two_pow (Nat.lt_of_lt_of_le hu (Nat.pow_le_pow_right (by omega) (by omega)))
    rw [e s s1, e t t1])
  rcases chain_in s (by omega) t (by omega) he with h | h
  ·exact heq fun i hi => (sem_within hc hpt hps ty sx (fun i hi hb => h i (by omega) hb) i hi).symm
  ·exact heq fun i hi => sem_within hc hps hpt sx ty (fun i hi hb => h i (by omega) hb) i hi
 have := few_nodup 10 _ hnd (fun x hx => by
  obtain ⟨s, hs, rfl⟩ := List.mem_map.1 hx
  exact chain_lt s (by have := (hmem s hs).1; omega))
 rw [List.length_map] at this
 omega
end Go.AM

/-! ## MxSort -/
namespace Go.AM
open Go Go.Proofs Go.RowKit
def lexC : List Int → List Int → Int
 | [], [] => 0
 | [], _ :: _ => -1
 | _ :: _, [] => 1
 | x :: xs, y :: ys => if ordI x y ≠ 0 then ordI x y else lexC xs ys
theorem ordI_anti (a b : Int) : ordI b a = - ordI a b := by unfold ordI; split <;> split <;> (try split) <;> omega
theorem ordI_lt {a b c : Int} (h1 : ordI a b ≤ 0) (h2 : ordI b c ≤ 0) (h3 : ordI a b ≠ 0 ∨ ordI b c ≠ 0) : ordI a c < 0 := by
 unfold ordI at *
 have k1 : a ≤ b := by
  rcases Int.lt_or_le b a with h | h
  ·rw [if_neg (by omega), if_pos h] at h1; omega
  ·exact h
 have k2 : b ≤ c := by
  rcases Int.lt_or_le c b with h | h
  ·rw [if_neg (by omega), if_pos h] at h2; omega
  ·exact h
 have k3 : a < c := by
  rcases h3 with h | h
  ·have : a ≠ b := fun e => h (by subst e; simp)
   omega
  ·have : b ≠ c := fun e => h (by subst e; simp)
   omega
 rw [if_pos k3]; omega
theorem lexC_anti : ∀ a b : List Int, lexC b a = - lexC a b
 | [], [] => rfl
 | [], _ :: _ => rfl
 | _ :: _, [] => rfl
 | x :: xs, y :: ys => by
  rw [lexC, lexC, ordI_anti x y, lexC_anti xs ys]
  by_cases h : ordI x y = 0
  ·rw [if_neg (by omega), if_neg (by omega)]
  ·rw [if_pos (by omega), if_pos (by omega)]
theorem lexC_zero : ∀ {a b : List Int}, lexC a b = 0 ↔ a = b
 | [], [] => by simp [lexC]
 | [], _ :: _ => by simp [lexC]
 | _ :: _, [] => by simp [lexC]
 | x :: xs, y :: ys => by
  rw [lexC]
  by_cases h : ordI x y = 0
  ·rw [if_neg (fun h' => h' h), lexC_zero, ordI_zero.1 h]; simp
  ·rw [if_pos h]
   exact ⟨fun e => absurd e h, fun e => absurd (ordI_zero.2 (by injection e)) h⟩
theorem lexC_trans : ∀ {a b c : List Int}, lexC a b ≤ 0 → lexC b c ≤ 0 → lexC a c ≤ 0
 | [], _, [], _, _ => by simp [lexC]
 | [], _, _ :: _, _, _ => by simp [lexC]
 | _ :: _, [], _, h, _ => by simp [lexC] at h
 | _ :: _, _ :: _, [], _, h => by simp [lexC] at h
 | x :: xs, y :: ys, z :: zs, h1, h2 => by
  rw [lexC] at h1 h2 ⊢
  by_cases e1 : ordI x y = 0
  ·rw [if_neg (fun h' => h' e1)] at h1
   obtain rfl := ordI_zero.1 e1
   by_cases e2 : ordI x z = 0
   ·rw [if_neg (fun h' => h' e2)] at h2 ⊢
    exact lexC_trans h1 h2
   ·rw [if_pos e2] at h2 ⊢
    exact h2
  ·rw [if_pos e1] at h1
   by_cases e2 : ordI y z = 0
   ·obtain rfl := ordI_zero.1 e2
    rw [if_pos e1]; exact h1
   ·rw [if_pos e2] at h2
    have := ordI_lt h1 h2 (.inl e1)
    rw [if_pos (by omega)]; omega
theorem lexC_total (a b : List Int) : lexC a b ≤ 0 ∨ lexC b a ≤ 0 := by rw [lexC_anti a b]; omega
theorem lexC_drop {a b : List Int} {i : Nat} (hi : i < a.length) (hj : i < b.length) : lexC (a.drop i) (b.drop i) = if ordI a[i]! b[i]! ≠ 0 then ordI a[i]! b[i]! else lexC (a.drop (i + 1)) (b.drop (i + 1)) := by
 rw [List.drop_eq_getElem_cons hi, List.drop_eq_getElem_cons hj, lexC, getElem!_pos a i hi, getElem!_pos b i hj]
def AscL (l : List (List Int)) : Prop := l.Pairwise fun x y => lexC x y ≤ 0
theorem asc_one {l l' : List (List Int)} (h : AscL l) (h' : AscL l') (hp : l.Perm l') : l = l' :=
 List.Perm.eq_of_pairwise (fun a b _ _ h1 h2 => lexC_zero.1 (by have := lexC_anti a b; omega)) h h' hp
def ascF (l : List (List Int)) : List (List Int) := l.mergeSort fun x y => decide (lexC x y ≤ 0)
theorem asc_perm (l : List (List Int)) : (ascF l).Perm l := List.mergeSort_perm _ _
theorem asc_asc (l : List (List Int)) : AscL (ascF l) := by
 have := List.pairwise_mergeSort (le := fun x y => decide (lexC x y ≤ 0)) (fun a b c h1 h2 => by
  simp only [decide_eq_true_eq] at *; exact lexC_trans h1 h2) (fun a b => by
  rcases lexC_total a b with h | h <;> simp [h]) l
 exact this.imp fun h => by simpa using h
theorem asc_eq {l l' : List (List Int)} (h : AscL l') (hp : l'.Perm l) : l' = ascF l := asc_one h (asc_asc l) (hp.trans (asc_perm l).symm)
theorem bang_setR {l : List (List Int)} {q j : Nat} {x : List Int} (h : q < l.length) : (l.set q x)[j]! = if j = q then x else l[j]! := by
 by_cases hj : j < l.length
 ·rw [getElem!_pos _ j (by rw [List.length_set]; exact hj), getElem!_pos l j hj, List.getElem_set]
  by_cases e : q = j
  ·subst e; simp
  ·rw [if_neg e, if_neg (fun h => e h.symm)]
 ·rw [getElem!_neg _ j (by rw [List.length_set]; exact hj), getElem!_neg l j hj, if_neg (by omega)]
def swapR (l : List (List Int)) (j : Nat) : List (List Int) := (l.set (j + 1) l[j]!).set j l[j + 1]!
theorem swapR_len (l : List (List Int)) (j : Nat) : (swapR l j).length = l.length := by simp [swapR]
theorem swapR_at {l : List (List Int)} {j k : Nat} (h : j + 1 < l.length) : (swapR l j)[k]! = if k = j then l[j + 1]! else if k = j + 1 then l[j]! else l[k]! := by
 unfold swapR
 rw [bang_setR (by rw [List.length_set]; omega), bang_setR h]
theorem swapR_perm {l : List (List Int)} {j : Nat} (h : j + 1 < l.length) : (swapR l j).Perm l := by
 unfold swapR
 rw [getElem!_pos l j (by omega), getElem!_pos l (j + 1) h]
 exact List.set_set_perm h (by omega)
structure SinkR (l D : List (List Int)) (i j : Nat) : Prop where
 perm : D.Perm l
 ji : j ≤ i
 ord : ∀ p q, p < q → q ≤ i → q ≠ j → lexC D[p]! D[q]! ≤ 0
theorem SinkR.len {l D : List (List Int)} {i j : Nat} (h : SinkR l D i j) : D.length = l.length := h.perm.length_eq
theorem SinkR.step {l D : List (List Int)} {i j : Nat} (h : SinkR l D i (j + 1)) (hi : i < l.length) (hc : lexC D[j + 1]! D[j]! < 0) : SinkR l (swapR D j) i j := by
 have hji := h.ji
 have hl : j + 1 < D.length := by rw [h.len]; omega
 refine ⟨(swapR_perm hl).trans h.perm, by omega, fun p q hpq hqi hqj => ?_⟩
 rw [swapR_at hl, swapR_at hl, if_neg hqj]
 by_cases e1 : q = j + 1
 ·rw [if_pos e1]
  by_cases e2 : p = j
  ·rw [if_pos e2]; omega
  ·rw [if_neg e2, if_neg (by omega)]
   exact h.ord p j (by omega) (by omega) (by omega)
 ·rw [if_neg e1]
  by_cases e2 : p = j
  ·rw [if_pos e2]
   exact h.ord (j + 1) q (by omega) hqi e1
  ·rw [if_neg e2]
   by_cases e3 : p = j + 1
   ·rw [if_pos e3]
    exact h.ord j q (by omega) hqi e1
   ·rw [if_neg e3]
    exact h.ord p q hpq hqi e1
theorem SinkR.stop {l D : List (List Int)} {i j : Nat} (h : SinkR l D i j) (hs : j = 0 ∨ 0 ≤ lexC D[j]! D[j - 1]!) : ∀ p q, p < q → q ≤ i → lexC D[p]! D[q]! ≤ 0 := by
  intro p q hpq hqi
  by_cases e : q = j
  · subst e
    have hs : 0 ≤ lexC D[q]! D[q - 1]! := by rcases hs with h | h
                                             · omega
                                             · exact h
    have h1 : lexC D[q - 1]! D[q]! ≤ 0 := by rw [lexC_anti]; omega
    by_cases e2 : p = q - 1
    · rw [e2]; exact h1
    · exact lexC_trans (h.ord p (q - 1) (by omega) (by omega) (by omega)) h1
  · exact h.ord p q hpq hqi e
theorem SinkR.start {l D : List (List Int)} {i : Nat} (hp : D.Perm l) (ho : ∀ p q, p < q → q < i → lexC D[p]! D[q]! ≤ 0) : SinkR l D i i :=
 ⟨hp, Nat.le_refl _, fun p q h1 h2 h3 => ho p q h1 (by omega)⟩
theorem asc_of {D : List (List Int)} (h : ∀ p q, p < q → q < D.length → lexC D[p]! D[q]! ≤ 0) : AscL D := by
 unfold AscL
 rw [List.pairwise_iff_getElem]
 intro p q hp hq hpq
 have := h p q hpq hq
 rwa [getElem!_pos D p hp, getElem!_pos D q hq] at this
end Go.AM

/-! ## LInv -/
namespace Go.AM
structure RD where
 name : ByteArray
 src : Int
 dst : Int
 need : List Int
 give : List Int
 move : List Int
 channel : Int := 0
 act : Int := 0
 letter : Int := 0
 path : List Int := []
 next : List Int := []
 takes : List (Int × Int × Int) := []
 makes : List Int := []
 second : Int := 0
 deriving Inhabited
structure AtomD where
 coefs : List Int
 mod : Int
 values : List Int
 deriving Inhabited
end Go.AM

/-! ## CmA -/
namespace Go.AM
open Go Go.Proofs Go.RowKit
def vStr (s : ByteArray) : AV := .sc (.string s)
def vss (l : List ByteArray) : AV := .sl 0 1 (l.map vStr)
def vTake (t : Int × Int × Int) : AV := .ag [vi t.1, vi t.2.1, vi t.2.2]
def vRule (r : RD) : AV := .ag [vStr r.name, vi r.src, vi r.dst, vs 0 r.need, vs 0 r.give, vs 0 r.move, vi r.channel, vi r.act, vi r.letter, vs 0 r.path, vs 0 r.next, .sl 0 3 (r.takes.map vTake), vs 0 r.makes, vi r.second]
structure MD where
 kind : Int
 states : List ByteArray
 places : List ByteArray
 letters : List ByteArray := []
 ranks : List Int := []
 levels : Int := 0
 age : Int := 0
 rules : List RD
 start : CV
 deriving Inhabited
def cM (m : MD) : List AV := [vi m.kind, vss m.states, vss m.places, vss m.letters, vs 0 m.ranks, vi m.levels, vi m.age, .sl 0 14 (m.rules.map vRule), vi m.start.n, .sl 0 2 (m.start.kids.map vV)]
def vM (m : MD) : AV := .ag (cM m)
end Go.AM

/-! ## LCand -/
namespace Go.AM
end Go.AM

/-! ## CmD -/
namespace Go.AM
open Go Go.Proofs Go.RowKit
def diceA (l : List Int) (at_ : Nat) : List AV := [.sl 0 1 (l.map vu), .sc (.int .i64 at_)]
attribute [go_sem] diceA
end Go.AM

/-! ## Am5 -/
namespace Go.AM
open Go.RowKit
def noPb (N : Nat) : AV → Bool
 | .pb i _ => decide (i ≠ N)
 | .cl _ caps => caps.all fun c => match c with
  | .pb i _ => decide (i ≠ N)
  | _ => true
 | _ => true
def noPbT (N : Nat) : List (Nat × AV) → Bool
 | [] => true
 | (_, v) :: r => v.allLeaf (noPb N) && noPbT N r
def noPbB (N : Nat) : List (List AV) → Bool
 | [] => true
 | cs :: r => allLeafs (noPb N) cs && noPbB N r
def lookA : List (Nat × Nat) → Nat → Option Nat
 | [], _ => none
 | (i, N) :: r, k => if i = k then some N else lookA r k
def AllocP (P : Program) (bx : List (List AV)) (o : Oper) (N : Nat) (y : AV) : Prop :=
 o.guard = none ∧ y = .pb N 0 ∧ ∃ T q z, o.op = .alloc T ∧ tinfo P T = some q ∧ q.2.2 = some z ∧ zeroOk q.1 z = true ∧ bx[N]? = some (List.replicate q.1 .any)
section
variable {P : Program} {ops : Array Oper} {m : Nat} {vs : List (Nat × AV)} {E : List Nat} {A : List (Nat × Nat)} {C : Nat → List AV} {i0 : Nat} {σ : St} {K : St → Prop} {G0 : Orig} {w0 : World} {Q : Exit → Act → World → Prop}
end
def noVar : AV → Bool
 | .pb _ _ => false
 | .cl _ _ => false
 | _ => true
def AllocK (P : Program) (o : Oper) (N : Nat) (σ : St) (K : St → Prop) : Prop :=
 ∃ d, o.dst = some d ∧ d < σ.n ∧ AllocP P σ.boxes o N (.pb N 0) ∧ K (σ.put (some d) (.pb N 0))
section
variable {P : Program} {ops : Array Oper} {n0 i0 : Nat} {E LF : List Nat} {A : List (Nat × Nat)}
def pbBut (N d : Nat) : List (Nat × AV) → Bool
 | [] => true
 | (s, v) :: r => (s == d || v.allLeaf (noPb N)) && pbBut N d r
def keptOk (ops : Array Oper) (l : List (Nat × AV)) : List (Nat × Nat) → Bool
 | [] => true
 | (i, N) :: r => (match (ops[i]?).bind (·.dst) with
  | some d => pbBut N d l
  | none => false) && keptOk ops l r
def keptFree (σ : St) : List (Nat × Nat) → Bool
 | [] => true
 | (_, N) :: r => (decide (σ.boxes.length ≤ N) && (noPbT N σ.tmps && noPbB N σ.boxes)) && keptFree σ r
def anyB (ph : List Nat) : List (List AV) := ph.map fun k => List.replicate k .any
def hasD (d s : Nat) : List (Nat × Nat) → Bool
 | [] => false
 | (a, b) :: r => (a == d && b == s) || hasD d s r
def freeButD (D : List (Nat × Nat)) (d : Nat) : List (Nat × AV) → Bool
 | [] => true
 | (s, v) :: r => (s == d || (hasD d s D || v.allLeaf (freeLeaf d))) && freeButD D d r
def freeOthersD (D : List (Nat × Nat)) (l : List (Nat × AV)) : List Nat → Bool
 | [] => true
 | d :: r => freeButD D d l && freeOthersD D l r
end
def headZ (P : Program) (ops : Array Oper) (_n0 i0 : Nat) (_E _LF : List Nat) (A : List (Nat × Nat)) (D : List (Nat × Nat)) (ds : List Nat) (tr : Tr) (sg : Option (Nat × Tr)) (σ : St) (c : List AV) (K : St → Prop) : Prop :=
 (freeOthersD D σ.tmps ds = true ∧ keptOk ops σ.tmps A = true) ∧ treeA P ops tr { σ with boxes := σ.boxes.set i0 c } K ∧ sgA P ops sg { σ with boxes := σ.boxes.set i0 c } K
def headY (P : Program) (ops : Array Oper) (n0 i0 : Nat) (E LF : List Nat) (A : List (Nat × Nat)) (D : List (Nat × Nat)) (ds : List Nat) (tr : Tr) (sg : Option (Nat × Tr)) : Nat → Nat → List Oper → St → List AV → (St → Prop) → Prop
 | _, 0, _, σ, c, K => headZ P ops n0 i0 E LF A D ds tr sg σ c K
 | _, _ + 1, [], σ, c, K => headZ P ops n0 i0 E LF A D ds tr sg σ c K
 | k, m + 1, o :: r, σ, c, K => if E.contains k = true then EffK P n0 i0 o σ c fun σ' c' => allLeafs noVar c' = true ∧ headY P ops n0 i0 E LF A D ds tr sg (k + 1) m r σ' c' K else if LF.contains k = true then frB P o σ fun σ' => headY P ops n0 i0 E LF A D ds tr sg (k + 1) m r σ' c K else match lookA A k with
  | some N => AllocK P o N σ fun σ' => headY P ops n0 i0 E LF A D ds tr sg (k + 1) m r σ' c K
  | none => headG P ops o σ fun σ' => headY P ops n0 i0 E LF A D ds tr sg (k + 1) m r σ' c K
section
variable {P : Program} {n : Nat} {t : List (Nat × AV)} {b : List (List AV)} {ops : Array Oper} {n0 i0 k m : Nat} {E LF ds : List Nat} {A D : List (Nat × Nat)} {tr : Tr} {sg : Option (Nat × Tr)} {l : List Oper} {c : List AV} {K : St → Prop}
variable {d : Nat} {T : TypeId} {pos : String} {af : Array Edge} {g : Option (Nat × Bool)}
@[congr] theorem headY_congr {n0' k' : Nat} {σ σ' : St} {c' : List AV} (h0 : n0 = n0') (h1 : k = k') (h : mkd σ = σ') (h2 : c = c') : headY P ops n0 i0 E LF A D ds tr sg k m l σ c K = headY P ops n0' i0 E LF A D ds tr sg k' m l σ' c' K := by subst_vars; rfl
def selN (o : Option Nat) (f : Nat → Prop) (p : Prop) : Prop := match o with
 | some N => f N
 | none => p
@[congr] theorem selN_congr {o o' : Option Nat} {f : Nat → Prop} {p : Prop} (h : o = o') : selN o f p = selN o' f p := by subst_vars; rfl
@[go_sem] theorem selN_some {N : Nat} {f : Nat → Prop} {p : Prop} : selN (some N) f p = f N := rfl
@[go_sem] theorem selN_none {f : Nat → Prop} {p : Prop} : selN none f p = p := rfl
@[congr] theorem AllocK_congr {o : Oper} {N : Nat} {σ σ' : St} {K : St → Prop} (h : mkd σ = σ') : AllocK P o N σ K = AllocK P o N σ' K := by subst_vars; rfl
attribute [go_sem] freeOthersD freeButD hasD lookA keptOk pbBut keptFree noPbT noPbB noPb noVar anyB
end
end Go.AM

/-! ## CmZ -/
namespace Go.AM
open Go Go.Proofs Go.RowKit
theorem Con.freezeB {P : Program} {f : FuncId} {args : List AV} {bx : List (List AV)} {post : AV → List (List AV) → Prop} (p : Nat → Bool) (h : Con P f args bx post) : Con P f args bx fun r' b' => ∃ r b, post r b ∧ r' = r.freeze p ∧ b' = b.map fun cs => cs.map (AV.freeze p) :=
 ⟨h.1, fun G w vs h1 h2 h3 h4 h5 => (h.2 G w vs h1 h2 h3 h4 h5).mono fun e w' ⟨v, r, bx', G', he, hq, hr, hg, hbx, hlt, e1, e2, e3, e4, e5, e6⟩ => by
  have hbox : ∀ k i, freezeG p G' k = .box i ↔ G' k = .box i := fun k i => by
   unfold freezeG; split
   ·rename_i t ht; split <;> simp [ht]
   ·exact Iff.rfl
  refine ⟨v, _, bx'.map (fun cs => cs.map (AV.freeze p)), freezeG p G', he, ⟨r, bx', hq, rfl, rfl⟩, hr.freeze, hg.freeze, ⟨fun i vs hv => by simp [noGh] at hv, fun i cs hi => ?_⟩, fun k i hk => by simpa using hlt k i ((hbox k i).1 hk), e1, e2, e3, e4, fun k hk => ?_, e6⟩
  ·rw [List.getElem?_map] at hi
   cases hc : bx'[i]? with
   | none => simp [hc] at hi
   | some cs' =>
    simp [hc] at hi; subst hi
    exact (hbx.cell i cs' hc).map (fun x v hr => hr.freeze) (fun k hk => ⟨(hbox k i).2 hk, rfl⟩) fun h0 k hk => h0 k ((hbox k i).1 hk)
  ·have := e5 k hk
   unfold freezeG
   split
   ·rename_i t ht; rw [this] at ht; exact absurd ht (h2 k t)
   ·exact this⟩
def kidN (n : Int) : AV := .ag [vi n, .nil]
def cfgN (t s : Nat) (v : List Int) : AV := .ag [vi 0, .sl t 2 (((s : Int) :: v).map kidN)]
attribute [go_sem] kidN cfgN
end Go.AM

/-! ## HA -/
namespace Go.AM
open Go Go.Proofs Go.RowKit
set_option maxRecDepth 100000
abbrev DS := Nat × Int
def deckA (l : List Int) (s : DS) : List AV := [.sl 0 1 (l.map vi), .sc (.int .i64 s.1), .sc (.int .u64 s.2)]
attribute [go_sem] deckA
def Dk (l : List Int) (s : DS) : Prop := s.1 ≤ l.length ∧ l.length ≤ 1000
theorem con_dNew (l : List Int) : Con Try.prog 11 [vs 0 l] [] fun r b => r = .pb 0 0 ∧ b = [deckA l (0, 11400714819323198485)] := by
 refine Con.intro Try.func11 rfl Try.ntmps11 Try.results11 (by kernel_rfl) (by simp) 1 (by simp) ?_
 simp only [go_sem]
theorem u64_range (x : Int) : 0 ≤ IntKind.u64.wrap x ∧ IntKind.u64.wrap x < 18446744073709551616 := by
 rw [IntKind.wrap_u64]; omega
def longX (l : List Int) (s : DS) : Int := if s.1 < l.length then IntKind.u64.wrap l[s.1]! else 0
def longT (l : List Int) (s : DS) : Int := IntKind.u64.wrap (IntKind.u64.wrap (IntKind.u64.wrap (s.2 + longX l s) * 6364136223846793005) + 1442695040888963407)
def longS (l : List Int) (s : DS) : DS := (if s.1 < l.length then s.1 + 1 else s.1, longT l s)
def mixX (x : Int) (k : Nat) : Int := IntKind.u64.wrap (BitVec.ofInt 64 x ^^^ BitVec.ofInt 64 (x.fdiv (2 ^ min k 64))).toNat
def longV (l : List Int) (s : DS) : Int := mixX (IntKind.u64.wrap (mixX (longT l s) 33 * 18397679294719823053)) 29
theorem longV_range (l : List Int) (s : DS) : 0 ≤ longV l s ∧ longV l s < 18446744073709551616 := u64_range _
theorem con_dLong (l : List Int) (s : DS) (h : Dk l s) : Con Try.prog 28 [.pb 0 0] [deckA l s]
  fun r b => r = .sc (.int .u64 (longV l s)) ∧ b = [deckA l (longS l s)] := by
 refine Con.intro Try.func28 rfl Try.ntmps28 Try.results28 (by kernel_rfl) (by simp) 1 (by simp) ?_
 obtain ⟨at_, st⟩ := s
 obtain ⟨ha, hl⟩ := h
 simp only at ha
 by_cases h : at_ < l.length
 ·simp only [go_sem]
  refine DrawK.walk 10 mixed (by kernel_rfl) ?_
  have hg := getv h
  have hw : IntKind.i64.wrap (at_ + 1) = at_ + 1 := wrap_in (by omega) (by omega)
  simp only [go_sem, h]
  refine DrawK.walk 12 mixed (by kernel_rfl) ?_
  simp only [go_sem, h, hg, hw]
  refine DrawK.walk 11 mixed (by kernel_rfl) ?_
  simp only [go_sem, longV, mixX, longS, longT, longX, h]
  rfl
 ·simp only [go_sem]
  refine DrawK.walk 10 mixed (by kernel_rfl) ?_
  simp only [go_sem, h]
  refine DrawK.walk 11 mixed (by kernel_rfl) ?_
  simp only [go_sem, longV, mixX, longS, longT, longX, h]
  rfl
end Go.AM

/-! ## HB -/
namespace Go.AM
open Go Go.Proofs Go.RowKit
set_option maxRecDepth 100000
theorem longS_dk {l : List Int} {s : DS} (h : Dk l s) : Dk l (longS l s) := by
 obtain ⟨h1, h2⟩ := h
 refine ⟨?_, h2⟩
 unfold longS
 simp only
 split <;> omega
def nextV (l : List Int) (s : DS) (n : Int) : Int := if n < 1 then 0 else (longV l s / 2) % n
def nextS (l : List Int) (s : DS) (n : Int) : DS := if n < 1 then s else longS l s
theorem nextS_dk {l : List Int} {s : DS} {n : Int} (h : Dk l s) : Dk l (nextS l s n) := by
 unfold nextS; split
 ·exact h
 ·exact longS_dk h
theorem nextV_lt {l : List Int} {s : DS} {n : Int} (hn : 1 ≤ n) : 0 ≤ nextV l s n ∧ nextV l s n < n := by
 unfold nextV
 rw [if_neg (by omega)]
 exact ⟨Int.emod_nonneg _ (by omega), Int.emod_lt_of_pos _ (by omega)⟩
theorem con_dNext (l : List Int) (s : DS) (n : Int) (h : Dk l s) : Con Try.prog 12 [.pb 0 0, vi n] [deckA l s]
  fun r b => r = vi (nextV l s n) ∧ b = [deckA l (nextS l s n)] := by
 refine Con.intro Try.func12 rfl Try.ntmps12 Try.results12 (by kernel_rfl) (by simp) 1 (by simp) ?_
 by_cases h1 : n < 1
 ·simp only [go_sem, h1, nextV, nextS]
 ·have hr := longV_range l s
  simp only [go_sem, h1, nextV, nextS]
  refine CallU.boxes (i := 0) (is := []) (bx0 := [deckA l s]) (con_dLong l s h) (by simp only [go_sem]) (by simp only [go_sem]) (by simp only [go_sem]) (by simp only [go_sem]) (by simp only [go_sem]) ?_
  rintro r b ⟨rfl, rfl⟩
  simp only [go_sem]
  have hv : IntKind.i64.wrap ((longV l s).fdiv (2 ^ min 1 64)) = longV l s / 2 := by
   have e : (2 : Int) ^ min 1 64 = 2 := rfl
   rw [e, Int.fdiv_eq_ediv_of_nonneg _ (by omega)]
   exact wrap_in (by omega) (by omega)
  rw [hv, Int.tmod_eq_emod_of_nonneg (by omega)]
  exact ⟨by omega, rfl⟩
def oneV (l : List Int) (s : DS) (n : Int) : Bool := nextV l s n == 0
theorem con_dOne (l : List Int) (s : DS) (n : Int) (h : Dk l s) : Con Try.prog 29 [.pb 0 0, vi n] [deckA l s]
  fun r b => r = vb (oneV l s n) ∧ b = [deckA l (nextS l s n)] := by
 refine Con.intro Try.func29 rfl Try.ntmps29 Try.results29 (by kernel_rfl) (by simp) 1 (by simp) ?_
 simp only [go_sem]
 refine CallU.boxes (i := 0) (is := []) (bx0 := [deckA l s]) (con_dNext l s n h) (by simp only [go_sem]) (by simp only [go_sem]) (by simp only [go_sem]) (by simp only [go_sem]) (by simp only [go_sem]) ?_
 rintro r b ⟨rfl, rfl⟩
 simp only [go_sem, oneV]
def smS (l : List Int) (s : DS) (most : Int) : Nat → DS
 | 0 => s
 | n + 1 => nextS l (smS l s most n) (most + 1)
def smV (l : List Int) (s : DS) (most : Int) : Nat → List Int
 | 0 => []
 | n + 1 => smV l s most n ++ [nextV l (smS l s most n) (most + 1)]
theorem smS_dk {l : List Int} {s : DS} {most : Int} (h : Dk l s) : ∀ n, Dk l (smS l s most n)
 | 0 => h
 | n + 1 => nextS_dk (smS_dk h n)
theorem smV_len {l : List Int} {s : DS} {most : Int} : ∀ n, (smV l s most n).length = n
 | 0 => rfl
 | n + 1 => by rw [smV, List.length_append, smV_len n]; rfl
theorem smV_low {l : List Int} {s : DS} {most : Int} (h : 0 ≤ most) : ∀ n, ∀ x ∈ smV l s most n, 0 ≤ x ∧ x ≤ most
 | 0 => fun x hx => by cases hx
 | n + 1 => fun x hx => by
  rw [smV, List.mem_append] at hx
  rcases hx with hx | hx
  ·exact smV_low h n x hx
  ·simp only [List.mem_cons, List.not_mem_nil, or_false] at hx
   have := nextV_lt (l := l) (s := smS l s most n) (n := most + 1) (by omega)
   subst hx; omega
theorem con_dSmall (l : List Int) (s : DS) (n : Nat) (most : Int) (h : Dk l s) (hn : n ≤ 1000000) (hm : -1 ≤ most ∧ most ≤ 1000000) : Con Try.prog 19 [.pb 0 0, vi n, vi most] [deckA l s]
  fun r b => r = vs 2 (smV l s most n) ∧ b = [deckA l (smS l s most n)] := by
 refine Con.intro Try.func19 rfl Try.ntmps19 Try.results19 (by kernel_rfl) (by simp) 1 (by simp) ?_
 simp only [go_sem]
 refine LoopK.intro (fun i : Nat => ⟨22, [(0, .pb 0 0), (1, vi n), (2, vi most), (7, vs 1344 (smV l s most i)), (8, vi i)], [deckA l (smS l s most i)]⟩)
  (fun i => n - i) (fun i => i ≤ n) 0 (by omega) ?_ ?_
 ·simp only [go_sem, smV, smS, List.map_nil]
 rintro i hi
 by_cases h2 : i < n
 ·have hw : IntKind.i64.wrap (i + 1) = i + 1 := wrap_in (by omega) (by omega)
  have hw2 : IntKind.i64.wrap (most + 1) = most + 1 := wrap_in (by omega) (by omega)
  simp only [go_sem, h2, hw2]
  refine CallU.boxes (i := 0) (is := []) (bx0 := [deckA l (smS l s most i)]) (con_dNext l (smS l s most i) (most + 1) (smS_dk h i)) (by simp only [go_sem]) (by simp only [go_sem]) (by simp only [go_sem]) (by simp only [go_sem]) (by simp only [go_sem]) ?_
  rintro r b ⟨rfl, rfl⟩
  have hr : roomFor ((smV l s most i).length + 1) 8 := by rw [smV_len]; simp only [roomFor]; omega
  simp only [go_sem, hr, hw]
  refine roundK.intro (i + 1) (by omega) (by omega) ?_
  simp only [go_sem, smV, smS, List.map_append, List.map_cons, List.map_nil]
 ·have e : i = n := by omega
  subst e
  simp only [go_sem, h2]
theorem con_dSmallF (l : List Int) (s : DS) (n : Nat) (most : Int) (h : Dk l s) (hn : n ≤ 1000000) (hm : -1 ≤ most ∧ most ≤ 1000000) : Con Try.prog 19 [.pb 0 0, vi n, vi most] [deckA l s]
  fun r b => r = vs 0 (smV l s most n) ∧ b = [deckA l (smS l s most n)] :=
 ((con_dSmall l s n most h hn hm).freezeB fun _ => true).mono fun r b ⟨r1, b1, ⟨h1, h2⟩, h3, h4⟩ => by
  subst h1; subst h2; subst h3; subst h4
  exact ⟨rfl, rfl⟩
end Go.AM

/-! ## MxA -/
namespace Go.AM
open Go Go.Proofs Go.RowKit
set_option maxRecDepth 100000
set_option maxHeartbeats 8000000
theorem Valid.fits {m : List (List Int)} (h : Valid m) : Fits m := ⟨by have := h.le; omega, fun row hr => by have := (h.row row hr).1; have := h.cle; omega⟩
theorem valid_check {m : List (List Int)} (h : Valid m) : mxCheckF m = 0 := by
 have h1 := h.pos; have h2 := h.le; have h3 := h.cpos; have h4 := h.cle; have h5 := h.small
 unfold mxCheckF
 rw [if_neg (by omega), if_neg (by omega), if_neg]
 intro hh
 rw [List.any_eq_true] at hh
 obtain ⟨row, hr, hb⟩ := hh
 obtain ⟨k1, k2⟩ := h.row row hr
 unfold badRow at hb
 rw [Bool.or_eq_true] at hb
 rcases hb with hb | hb
 ·have := of_decide_eq_true hb; exact this k1
 ·rw [List.any_eq_true] at hb
  obtain ⟨x, hx, hb⟩ := hb
  unfold lawBad at hb
  have := k2 x hx
  rw [Bool.or_eq_true] at hb
  rcases hb with hb | hb <;> have := of_decide_eq_true hb <;> omega
def schF (c : List (List Int)) : Int := if mxCheckF c ≠ 0 ∨ 6 < c.length then 10 else 0
theorem sch_ok {c : List (List Int)} (h : ChangeM c) : schF c = 0 := by
 unfold schF; rw [if_neg]; have := valid_check h.valid; have := h.six; omega
theorem sch_change {c : List (List Int)} (h : schF c = 0) : ChangeM c := by
 unfold schF at h
 split at h
 ·cases h
 ·exact ⟨check_ok (by omega), by omega⟩
theorem con_scheck (c : List (List Int)) (hc : Fits c) : Con Try.prog 30 [vm 0 c] [] fun r _ => r = vi (schF c) := by
 refine Con.intro Try.func30 rfl Try.ntmps30 Try.results30 (by kernel_rfl) (by simp) 0 (by simp) ?_
 simp only [go_sem]
 refine CallU.free (con_mxCheck c hc) (by simp only [go_sem]) (by simp only [go_sem]) ?_
 rintro r bx rfl
 by_cases h1 : mxCheckF c = 0
 ·by_cases h2 : 6 < c.length
  ·simp only [go_sem, h1, h2, schF]
  ·simp only [go_sem, h1, h2, schF]
 ·have hb : (mxCheckF c != 0) = true := bne_iff_ne.2 h1
  simp only [go_sem, hb, h1, schF]
theorem bit_at : ∀ s : Nat, s < 64 → ∀ i : Nat, i < 6 → (IntKind.i64.wrap ((BitVec.ofInt IntKind.i64.bits ((s : Int).fdiv (2 ^ min (i : Int).toNat IntKind.i64.bits)) &&& BitVec.ofInt IntKind.i64.bits 1).toNat : Int) == 1) = s.testBit i := by decide +kernel
theorem con_sup1 (x : Int) : Con Try.prog 61 [vi x] [] fun r _ => r = .sc (.bool (decide (x ≤ 0))) := by
 refine Con.intro Try.func61 rfl Try.ntmps61 Try.results61 (by kernel_rfl) (by simp) 0 (by simp) ?_
 simp only [go_sem]
def rowsG (c : List (List Int)) (p : Nat → Bool) (i : Nat) : List (List Int) := (inS p i).map fun k => c[k]!
theorem rowsG_succ (c : List (List Int)) (p : Nat → Bool) (i : Nat) : rowsG c p (i + 1) = rowsG c p i ++ (if p i then [c[i]!] else []) := by
 unfold rowsG; rw [inS_succ, List.map_append]; cases p i <;> rfl
theorem rowsG_zero (c : List (List Int)) (p : Nat → Bool) : rowsG c p 0 = [] := rfl
theorem rowsG_len (c : List (List Int)) (p : Nat → Bool) (i : Nat) : (rowsG c p i).length ≤ i := by unfold rowsG; rw [List.length_map]; exact inS_len p i
theorem rowsG_valid {c : List (List Int)} {p : Nat → Bool} (hc : ChangeM c) (hp : 0 < (inS p c.length).length) : Valid (rowsG c p c.length) ∧ transF (rowsG c p c.length) = turnS c p := by
 have hv := hc.valid
 have hl := rowsG_len c p c.length
 have h6 := hc.six
 have hlen : (rowsG c p c.length).length = (inS p c.length).length := by unfold rowsG; rw [List.length_map]
 have hrow : ∀ row ∈ rowsG c p c.length, row ∈ c := fun row hr => by
  obtain ⟨k, hk, rfl⟩ := List.mem_map.1 hr
  have hk := (mem_inS.1 hk).1
  rw [getElem!_pos c k hk]; exact List.getElem_mem hk
 have h0 : (rowsG c p c.length)[0]! ∈ c := hrow _ (mem_bang (by omega))
 have e0 : (rowsG c p c.length)[0]!.length = c[0]!.length := (hv.row _ h0).1
 have hcp := hv.cpos
 have hcl := hv.cle
 refine ⟨⟨by omega, by omega, by omega, by omega, by omega, fun row hr => ⟨by rw [e0]; exact (hv.row row (hrow row hr)).1, (hv.row row (hrow row hr)).2⟩⟩, ?_⟩
 unfold transF turnS
 rw [e0]
 refine List.map_congr_left fun r _ => ?_
 unfold rowsG
 rw [List.map_map]; rfl
def outG (p : Nat → Bool) (v : List Int) (n i : Nat) : List Int := (sprGo p v i).1 ++ List.replicate (n - i) 0
theorem outG_len {p : Nat → Bool} {v : List Int} {n i : Nat} (h : i ≤ n) : (outG p v n i).length = n := by
 unfold outG; rw [List.length_append, (spr_len p v i).1, List.length_replicate]; omega
theorem outG_zero (p : Nat → Bool) (v : List Int) (n : Nat) : outG p v n 0 = List.replicate n 0 := by unfold outG; rfl
theorem outG_end (p : Nat → Bool) (v : List Int) (n : Nat) : outG p v n n = (sprGo p v n).1 := by unfold outG; simp
theorem outG_set {p : Nat → Bool} {v : List Int} {n i : Nat} (h : i < n) (hp : p i = true) : (outG p v n i).set i v[(sprGo p v i).2]! = outG p v n (i + 1) := by
 have hl := (spr_len p v i).1
 obtain ⟨k, hk⟩ : ∃ k, n - i = k + 1 := ⟨n - i - 1, by omega⟩
 have hk2 : n - (i + 1) = k := by omega
 have e : (sprGo p v (i + 1)).1 = (sprGo p v i).1 ++ [v[(sprGo p v i).2]!] := by rw [sprGo, hp]; rfl
 unfold outG
 rw [hk, hk2, e, List.set_append_right _ _ (by omega), hl, Nat.sub_self, List.replicate_succ, List.set_cons_zero, List.append_assoc]; rfl
theorem outG_skip {p : Nat → Bool} {v : List Int} {n i : Nat} (h : i < n) (hp : p i = false) : outG p v n i = outG p v n (i + 1) := by
 obtain ⟨k, hk⟩ : ∃ k, n - i = k + 1 := ⟨n - i - 1, by omega⟩
 have hk2 : n - (i + 1) = k := by omega
 have e : (sprGo p v (i + 1)).1 = (sprGo p v i).1 ++ [0] := by rw [sprGo, hp]; rfl
 unfold outG
 rw [hk, hk2, e, List.replicate_succ, List.append_assoc]; rfl
theorem spr_k (p : Nat → Bool) (v : List Int) (i : Nat) : (sprGo p v (i + 1)).2 = (sprGo p v i).2 + if p i then 1 else 0 := by
 rw [(spr_len p v (i + 1)).2, (spr_len p v i).2, inS_succ, List.length_append]; cases p i <;> rfl
def supR : Option (List Int) → AV
 | none => .tup [.nil, .sc (.bool false)]
 | some y => .tup [vs 2 y, .sc (.bool true)]
theorem con_supported (c : List (List Int)) (hc : ChangeM c) (s : Nat) (hs : s < 2 ^ c.length) (h0 : s ≠ 0) : Con Try.prog 48 [vm 0 c, vi s] [] fun r _ => r = supR (semF c fun i => s.testBit i) := by
 refine Con.intro Try.func48 rfl Try.ntmps48 Try.results48 (by kernel_rfl) (by simp) 0 (by simp) ?_
 have h6 := hc.six
 have hs64 : s < 64 := Nat.lt_of_lt_of_le hs (show 2 ^ c.length ≤ 2 ^ 6 from Nat.pow_le_pow_right (by omega) h6)
 obtain ⟨p, hp⟩ : ∃ p : Nat → Bool, p = fun i => s.testBit i := ⟨_, rfl⟩
 have hbit := fun i (hi : i < c.length) => bit_at s hs64 i (by omega)
 simp only [go_sem] at hbit
 have hin : 0 < (inS p c.length).length := by rw [hp]; exact bits_some c.length h6 s hs h0
 rw [← hp]
 simp only [go_sem]
 refine LoopK.intro (fun i : Nat => ⟨78, [(0, vm 0 c), (1, vi s), (6, .sl 2048 1 ((rowsG c p i).map (vs 0))), (16, vm 0 c), (17, vi c.length), (18, vi i)], []⟩)
  (fun i => c.length - i) (fun i => i ≤ c.length) 0 (by omega) ?_ ?_
 ·simp only [go_sem, rowsG_zero, List.map_nil]
 intro i hi
 by_cases h : i < c.length
 ·have hg := getm h
  have hw : IntKind.i64.wrap (i + 1) = i + 1 := wrap_in (by omega) (by omega)
  have hb : _ = p i := (hbit i h).trans (by rw [hp])
  have hrl := rowsG_len c p i
  simp only [go_sem, h, hg, hb]
  cases hpi : p i
  ·have e : rowsG c p (i + 1) = rowsG c p i := by rw [rowsG_succ, hpi]; simp
   simp only [go_sem, hw]
   refine roundK.intro (i + 1) (by omega) (by omega) ?_
   simp only [go_sem, e]
  ·have e : rowsG c p (i + 1) = rowsG c p i ++ [c[i]!] := by rw [rowsG_succ, hpi]; rfl
   have hr : roomFor ((rowsG c p i).length + 1) 24 := by simp only [roomFor]; omega
   simp only [go_sem, hw, hr]
   refine roundK.intro (i + 1) (by omega) (by omega) ?_
   simp only [go_sem, e, List.map_append, List.map_cons, List.map_nil]
 have hil : i = c.length := by omega
 subst hil
 obtain ⟨hV, hT⟩ := rowsG_valid hc hin
 have hct := con_transpose (rowsG c p c.length) hV.fits
 have ht : transR (rowsG c p c.length) = (turnS c p, 0) := by unfold transR; rw [if_neg (by rw [valid_check hV]; simp), hT]
 rw [ht] at hct
 have hV2 := turn_valid hc hin
 have hck := con_kernel (turnS c p) hV2.fits
 have hk : kernF (turnS c p) = (kernV (turnS c p), 0) := by unfold kernF; rw [if_pos (valid_check hV2)]; rfl
 rw [hk] at hck
 simp only [go_sem, h]
 refine CallU.freeze hct (by simp only [go_sem]) (by simp only [go_sem]) ?_
 rintro r bx rfl
 simp only [go_sem, vpairm]
 refine CallU.freeze hck (by simp only [go_sem]) (by simp only [go_sem]) ?_
 rintro r bx rfl
 simp only [go_sem, vpairm]
 have hsem : semF c p = match kernV (turnS c p) with
  | [v] => if v.all (fun x => decide (0 < x)) then some (sprGo p v c.length).1 else none
  | _ => none := rfl
 have hsg := fun v (hv : kernV (turnS c p) = [v]) => kern_single hV2 hv
 generalize kernV (turnS c p) = K at hsem hsg
 match K, hsem, hsg with
 | [], hsem, _ =>
  have hsem : semF c p = none := hsem
  simp only [go_sem, hsem, supR]
 | x :: y :: K, hsem, _ =>
  have hsem : semF c p = none := hsem
  have hne : ((K.length : Int) + 1 + 1 != 1) = true := bne_iff_ne.2 (by omega)
  simp only [go_sem, hsem, supR, List.map_cons, List.length_cons, hne]
 | [v], hsem, hsg =>
  obtain ⟨g1, _⟩ := hsg v rfl
  have hsem : semF c p = if v.all (fun x => decide (0 < x)) then some (sprGo p v c.length).1 else none := hsem
  rw [turn_at hc.valid.cpos, List.length_map] at g1
  simp only [go_sem, List.map_cons, List.map_nil]
  refine CallU.free (con_containsFunc v 61 (fun x => decide (x ≤ 0)) con_sup1 (by have := inS_len p c.length; omega)) (by simp only [go_sem]) (by simp only [go_sem]) ?_
  rintro r bx rfl
  cases ha : v.any fun x => decide (x ≤ 0)
  case true =>
   have e : (v.all fun x => decide (0 < x)) = false := by
    rw [List.any_eq_true] at ha
    obtain ⟨x, hx, hx0⟩ := ha
    rw [List.all_eq_false]
    have := of_decide_eq_true hx0
    exact ⟨x, hx, by simp; omega⟩
   have hsem : semF c p = none := by rw [hsem, e]; rfl
   simp only [go_sem, hsem, supR]
  have e : (v.all fun x => decide (0 < x)) = true := by
   rw [List.any_eq_false] at ha
   rw [List.all_eq_true]
   intro x hx
   have := ha x hx
   simp at this ⊢; omega
  have hsem : semF c p = some (sprGo p v c.length).1 := by rw [hsem, e]; rfl
  simp only [go_sem]
  have hvk := fun i (hi : i < c.length) (hpi : p i = true) => inS_lt hpi c.length hi
  refine ⟨by omega, by omega, by omega, ?_⟩
  refine LoopK.intro (fun i : Nat => ⟨78, [(1, vi s), (11, .sl 2626 1 [vs 0 v]), (13, vs 3520 (outG p v c.length i)), (14, vi (sprGo p v i).2), (56, vi c.length), (57, vi i)], []⟩)
   (fun i => c.length - i) (fun i => i ≤ c.length) 0 (by omega) ?_ ?_
  ·simp only [go_sem, outG_zero, leV_refl, sprGo, List.length_replicate]
  intro i hi
  by_cases h : i < c.length
  ·have hw : IntKind.i64.wrap (i + 1) = i + 1 := wrap_in (by omega) (by omega)
   have hb : _ = p i := (hbit i h).trans (by rw [hp])
   have hk := spr_k p v i
   have ho := outG_len (p := p) (v := v) hi
   cases hpi : p i
   ·rw [hpi] at hb
    have e := outG_skip (v := v) h hpi
    rw [hpi, if_neg (by simp), Nat.add_zero] at hk
    simp only [go_sem, h, hb, hw]
    refine roundK.intro (i + 1) (by omega) (by omega) ?_
    simp only [go_sem, ← e, hk, leV_refl]
   ·rw [hpi] at hb
    have e := outG_set (v := v) h hpi
    have hkl : (sprGo p v i).2 < v.length := by rw [(spr_len p v i).2, g1]; exact hvk i h hpi
    have hgv := getv hkl
    have hv6 : v.length ≤ 6 := by have := inS_len p c.length; omega
    have hw2 : IntKind.i64.wrap ((sprGo p v i).2 + 1) = ((sprGo p v (i + 1)).2 : Nat) := by rw [hk, hpi, wrap_in (by omega) (by omega)]; simp
    simp only [go_sem, h, hb, hw, hkl, hgv, ho, modify_vi, e, hw2]
    refine roundK.intro (i + 1) (by omega) (by omega) ?_
    simp only [go_sem]
  ·have hil : i = c.length := by omega
   subst hil
   simp only [go_sem, h, outG_end, hsem, supR]
end Go.AM

/-! ## Am7 -/
namespace Go.AM
open Go.RowKit
variable {P : Program}
def CallYF (P : Program) (f : AV) (args : List AV) (d : Nat) (σ : St) (K : St → Prop) : Prop :=
 match f with
 | .fn fid caps => CallY P fid (args ++ caps) d σ K
 | _ => False
@[congr] theorem CallYF_congr {f f' : AV} {args args' : List AV} {d : Nat} {K : St → Prop} {σ σ' : St} (h0 : mkd f = f') (h1 : args = args') (h : σ = σ') : CallYF P f args d σ K = CallYF P f' args' d σ' K := by subst_vars; rfl
@[go_sem] theorem CallYF_fn {f : FuncId} {caps args : List AV} {d : Nat} {σ : St} {K : St → Prop} : CallYF P (.fn f caps) args d σ K = CallY P f (args ++ caps) d σ K := rfl
@[go_sem] theorem headOp_callF {d : Nat} {T : TypeId} {pos : String} {af : Array Edge} {g : Option (Nat × Bool)} {n : Nat} {t : List (Nat × AV)} {b : List (List AV)} {K : St → Prop} {f : Tmp} {args : List Operand} {As : Array TypeId} : headOp P ⟨some d, .call ⟨.value (.tmp f), args.toArray, As⟩, T, pos, af, g⟩ ⟨n, t, b⟩ K = andK (d < n) (CallYF P (lookT t f) (evAll ⟨n, t, b⟩ args) d ⟨n, t, b⟩ K) := by
 simp only [headOp, andK, St.ev, St.get, evAll_eq, CallYF]; rfl
end Go.AM

/-! ## CmE -/
namespace Go.AM
open Go Go.Proofs Go.RowKit
end Go.AM

/-! ## CmF -/
namespace Go.AM
open Go Go.Proofs Go.RowKit
def vAtom (a : AtomD) : AV := .ag [vs 0 a.coefs, vi a.mod, vs 0 a.values]
attribute [go_sem] vAtom
end Go.AM

/-! ## CmG -/
namespace Go.AM
open Go Go.Proofs Go.RowKit
end Go.AM

/-! ## CmH -/
namespace Go.AM
open Go Go.Proofs Go.RowKit
def u8v (c : UInt8) : AV := .sc (.int .u8 c.toNat)
attribute [go_sem] u8v vStr vss
end Go.AM

/-! ## CmI -/
namespace Go.AM
open Go Go.Proofs Go.RowKit
attribute [go_sem] vRule
end Go.AM

/-! ## CmJ -/
namespace Go.AM
open Go Go.Proofs Go.RowKit
end Go.AM

/-! ## CmK -/
namespace Go.AM
open Go Go.Proofs Go.RowKit
attribute [go_sem] vM cM
end Go.AM

/-! ## CmL -/
namespace Go.AM
open Go Go.Proofs Go.RowKit
end Go.AM

/-! ## CmM -/
namespace Go.AM
open Go Go.Proofs Go.RowKit
end Go.AM

/-! ## CmN -/
namespace Go.AM
open Go Go.Proofs Go.RowKit
theorem DrawK.meet {P : Program} {ops : Array Oper} {σ : St} {K : St → Prop} (τ : St) (h : DrawK P ops σ fun σ' => σ'.le τ) (hk : K τ) : DrawK P ops σ K :=
 fun G0 w0 G a w id Q t hs hQ => h G0 w0 G a w id Q t hs fun _ G' a' w' hl h' => hQ τ G' a' w' hk (h'.le hl)
theorem andK_mk {p q : Prop} (h1 : p) (h2 : q) : andK p q := ⟨h1, h2⟩
end Go.AM

/-! ## CmO -/
namespace Go.AM
open Go Go.Proofs Go.RowKit
def vPT (p : Int × Int) : AV := .ag [vi p.1, vi p.2, .nil, .nil]
def flatT (t : Nat) (ps : List (Int × Int)) : AV := .ag [vi 3, vi 0, .nil, .sl t 4 (ps.map vPT)]
attribute [go_sem] vPT flatT
end Go.AM

/-! ## CmP -/
namespace Go.AM
open Go Go.Proofs Go.RowKit
end Go.AM

/-! ## GA -/
namespace Go.AM
open Go Go.Proofs Go.RowKit
set_option maxRecDepth 100000
theorem con_nan (x : Int) : Con Try.prog 86 [vi x] [] fun r _ => r = .sc (.bool false) := by
 refine Con.intro Try.func86 rfl Try.ntmps86 Try.results86 (by kernel_rfl) (by simp) 0 (by simp) ?_
 simp only [go_sem]
theorem con_cmpI (x y : Int) : Con Try.prog 64 [vi x, vi y] [] fun r _ => r = vi (ordI x y) := by
 refine Con.intro Try.func64 rfl Try.ntmps64 Try.results64 (by kernel_rfl) (by simp) 0 (by simp) ?_
 simp only [go_sem]
 refine CallU.free (con_nan x) (by simp only [go_sem]) (by simp only [go_sem]) ?_
 rintro r bx rfl
 simp only [go_sem]
 refine CallU.free (con_nan y) (by simp only [go_sem]) (by simp only [go_sem]) ?_
 rintro r bx rfl
 by_cases h1 : x < y
 ·have e : ordI x y = -1 := by unfold ordI; rw [if_pos h1]
  simp only [go_sem, h1, e]
 by_cases h2 : y < x
 ·have e : ordI x y = 1 := by unfold ordI; rw [if_neg h1, if_pos h2]
  simp only [go_sem, h1, h2, e]
 ·have e : ordI x y = 0 := by unfold ordI; rw [if_neg h1, if_neg h2]
  simp only [go_sem, h1, h2, e]
end Go.AM

/-! ## LMod -/
namespace Go.AM
theorem mod_set {α : Type} {f : α → α} : ∀ {L : List α} {i : Nat} {a : α}, L[i]? = some a → L.modify i f = L.set i (f a)
 | [], _, _, h => by simp at h
 | x :: L, 0, a, h => by
  have : x = a := by simpa using h
  subst this; rfl
 | x :: L, i + 1, a, h => by
  have := mod_set (f := f) (L := L) (i := i) (a := a) (by simpa using h)
  rw [List.modify_succ_cons, this]; rfl
end Go.AM

/-! ## MxB -/
namespace Go.AM
open Go Go.Proofs Go.RowKit
set_option maxRecDepth 100000
set_option maxHeartbeats 8000000
theorem getRw {l : List (List Int)} {i : Nat} (h : i < l.length) : (l.map (vs 0))[i]? = some (.sl 0 1 (l[i]!.map vi)) := by simp [vs, h]
theorem mod_row {l : List (List Int)} {i : Nat} {r : List Int} (h : i < l.length) : (l.map (vs 0)).modify i (updElem 0 [.sl 0 1 (r.map vi)]) = (l.set i r).map (vs 0) := by
 rw [mod_set (getRw h), List.map_set]; rfl
theorem con_lexC (a b : List Int) (ha : a.length ≤ 1000000) : Con Try.prog 50 [vs 0 a, vs 0 b] [] fun r _ => r = vi (lexC a b) := by
 refine Con.intro Try.func50 rfl Try.ntmps50 Try.results50 (by kernel_rfl) (by simp) 0 (by simp) ?_
 simp only [go_sem]
 refine LoopK.intro (fun i : Nat => ⟨36, [(0, vs 0 a), (1, vs 0 b), (9, vs 0 a), (10, vi a.length), (11, vi i)], []⟩)
  (fun i => a.length - i) (fun i => i ≤ a.length ∧ i ≤ b.length ∧ lexC (a.drop i) (b.drop i) = lexC a b) 0 ⟨by omega, by omega, rfl⟩ ?_ ?_
 ·simp only [go_sem]
 rintro i ⟨hi, hj, hd⟩
 by_cases h : i < a.length
 ·have hg := getv h
  have hw : IntKind.i64.wrap (i + 1) = i + 1 := wrap_in (by omega) (by omega)
  by_cases h2 : i < b.length
  ·have hg2 := getv h2
   have h3 : ¬ (b.length : Int) ≤ i := by omega
   rw [lexC_drop h h2] at hd
   simp only [go_sem, h, h2, hg, hg2, h3]
   refine CallU.free (con_cmpI a[i]! b[i]!) (by simp only [go_sem]) (by simp only [go_sem]) ?_
   rintro r bx rfl
   by_cases h4 : ordI a[i]! b[i]! = 0
   ·have h5 : (ordI a[i]! b[i]! != 0) = false := by rw [h4]; rfl
    rw [if_neg (fun h' => h' h4)] at hd
    simp only [go_sem, h5, hw]
    refine roundK.intro (i + 1) ⟨by omega, by omega, hd⟩ (by omega) ?_
    simp only [go_sem]
   ·have h5 : (ordI a[i]! b[i]! != 0) = true := bne_iff_ne.2 h4
    rw [if_pos h4] at hd
    rw [hd] at h5
    simp only [go_sem, h5, hd]
  ·have h3 : (b.length : Int) ≤ i := by omega
   have e : lexC a b = 1 := by
    rw [← hd, show b.drop i = [] from List.drop_of_length_le (by omega), List.drop_eq_getElem_cons h]; rfl
   simp only [go_sem, h, hg, h3, e]
 ·have hil : i = a.length := by omega
  subst hil
  rw [List.drop_length] at hd
  by_cases h2 : a.length < b.length
  ·have e : lexC a b = -1 := by rw [← hd, List.drop_eq_getElem_cons h2]; rfl
   simp only [go_sem, h, h2, e]
  ·have e : lexC a b = 0 := by rw [← hd, List.drop_of_length_le (by omega)]; rfl
   simp only [go_sem, h, h2, e]
def insS : Tr := .front 0 (.front 1 (.front 2 (.front 3 (.front 5 (.front 6 (.front 10 (.front 11 (.front 12 (.alt (.one 4 (.alt (.one 7 (.front 8 (.alt (.one 9 (.one 13 (.front 14 (.one 15 (.front 16 (.one 17 .done)))))) (.one 13 (.one 9 (.front 14 (.one 15 (.front 16 (.one 17 .done))))))))) (.one 13 (.one 7 (.front 8 (.one 9 (.front 14 (.one 15 (.front 16 (.one 17 .done)))))))))) (.alt (.one 7 (.front 8 (.alt (.one 4 (.alt (.one 9 (.one 13 (.front 14 (.one 15 (.front 16 (.one 17 .done)))))) (.one 13 (.one 9 (.front 14 (.one 15 (.front 16 (.one 17 .done)))))))) (.alt (.one 9 (.alt (.one 4 (.one 13 (.front 14 (.one 15 (.front 16 (.one 17 .done)))))) (.one 13 (.front 14 (.alt (.one 4 (.one 15 (.front 16 (.one 17 .done)))) (.one 15 (.one 4 (.front 16 (.one 17 .done))))))))) (.one 13 (.alt (.one 4 (.one 9 (.front 14 (.one 15 (.front 16 (.one 17 .done)))))) (.one 9 (.front 14 (.alt (.one 4 (.one 15 (.front 16 (.one 17 .done)))) (.one 15 (.one 4 (.front 16 (.one 17 .done))))))))))))) (.one 13 (.alt (.one 4 (.one 7 (.front 8 (.one 9 (.front 14 (.one 15 (.front 16 (.one 17 .done)))))))) (.one 7 (.front 8 (.alt (.one 4 (.one 9 (.front 14 (.one 15 (.front 16 (.one 17 .done)))))) (.one 9 (.front 14 (.alt (.one 4 (.one 15 (.front 16 (.one 17 .done)))) (.one 15 (.one 4 (.front 16 (.one 17 .done))))))))))))))))))))))
theorem conw_insertR (l : List (List Int)) (h0 : 0 < l.length) (hl : l.length ≤ 12) (hr : ∀ x ∈ l, x.length ≤ 1000000) :
  ConW Try.prog 76 [.sl 2 1 (l.map (vs 0)), vi 0, vi l.length, .fn 50 []] fun r ys => r = .tup [] ∧ ys = [.sl 2 1 ((ascF l).map (vs 0)), vi 0, vi l.length, .fn 50 []] := by
 refine ConW.intro Try.func76 rfl Try.ntmps76 Try.results76 (by kernel_rfl) (by simp) ?_
 have w1 : IntKind.i64.wrap 1 = 1 := wrap_in (by omega) (by omega)
 simp only [go_sem, w1]
 refine LoopK.intro (fun p : Nat × List (List Int) => ⟨53, [(0, .sl 2 1 (p.2.map (vs 0))), (1, vi 0), (2, vi l.length), (3, .fn 50 []), (8, vi p.1)], [[.sl 2 1 (p.2.map (vs 0)), vi 0, vi l.length, .fn 50 []]]⟩)
  (fun p => l.length - p.1) (fun p => 1 ≤ p.1 ∧ p.1 ≤ l.length ∧ p.2.Perm l ∧ ∀ i j, i < j → j < p.1 → lexC p.2[i]! p.2[j]! ≤ 0) (1, l) ⟨by show 1 ≤ 1; omega, by show 1 ≤ l.length; omega, List.Perm.refl _, fun i j h1 h2 => by simp only at h2; omega⟩ ?_ ?_
 ·simp only [go_sem]
 rintro ⟨i, D⟩ ⟨g1, g2, g3, g4⟩
 simp only at g1 g2 g3 g4
 have hDl := g3.length_eq
 by_cases hi : i < l.length
 case neg =>
  have hil : i = l.length := by omega
  have hasc : D = ascF l := asc_eq (asc_of fun p q h1 h2 => g4 p q h1 (by omega)) g3
  simp only [go_sem, hi, hasc]
 have hw : IntKind.i64.wrap (i + 1) = i + 1 := wrap_in (by omega) (by omega)
 simp only [go_sem, hi]
 refine LoopK.intro (fun p : Nat × List (List Int) => ⟨53, [(0, .sl 2 1 (p.2.map (vs 0))), (1, vi 0), (2, vi l.length), (3, .fn 50 []), (8, vi i), (9, vi p.1)], [[.sl 2 1 (p.2.map (vs 0)), vi 0, vi l.length, .fn 50 []]]⟩)
  (fun p => p.1) (fun p => SinkR l p.2 i p.1) (i, D) (SinkR.start g3 g4) ?_ ?_
 ·simp only [go_sem]
 rintro ⟨j, D2⟩ hS
 simp only at hS
 have hl2 := hS.len
 have hji := hS.ji
 simp only [go_sem]
 refine DrawK.walk 17 mixed (by kernel_rfl) ?_
 cases j with
 | zero =>
  have hz : ¬ (0 : Int) < ((0 : Nat) : Int) := by omega
  simp only [go_sem, hw]
  refine roundK.intro (i + 1, D2) ⟨by show 1 ≤ i + 1; omega, by show i + 1 ≤ l.length; omega, hS.perm, fun p q h1 h2 => hS.stop (.inl rfl) p q h1 (by simp only at h2; omega)⟩ (by show l.length - (i + 1) < l.length - i; omega) ?_
  simp only [go_sem]
 | succ k =>
  have h1 : k + 1 < D2.length := by omega
  have h2 : k < D2.length := by omega
  have hz : (0 : Int) < (k : Int) + 1 := by omega
  have hwk : IntKind.i64.wrap ((k : Int) + 1 - 1) = (k : Int) := by rw [wrap_in (by omega) (by omega)]; omega
  have ht : ((k : Int) + 1).toNat = k + 1 := by omega
  have hnn : (0 : Int) ≤ (k : Int) + 1 := by omega
  have hq : (k : Int) + 1 < (D2.length : Int) := by omega
  have q1 := getRw h1
  have q2 := getRw h2
  have hc := con_lexC D2[k + 1]! D2[k]! (hr _ (hS.perm.subset (mem_bang h1)))
  simp only [go_sem, hz, hwk, ht, hnn, hq, h2, q1, q2]
  refine CallY.mk hc (by simp only [go_sem]) (by simp only [go_sem]) (.inl (by simp only [go_sem])) ?_
  by_cases hneg : lexC D2[k + 1]! D2[k]! < 0
  ·have sl := swapR_len D2 k
   have hs1 := mod_row (r := D2[k]!) h1
   have hs2 := mod_row (l := D2.set (k + 1) D2[k]!) (r := D2[k + 1]!) (i := k) (by rw [List.length_set]; exact h2)
   have hsw : (D2.set (k + 1) D2[k]!).set k D2[k + 1]! = swapR D2 k := rfl
   rw [hsw] at hs2
   simp only [go_sem, hneg]
   refine DrawK.meet ⟨53, [(0, .sl 2 1 ((swapR D2 k).map (vs 0))), (1, vi 0), (2, vi l.length), (3, .fn 50 []), (8, vi i), (9, vi ((k : Int) + 1))], [[.sl 2 1 ((swapR D2 k).map (vs 0)), vi 0, vi l.length, .fn 50 []]]⟩ ?_ ?_
   ·refine DrawK.tree insS mixed (by kernel_rfl) ?_
    unfold insS
    repeat' (first | with_reducible apply andK_mk | exact trivial | simp only [go_sem, hwk, ht, hnn, hq, h2, q1, q2, hs1, hs2, List.length_set, List.length_map])
   ·simp only [go_sem, hwk]
    refine roundK.intro (k, swapR D2 k) (hS.step (by omega) hneg) (by show k < k + 1; omega) ?_
    simp only [go_sem]
  ·simp only [go_sem, hneg, hw]
   refine roundK.intro (i + 1, D2) ⟨by show 1 ≤ i + 1; omega, by show i + 1 ≤ l.length; omega, hS.perm, fun p q h1 h2 => hS.stop (.inr (by simp only [Nat.add_sub_cancel]; omega)) p q h1 (by simp only at h2; omega)⟩ (by show l.length - (i + 1) < l.length - i; omega) ?_
   simp only [go_sem]
end Go.AM

/-! ## MxC -/
namespace Go.AM
open Go Go.Proofs Go.RowKit
set_option maxRecDepth 100000
def vq (x : Int) : AV := .sc (.int .u64 x)
theorem con_len64S (n : Nat) (hn : n ≤ 12) : Con Try.prog 85 [vq n] [] fun r _ => ∃ v, r = vi v := by
 refine Con.intro Try.func85 rfl Try.ntmps85 Try.results85 (by kernel_rfl) (by simp) 0 (by simp) ?_
 have h1 : ¬ (4294967296 : Int) ≤ n := by omega
 have h2 : ¬ (65536 : Int) ≤ n := by omega
 have h3 : ¬ (256 : Int) ≤ n := by omega
 simp only [go_sem, vq, h1, h2, h3]
 have h : n = 0 ∨ n = 1 ∨ n = 2 ∨ n = 3 ∨ n = 4 ∨ n = 5 ∨ n = 6 ∨ n = 7 ∨ n = 8 ∨ n = 9 ∨ n = 10 ∨ n = 11 ∨ n = 12 := by omega
 rcases h with rfl | rfl | rfl | rfl | rfl | rfl | rfl | rfl | rfl | rfl | rfl | rfl | rfl
 ·exact ⟨0, by kernel_rfl, by simp only [go_sem]; exact ⟨_, rfl⟩⟩
 ·exact ⟨1, by kernel_rfl, by simp only [go_sem]; exact ⟨_, rfl⟩⟩
 ·exact ⟨2, by kernel_rfl, by simp only [go_sem]; exact ⟨_, rfl⟩⟩
 ·exact ⟨2, by kernel_rfl, by simp only [go_sem]; exact ⟨_, rfl⟩⟩
 ·exact ⟨3, by kernel_rfl, by simp only [go_sem]; exact ⟨_, rfl⟩⟩
 ·exact ⟨3, by kernel_rfl, by simp only [go_sem]; exact ⟨_, rfl⟩⟩
 ·exact ⟨3, by kernel_rfl, by simp only [go_sem]; exact ⟨_, rfl⟩⟩
 ·exact ⟨3, by kernel_rfl, by simp only [go_sem]; exact ⟨_, rfl⟩⟩
 ·exact ⟨4, by kernel_rfl, by simp only [go_sem]; exact ⟨_, rfl⟩⟩
 ·exact ⟨4, by kernel_rfl, by simp only [go_sem]; exact ⟨_, rfl⟩⟩
 ·exact ⟨4, by kernel_rfl, by simp only [go_sem]; exact ⟨_, rfl⟩⟩
 ·exact ⟨4, by kernel_rfl, by simp only [go_sem]; exact ⟨_, rfl⟩⟩
 ·exact ⟨4, by kernel_rfl, by simp only [go_sem]; exact ⟨_, rfl⟩⟩
theorem con_lenS (n : Nat) (hn : n ≤ 12) : Con Try.prog 63 [vq n] [] fun r _ => ∃ v, r = vi v := by
 refine Con.intro Try.func63 rfl Try.ntmps63 Try.results63 (by kernel_rfl) (by simp) 0 (by simp) ?_
 have hc := con_len64S n hn
 simp only [vq] at hc
 simp only [go_sem, vq]
 refine CallU.free hc (by simp only [go_sem]) (by simp only [go_sem]) ?_
 rintro r bx ⟨v, rfl⟩
 simp only [go_sem]
 exact ⟨v, rfl⟩
theorem conw_pdqR (l : List (List Int)) (h0 : 0 < l.length) (hl : l.length ≤ 12) (hr : ∀ x ∈ l, x.length ≤ 1000000) (v : Int) :
  ConW Try.prog 62 [.sl 2 1 (l.map (vs 0)), vi 0, vi l.length, vi v, .fn 50 []] fun r ys => r = .tup [] ∧ ys = [.sl 2 1 ((ascF l).map (vs 0)), vi 0, vi l.length, vi v, .fn 50 []] := by
 refine ConW.intro Try.func62 rfl Try.ntmps62 Try.results62 (by kernel_rfl) (by simp) ?_
 simp only [go_sem]
 refine LoopK.intro (fun _ : Unit => ⟨148, [(0, .sl 2 1 (l.map (vs 0))), (1, vi 0), (2, vi l.length), (3, vi v), (4, .fn 50 [])], [[.sl 2 1 (l.map (vs 0)), vi 0, vi l.length, vi v, .fn 50 []]]⟩) (fun _ => 0) (fun _ => True) () trivial ?_ ?_
 ·simp only [go_sem]
 rintro ⟨⟩ _
 have hw : IntKind.i64.wrap ((l.length : Int) - 0) = l.length := by rw [wrap_in (by omega) (by omega)]; omega
 have h12 : (l.length : Int) ≤ 12 := by omega
 simp only [go_sem, hw, h12]
 refine CallU.back (conw_insertR l h0 hl hr) (by simp only [go_sem]) (by simp only [go_sem]) ?_
 rintro r ys ⟨rfl, rfl⟩
 simp only [go_sem]
 have := (asc_perm l).length_eq
 simpa [this] using h0
theorem conw_sortR (l : List (List Int)) (h0 : 0 < l.length) (hl : l.length ≤ 12) (hr : ∀ x ∈ l, x.length ≤ 1000000) :
  ConW Try.prog 49 [.sl 2 1 (l.map (vs 0)), .fn 50 []] fun r ys => r = .tup [] ∧ ys = [.sl 2 1 ((ascF l).map (vs 0)), .fn 50 []] := by
 refine ConW.intro Try.func49 rfl Try.ntmps49 Try.results49 (by kernel_rfl) (by simp) ?_
 have w2 : IntKind.u64.wrap (l.length : Int) = l.length := by rw [IntKind.wrap_u64]; omega
 have hc := con_lenS l.length hl
 simp only [vq] at hc
 simp only [go_sem, w2]
 refine CallU.free hc (by simp only [go_sem]) (by simp only [go_sem]) ?_
 rintro r bx ⟨v, rfl⟩
 simp only [go_sem]
 refine CallU.back (conw_pdqR l h0 hl hr v) (by simp only [go_sem]) (by simp only [go_sem]) ?_
 rintro r ys ⟨rfl, rfl⟩
 simp only [go_sem]
 have := (asc_perm l).length_eq
 simpa [this] using h0
theorem con_insertN : Con Try.prog 76 [.sl 0 1 [], vi 0, vi 0, .fn 50 []] [] fun r _ => r = .tup [] := by
 refine Con.intro Try.func76 rfl Try.ntmps76 Try.results76 (by kernel_rfl) (by simp) 0 (by simp) ?_
 have w1 : IntKind.i64.wrap 1 = 1 := wrap_in (by omega) (by omega)
 simp only [go_sem, w1]
 refine LoopK.intro (fun _ : Unit => ⟨53, [(2, vi 0), (8, vi 1)], []⟩) (fun _ => 0) (fun _ => True) () trivial ?_ ?_
 ·simp only [go_sem]
 rintro ⟨⟩ _
 simp only [go_sem]
theorem con_pdqN (v : Int) : Con Try.prog 62 [.sl 0 1 [], vi 0, vi 0, vi v, .fn 50 []] [] fun r _ => r = .tup [] := by
 refine Con.intro Try.func62 rfl Try.ntmps62 Try.results62 (by kernel_rfl) (by simp) 0 (by simp) ?_
 have w1 : IntKind.i64.wrap 0 = 0 := wrap_in (by omega) (by omega)
 simp only [go_sem]
 refine LoopK.intro (fun _ : Unit => ⟨148, [(0, .sl 0 1 []), (1, vi 0), (2, vi 0), (3, vi v), (4, .fn 50 [])], []⟩) (fun _ => 0) (fun _ => True) () trivial ?_ ?_
 ·simp only [go_sem]
 rintro ⟨⟩ _
 have h12 : ((0 : Int) ≤ 12) = True := eq_true (by omega)
 simp only [go_sem, w1, h12]
 refine CallU.free con_insertN (by simp only [go_sem]) (by simp only [go_sem]) ?_
 rintro r bx rfl
 simp only [go_sem]
theorem con_sortN : Con Try.prog 49 [.sl 0 1 [], .fn 50 []] [] fun r _ => r = .tup [] := by
 refine Con.intro Try.func49 rfl Try.ntmps49 Try.results49 (by kernel_rfl) (by simp) 0 (by simp) ?_
 have w2 : IntKind.u64.wrap 0 = 0 := by rw [IntKind.wrap_u64]; omega
 have hc := con_lenS 0 (by omega)
 simp only [vq] at hc
 simp only [go_sem, w2]
 refine CallU.free hc (by simp only [go_sem]) (by simp only [go_sem]) ?_
 rintro r bx ⟨v, rfl⟩
 simp only [go_sem]
 refine CallU.free (con_pdqN v) (by simp only [go_sem]) (by simp only [go_sem]) ?_
 rintro r bx rfl
 simp only [go_sem]
end Go.AM

/-! ## MxD -/
namespace Go.AM
open Go Go.Proofs Go.RowKit
set_option maxRecDepth 100000
set_option maxHeartbeats 8000000
def ofS (c : List (List Int)) : List (List Int) := ascF (ofL c)
def ofG (c : List (List Int)) (s : Nat) : List (List Int) := (List.range s).filterMap (semB c)
theorem ofG_succ (c : List (List Int)) (s : Nat) : ofG c (s + 1) = ofG c s ++ (match semB c s with | some y => [y] | none => []) := by
 unfold ofG; rw [List.range_succ, List.filterMap_append]; cases h : semB c s <;> simp [h]
theorem ofG_len (c : List (List Int)) (s : Nat) : (ofG c s).length ≤ s := by
 unfold ofG; have := List.length_filterMap_le (semB c) (List.range s); rwa [List.length_range] at this
theorem ofG_one (c : List (List Int)) : ofG c 1 = [] := rfl
theorem ofG_all (c : List (List Int)) : ofG c (2 ^ c.length) = ofL c := rfl
theorem ofL_len {c : List (List Int)} (hc : ChangeM c) : ∀ y ∈ ofL c, y.length ≤ 1000000 := fun y hy => by
 obtain ⟨_, _, _, _, h, _⟩ := of_mem hc hy
 have := hc.six; omega
theorem shl_at : ∀ n : Nat, n ≤ 6 → IntKind.i64.wrap (1 * 2 ^ min (n : Int).toNat IntKind.i64.bits) = ((2 ^ n : Nat) : Int) := by decide +kernel
theorem con_of (c : List (List Int)) (hc : ChangeM c) (h12 : (ofL c).length ≤ 12) : Con Try.prog 31 [vm 0 c] [] fun r _ => r = vm 2 (ofS c) := by
 refine Con.intro Try.func31 rfl Try.ntmps31 Try.results31 (by kernel_rfl) (by simp) 0 (by simp) ?_
 have h6 := hc.six
 have hpow : 1 ≤ 2 ^ c.length ∧ 2 ^ c.length ≤ 64 := ⟨Nat.one_le_two_pow, show 2 ^ c.length ≤ 2 ^ 6 from Nat.pow_le_pow_right (by omega) h6⟩
 have hsh := shl_at c.length h6
 simp only [go_sem] at hsh
 obtain ⟨N, hN⟩ : ∃ N, N = 2 ^ c.length := ⟨_, rfl⟩
 have hall := ofG_all c
 rw [← hN] at hsh hpow hall
 simp only [go_sem]
 refine LoopK.intro (fun s : Nat => ⟨28, [(0, vm 0 c), (3, .sl 1600 1 ((ofG c s).map (vs 0))), (4, vi s)], []⟩)
  (fun s => N - s) (fun s => 1 ≤ s ∧ s ≤ N) 1 ⟨by omega, by omega⟩ ?_ ?_
 ·simp only [go_sem, ofG_one, List.map_nil]
 rintro s ⟨hs1, hs2⟩
 have hlen := ofG_len c s
 have hnext := ofG_succ c s
 by_cases h : s < N
 ·have hw : IntKind.i64.wrap (s + 1) = s + 1 := wrap_in (by omega) (by omega)
  have hsb : semB c s = semF c fun i => s.testBit i := by unfold semB; rw [if_neg (by omega)]
  simp only [go_sem, hsh, h]
  refine CallU.free (con_supported c hc s (by rw [← hN]; exact h) (by omega)) (by simp only [go_sem]) (by simp only [go_sem]) ?_
  rintro r bx rfl
  rw [← hsb]
  cases hb : semB c s with
  | none =>
   have e : ofG c (s + 1) = ofG c s := by rw [hnext, hb]; simp
   simp only [go_sem, supR, hw]
   refine roundK.intro (s + 1) ⟨by omega, by omega⟩ (by omega) ?_
   simp only [go_sem, e]
  | some y =>
   have e : ofG c (s + 1) = ofG c s ++ [y] := by rw [hnext, hb]
   have hr : roomFor ((ofG c s).length + 1) 24 := by simp only [roomFor]; omega
   simp only [go_sem, supR, hw, hr]
   refine roundK.intro (s + 1) ⟨by omega, by omega⟩ (by omega) ?_
   simp only [go_sem, e, List.map_append, List.map_cons, List.map_nil]
 have hsN : s = N := by omega
 subst hsN
 rw [hall]
 have hlt : ¬ s < s := by omega
 simp only [go_sem, hsh, hlt]
 by_cases h0 : ofL c = []
 ·have e : ofS c = [] := by unfold ofS; rw [h0]; exact (asc_perm []).eq_nil
  simp only [go_sem, h0, List.map_nil]
  refine CallU.flat con_sortN (by simp only [go_sem]) (by simp only [go_sem]) ?_
  rintro r bx rfl
  simp only [go_sem, e, List.map_nil]
 ·have h1 : 0 < (ofL c).length := List.length_pos_iff.2 h0
  refine CallU.back (conw_sortR (ofL c) h1 h12 (ofL_len hc)) (by simp only [go_sem]) (by simp only [go_sem]) ?_
  rintro r ys ⟨rfl, rfl⟩
  have := (asc_perm (ofL c)).length_eq
  simp only [go_sem, ofS]
  all_goals exact decide_eq_true h1
def ofR (c : List (List Int)) : AV := if schF c = 0 then .tup [vm 2 (ofS c), vi 0] else .tup [.nil, vi (schF c)]
theorem con_Of (c : List (List Int)) (hF : Fits c) (h12 : ChangeM c → (ofL c).length ≤ 12) : Con Try.prog 14 [vm 0 c] [] fun r _ => r = ofR c := by
 refine Con.intro Try.func14 rfl Try.ntmps14 Try.results14 (by kernel_rfl) (by simp) 0 (by simp) ?_
 simp only [go_sem]
 refine CallU.free (con_scheck c hF) (by simp only [go_sem]) (by simp only [go_sem]) ?_
 rintro r bx rfl
 by_cases h : schF c = 0
 ·have hc := sch_change h
  simp only [go_sem, h]
  refine CallU.free (con_of c hc (h12 hc)) (by simp only [go_sem]) (by simp only [go_sem]) ?_
  rintro r bx rfl
  simp only [go_sem, ofR, h]
 ·have hb : (schF c != 0) = true := bne_iff_ne.2 h
  simp only [go_sem, hb, ofR, h]
end Go.AM

/-! ## MxE -/
namespace Go.AM
open Go Go.Proofs Go.RowKit
set_option maxRecDepth 100000
set_option maxHeartbeats 8000000
open Go.La (sum sum_congr)
theorem con_sdot (a b : List Int) (h : a.length ≤ b.length) (ha : a.length ≤ 140737488355328) : Con Try.prog 41 [vs 0 a, vs 0 b] [] fun r _ => r = vi (dotF a b) := by
 refine Con.intro Try.func41 rfl Try.ntmps41 Try.results41 (by kernel_rfl) (by simp) 0 (by simp) ?_
 simp only [go_sem]
 refine LoopK.intro (fun i : Nat => ⟨25, [(1, .sl 0 1 (b.map vi)), (5, .sc (.int .i64 (dotN a b i))), (8, .sl 0 1 (a.map vi)), (9, .sc (.int .i64 a.length)), (10, .sc (.int .i64 i))], []⟩)
  (fun i => a.length - i) (fun i => i ≤ a.length) 0 (by omega) ?_ ?_
 ·simp only [go_sem, dotN]
 ·intro i hi
  by_cases hia : i < a.length
  ·have hib : i < b.length := by omega
   have hga := getv hia
   have hgb := getv hib
   have hw : IntKind.i64.wrap (i + 1) = i + 1 := wrap_in (by omega) (by omega)
   simp only [go_sem, hia, hib, hga, hgb, hw]
   refine roundK.intro (i + 1) (by omega) (by omega) ?_
   simp only [go_sem, dotN, w64]
  ·have : i = a.length := by omega
   subst this
   simp only [go_sem, Nat.lt_irrefl, dotF]
theorem dotN_sum {a b : List Int} : ∀ k : Nat, k ≤ 7 → (∀ i, i < k → -1152921504606846976 ≤ a[i]! * b[i]! ∧ a[i]! * b[i]! ≤ 1152921504606846976) →
  dotN a b k = sum (fun i => a[i]! * b[i]!) k ∧ -(k * 1152921504606846976) ≤ sum (fun i => a[i]! * b[i]!) k ∧ sum (fun i => a[i]! * b[i]!) k ≤ k * 1152921504606846976
 | 0, _, _ => by simp [dotN, sum]
 | k + 1, hk, h => by
  obtain ⟨e, h1, h2⟩ := dotN_sum (a := a) (b := b) k (by omega) fun i hi => h i (by omega)
  have h3 := h k (by omega)
  simp only [dotN, sum, e, w64]
  rw [wrap_in (n := a[k]! * b[k]!) (by omega) (by omega), wrap_in (by omega) (by omega)]
  refine ⟨rfl, ?_, ?_⟩ <;> omega
theorem dot_sum {y v : List Int} {B C : Int} (hl : y.length ≤ 7) (hy : ∀ i, i < y.length → -B ≤ y[i]! ∧ y[i]! ≤ B) (hv : ∀ i, i < y.length → -C ≤ v[i]! ∧ v[i]! ≤ C) (hBC : B * C ≤ 1152921504606846976) : dotF y v = dotY y v :=
 (dotN_sum y.length hl fun i hi => by
  have h1 := hy i hi; have h2 := hv i hi
  have := mul_bound h1.1 h1.2 h2.1 h2.2
  exact ⟨by omega, by omega⟩).1
def wBad (x : Int) : Bool := decide (x < 0) || decide (1099511627776 < x)
def nBad (x : Int) : Bool := decide (x < 0) || decide (1048576 < x)
theorem con_sweights1 (x : Int) : Con Try.prog 55 [vi x] [] fun r _ => r = .sc (.bool (wBad x)) := by
 refine Con.intro Try.func55 rfl Try.ntmps55 Try.results55 (by kernel_rfl) (by simp) 0 (by simp) ?_
 by_cases h : x < 0 <;> simp only [go_sem, h, wBad]
theorem con_snumbers1 (x : Int) : Con Try.prog 58 [vi x] [] fun r _ => r = .sc (.bool (nBad x)) := by
 refine Con.intro Try.func58 rfl Try.ntmps58 Try.results58 (by kernel_rfl) (by simp) 0 (by simp) ?_
 by_cases h : x < 0 <;> simp only [go_sem, h, nBad]
theorem con_sweights (l : List Int) (hl : l.length ≤ 9223372036854775806) : Con Try.prog 36 [vs 0 l] [] fun r _ => r = .sc (.bool (!l.any wBad)) := by
 refine Con.intro Try.func36 rfl Try.ntmps36 Try.results36 (by kernel_rfl) (by simp) 0 (by simp) ?_
 simp only [go_sem]
 refine CallU.free (con_containsFunc l 55 wBad con_sweights1 hl) (by simp only [go_sem]) (by simp only [go_sem]) ?_
 rintro r bx rfl
 simp only [go_sem]
theorem con_snumbers (l : List Int) (hl : l.length ≤ 9223372036854775806) : Con Try.prog 42 [vs 0 l] [] fun r _ => r = .sc (.bool (!l.any nBad)) := by
 refine Con.intro Try.func42 rfl Try.ntmps42 Try.results42 (by kernel_rfl) (by simp) 0 (by simp) ?_
 simp only [go_sem]
 refine CallU.free (con_containsFunc l 58 nBad con_snumbers1 hl) (by simp only [go_sem]) (by simp only [go_sem]) ?_
 rintro r bx rfl
 simp only [go_sem]
def mxN (l : List Int) : Nat → Int
 | 0 => l[0]!
 | k + 1 => max (mxN l k) l[k + 1]!
theorem con_smax (l : List Int) (h0 : 0 < l.length) (hl : l.length ≤ 1000000) : Con Try.prog 37 [vs 0 l] [] fun r _ => r = vi (mxN l (l.length - 1)) := by
 refine Con.intro Try.func37 rfl Try.ntmps37 Try.results37 (by kernel_rfl) (by simp) 0 (by simp) ?_
 have h1 : ¬ (l.length : Int) < 1 := by omega
 have hg := getv h0
 simp only [go_sem, h1, h0, hg]
 refine LoopK.intro (fun i : Nat => ⟨25, [(0, vs 0 l), (3, vi (mxN l i)), (4, vi ((i : Int) + 1))], []⟩)
  (fun i => l.length - i) (fun i => i < l.length) 0 h0 ?_ ?_
 ·simp only [go_sem, mxN]
  all_goals exact leV_int (by omega)
 intro i hi
 by_cases h : i + 1 < l.length
 ·have hg := getv h
  have hw : IntKind.i64.wrap ((i : Int) + 1 + 1) = ((i + 1 : Nat) : Int) + 1 := wrap_in (by omega) (by omega)
  have ht : ((i : Int) + 1).toNat = i + 1 := by omega
  have hn : (0 : Int) ≤ (i : Int) + 1 := by omega
  have hq : (i : Int) + 1 < (l.length : Int) := by omega
  simp only [go_sem, hq, ht, hn, hg, hw]
  refine roundK.intro (i + 1) h (by omega) ?_
  simp only [go_sem, mxN]
 ·have hq : ¬ (i : Int) + 1 < (l.length : Int) := by omega
  have e : l.length - 1 = i := by omega
  simp only [go_sem, hq, e]
theorem mx_zero {l : List Int} : ∀ k : Nat, (∀ i : Nat, i ≤ k → 0 ≤ l[i]!) → 0 ≤ mxN l k ∧ (mxN l k = 0 ↔ ∀ i : Nat, i ≤ k → l[i]! = 0)
  | 0, h => ⟨h 0 (by omega), ⟨fun e i hi => by have : i = 0 := by omega
                                               subst this; exact e, fun e => e 0 (by omega)⟩⟩
  | k + 1, h => by
    obtain ⟨h1, h2⟩ := mx_zero k fun i hi => h i (by omega)
    have h3 := h (k + 1) (by omega)
    rw [mxN]
    refine ⟨by omega, fun e i hi => ?_, fun e => ?_⟩
    · by_cases hk : i ≤ k
      · exact h2.1 (by omega) i hk
      · have : i = k + 1 := by omega
        subst this; omega
    · have := h2.2 fun i hi => e i (by omega)
      have := e (k + 1) (by omega)
      omega
def TellsRw (f : FuncId) (caps : List AV) (l : List (List Int)) (p : List Int → Bool) : Prop := ∀ x ∈ l, Con Try.prog f ([vs 0 x] ++ caps) [] fun r _ => r = .sc (.bool (p x))
theorem con_indexRows (l : List (List Int)) (f : FuncId) (caps : List AV) (p : List Int → Bool) (hc : mapTops (viewV []) caps = caps) (hf : TellsRw f caps l p) (hl : l.length ≤ 9223372036854775806) : Con Try.prog 57 [vm 0 l, .fn f caps] [] fun r _ => r = vi (findI p l) := by
 refine Con.intro Try.func57 rfl Try.ntmps57 Try.results57 (by kernel_rfl) (by simp) 0 (by simp) ?_
 simp only [go_sem]
 refine LoopK.intro (fun i : Nat => ⟨19, [(0, vm 0 l), (1, .fn f caps), (7, vi l.length), (8, vi i)], []⟩)
  (fun i => l.length - i) (fun i => i ≤ l.length ∧ ∀ j, j < i → p l[j]! = false) 0 ⟨by omega, fun j hj => by omega⟩ ?_ ?_
 ·simp only [go_sem]
 ·rintro i ⟨hi, hb⟩
  by_cases h : i < l.length
  ·have hg := getm h
   have hw : IntKind.i64.wrap (i + 1) = i + 1 := wrap_in (by omega) (by omega)
   simp only [go_sem, h, hg]
   refine CallU.look (hf l[i]! (mem_bang h)) (by simp only [go_sem]) (by simp only [go_sem, hc]) ?_
   rintro r bx rfl
   cases hp : p l[i]!
   ·simp only [go_sem, hw]
    refine roundK.intro (i + 1) ⟨by omega, fun j hj => ?_⟩ (by omega) ?_
    ·by_cases hji : j = i
     ·subst hji; exact hp
     ·exact hb j (by omega)
    ·simp only [go_sem]
   ·simp only [go_sem]
    rw [findI_stop h hb hp]
  ·simp only [go_sem, h]
   rw [findI_none (fun j hj => hb j (by omega))]
theorem con_containsRows (l : List (List Int)) (f : FuncId) (caps : List AV) (p : List Int → Bool) (hc : mapTops (viewV []) caps = caps) (hf : TellsRw f caps l p) (hl : l.length ≤ 9223372036854775806) : Con Try.prog 39 [vm 0 l, .fn f caps] [] fun r _ => r = .sc (.bool (l.any p)) := by
 refine Con.intro Try.func39 rfl Try.ntmps39 Try.results39 (by kernel_rfl) (by simp) 0 (by simp) ?_
 simp only [go_sem]
 refine CallU.look (con_indexRows l f caps p hc hf hl) (by simp only [go_sem]) (by simp only [go_sem]) ?_
 rintro r bx rfl
 simp only [go_sem, findI_ge]
theorem con_sholds1 (y x : List Int) (h : y.length ≤ x.length) (hy : y.length ≤ 140737488355328) : Con Try.prog 40 [vs 0 x, .fp [vs 0 y] 0] [] fun r _ => r = .sc (.bool (dotF y x != 0)) := by
 refine Con.intro Try.func40 rfl Try.ntmps40 Try.results40 (by kernel_rfl) (by simp) 0 (by simp) ?_
 simp only [go_sem]
 refine CallU.free (con_sdot y x h hy) (by simp only [go_sem]) (by simp only [go_sem]) ?_
 rintro r bx rfl
 simp only [go_sem]
def sflowF (c : List (List Int)) (y : List Int) : Bool := !(schF c != 0) && (!(y.length != c.length) && (!(y.any wBad) && (!(mxN y (y.length - 1) == 0) && !((transF c).any fun x => dotF y x != 0))))
theorem con_Holds (c : List (List Int)) (y : List Int) (hF : Fits c) (hy : y.length ≤ 140737488355328) : Con Try.prog 17 [vm 0 c, vs 0 y] [] fun r _ => r = .sc (.bool (sflowF c y)) := by
 refine Con.intro Try.func17 rfl Try.ntmps17 Try.results17 (by kernel_rfl) (by simp) 0 (by simp) ?_
 simp only [go_sem]
 refine CallU.free (con_scheck c hF) (by simp only [go_sem]) (by simp only [go_sem]) ?_
 rintro r bx rfl
 by_cases h : schF c = 0
 case neg =>
  have hb : (schF c != 0) = true := bne_iff_ne.2 h
  simp only [go_sem, hb, sflowF, Bool.not_true, Bool.false_and]
 have hc := sch_change h
 have hb : (schF c != 0) = false := by rw [h]; rfl
 by_cases h2 : y.length = c.length
 case neg =>
  have hb2 : (y.length != c.length) = true := bne_iff_ne.2 h2
  simp only [go_sem, hb, h2, hb2, sflowF, Bool.not_true, Bool.false_and, Bool.not_false, Bool.true_and]
 have hb2 : (y.length != c.length) = false := by rw [h2]; simp
 have h6 := hc.six
 have hp := hc.valid.pos
 simp only [go_sem, hb, h2]
 refine CallU.free (con_sweights y (by omega)) (by simp only [go_sem]) (by simp only [go_sem]) ?_
 rintro r bx rfl
 cases h3 : y.any wBad
 case true =>
  simp only [go_sem, hb, hb2, h3, sflowF, Bool.not_true, Bool.false_and, Bool.not_false, Bool.true_and]
 simp only [go_sem]
 refine CallU.free (con_smax y (by omega) (by omega)) (by simp only [go_sem]) (by simp only [go_sem]) ?_
 rintro r bx rfl
 cases h4 : (mxN y (y.length - 1) == 0)
 case true =>
  simp only [go_sem, hb, hb2, h3, h4, sflowF, Bool.not_true, Bool.false_and, Bool.not_false, Bool.true_and]
 simp only [go_sem, h4]
 have ht : transR c = (transF c, 0) := by unfold transR; rw [if_neg (by rw [valid_check hc.valid]; simp)]
 have hct := con_transpose c hF
 rw [ht] at hct
 refine CallU.free hct (by simp only [go_sem]) (by simp only [go_sem]) ?_
 rintro r bx rfl
 simp only [go_sem, vpairm]
 have hlen : (transF c).length = c[0]!.length := by simp [transF]
 have hcle := hc.valid.cle
 refine CallU.look (con_containsRows (transF c) 40 [.fp [vs 0 y] 0] (fun x => dotF y x != 0) (by simp only [go_sem]) (fun x hx => con_sholds1 y x (by
  obtain ⟨j, _, rfl⟩ := List.mem_map.1 hx
  rw [List.length_map]; omega) hy) (by omega)) (by simp only [go_sem]) (by simp only [go_sem]) ?_
 rintro r bx rfl
 simp only [go_sem, hb, hb2, h3, h4, sflowF, Bool.not_false, Bool.true_and]
end Go.AM

/-! ## MxF -/
namespace Go.AM
open Go Go.Proofs Go.RowKit
set_option maxRecDepth 100000
set_option maxHeartbeats 8000000
open Go.La (sum sum_congr)
theorem ofS_row {c : List (List Int)} (hc : ChangeM c) : ∀ y ∈ ofS c, y.length = c.length := fun y hy => by
 obtain ⟨_, _, _, _, h, _⟩ := of_mem hc ((asc_perm (ofL c)).subset hy)
 exact h
theorem ofS_len {c : List (List Int)} : (ofS c).length = (ofL c).length := (asc_perm (ofL c)).length_eq
theorem con_sallows1 (y s v : List Int) (h1 : y.length ≤ s.length) (h2 : y.length ≤ v.length) (hy : y.length ≤ 140737488355328) : Con Try.prog 45 [vs 0 y, .fp [vs 0 s] 0, .fp [vs 0 v] 0] [] fun r _ => r = .sc (.bool (dotF y s != dotF y v)) := by
 refine Con.intro Try.func45 rfl Try.ntmps45 Try.results45 (by kernel_rfl) (by simp) 0 (by simp) ?_
 simp only [go_sem]
 refine DrawK.walk 8 mixed (by kernel_rfl) ?_
 simp only [go_sem]
 refine CallY.mk (con_sdot y s h1 hy) (by simp only [go_sem]) (by simp only [go_sem]) (.inl (by simp only [go_sem])) ?_
 simp only [go_sem]
 refine CallY.mk (con_sdot y v h2 hy) (by simp only [go_sem]) (by simp only [go_sem]) (.inl (by simp only [go_sem])) ?_
 simp only [go_sem]
def allowsR (c : List (List Int)) (s v : List Int) : Bool × Int :=
 if schF c ≠ 0 then (false, schF c) else if s.length ≠ c.length ∨ v.length ≠ c.length then (false, 3) else if s.any nBad = true ∨ v.any nBad = true then (false, 2)
 else (!(ofS c).any fun y => dotF y s != dotF y v, 0)
theorem con_Allows (c : List (List Int)) (s v : List Int) (hF : Fits c) (_hs : s.length ≤ 140737488355328) (_hv : v.length ≤ 140737488355328) (h12 : ChangeM c → (ofL c).length ≤ 12) :
  Con Try.prog 22 [vm 0 c, vs 0 s, vs 0 v] [] fun r _ => r = .tup [.sc (.bool (allowsR c s v).1), vi (allowsR c s v).2] := by
 refine Con.intro Try.func22 rfl Try.ntmps22 Try.results22 (by kernel_rfl) (by simp) 0 (by simp) ?_
 simp only [go_sem]
 refine CallU.free (con_scheck c hF) (by simp only [go_sem]) (by simp only [go_sem]) ?_
 rintro r bx rfl
 by_cases h : schF c = 0
 case neg =>
  have hb : (schF c != 0) = true := bne_iff_ne.2 h
  have e : allowsR c s v = (false, schF c) := by unfold allowsR; rw [if_pos h]
  simp only [go_sem, hb, e]
 have hc := sch_change h
 have h6 := hc.six
 have hb : (schF c != 0) = false := by rw [h]; rfl
 by_cases h1 : s.length = c.length
 case neg =>
  have e : allowsR c s v = (false, 3) := by unfold allowsR; rw [if_neg (fun h' => h' h), if_pos (.inl h1)]
  simp only [go_sem, hb, h1, e]
 by_cases h2 : v.length = c.length
 case neg =>
  have e : allowsR c s v = (false, 3) := by unfold allowsR; rw [if_neg (fun h' => h' h), if_pos (.inr h2)]
  simp only [go_sem, hb, h1, h2, e]
 simp only [go_sem, hb, h1, h2]
 refine CallU.free (con_snumbers s (by omega)) (by simp only [go_sem]) (by simp only [go_sem]) ?_
 rintro r bx rfl
 cases h3 : s.any nBad
 case true =>
  have e : allowsR c s v = (false, 2) := by unfold allowsR; rw [if_neg (fun h' => h' h), if_neg (by omega), if_pos (.inl h3)]
  simp only [go_sem, e]
 simp only [go_sem]
 refine CallU.free (con_snumbers v (by omega)) (by simp only [go_sem]) (by simp only [go_sem]) ?_
 rintro r bx rfl
 cases h4 : v.any nBad
 case true =>
  have e : allowsR c s v = (false, 2) := by unfold allowsR; rw [if_neg (fun h' => h' h), if_neg (by omega), if_pos (.inr h4)]
  simp only [go_sem, e]
 simp only [go_sem]
 refine CallU.free (con_of c hc (h12 hc)) (by simp only [go_sem]) (by simp only [go_sem]) ?_
 rintro r bx rfl
 have e : allowsR c s v = (!(ofS c).any fun y => dotF y s != dotF y v, 0) := by unfold allowsR; rw [if_neg (fun h' => h' h), if_neg (by omega), if_neg (by rw [h3, h4]; simp)]
 simp only [go_sem]
 have hl := h12 hc
 have hl2 := ofS_len (c := c)
 refine CallU.look (con_containsRows (ofS c) 45 [.fp [vs 0 s] 0, .fp [vs 0 v] 0] (fun y => dotF y s != dotF y v) (by simp only [go_sem]) (fun y hy => con_sallows1 y s v (by have := ofS_row hc y hy; omega) (by have := ofS_row hc y hy; omega) (by have := ofS_row hc y hy; omega)) (by omega)) (by simp only [go_sem]) (by simp only [go_sem]) ?_
 rintro r bx rfl
 simp only [go_sem, e]
def bndG (S : List (List Int)) (start : List Int) (p : Nat) : Nat → Int × Bool
 | 0 => (0, false)
 | k + 1 => if S[k]![p]! = 0 then bndG S start p k else
  if (bndG S start p k).2 = false ∨ w64 ((dotF S[k]! start).tdiv S[k]![p]!) < (bndG S start p k).1 then (w64 ((dotF S[k]! start).tdiv S[k]![p]!), true) else bndG S start p k
def boundR (c : List (List Int)) (start : List Int) (place : Int) : Int × Bool × Int :=
 if schF c ≠ 0 then (0, false, schF c) else if start.length ≠ c.length then (0, false, 3) else if start.any nBad = true ∨ place < 0 ∨ c.length ≤ place then (0, false, 2)
 else ((bndG (ofS c) start place.toNat (ofS c).length).1, (bndG (ofS c) start place.toNat (ofS c).length).2, 0)
theorem con_Bound (c : List (List Int)) (start : List Int) (place : Int) (hF : Fits c) (_hs : start.length ≤ 140737488355328) (h12 : ChangeM c → (ofL c).length ≤ 12) :
  Con Try.prog 20 [vm 0 c, vs 0 start, vi place] [] fun r _ => r = .tup [vi (boundR c start place).1, .sc (.bool (boundR c start place).2.1), vi (boundR c start place).2.2] := by
 refine Con.intro Try.func20 rfl Try.ntmps20 Try.results20 (by kernel_rfl) (by simp) 0 (by simp) ?_
 simp only [go_sem]
 refine CallU.free (con_scheck c hF) (by simp only [go_sem]) (by simp only [go_sem]) ?_
 rintro r bx rfl
 by_cases h : schF c = 0
 case neg =>
  have hb : (schF c != 0) = true := bne_iff_ne.2 h
  have e : boundR c start place = (0, false, schF c) := by unfold boundR; rw [if_pos h]
  simp only [go_sem, hb, e]
 have hc := sch_change h
 have h6 := hc.six
 have hb : (schF c != 0) = false := by rw [h]; rfl
 by_cases h1 : start.length = c.length
 case neg =>
  have e : boundR c start place = (0, false, 3) := by unfold boundR; rw [if_neg (fun h' => h' h), if_pos h1]
  simp only [go_sem, hb, h1, e]
 simp only [go_sem, hb, h1]
 refine CallU.free (con_snumbers start (by omega)) (by simp only [go_sem]) (by simp only [go_sem]) ?_
 rintro r bx rfl
 cases h3 : start.any nBad
 case true =>
  have e : boundR c start place = (0, false, 2) := by unfold boundR; rw [if_neg (fun h' => h' h), if_neg (by omega), if_pos (.inl h3)]
  simp only [go_sem, e]
 by_cases h4 : place < 0
 ·have e : boundR c start place = (0, false, 2) := by unfold boundR; rw [if_neg (fun h' => h' h), if_neg (by omega), if_pos (.inr (.inl h4))]
  simp only [go_sem, h4, e]
 by_cases h5 : (c.length : Int) ≤ place
 ·have e : boundR c start place = (0, false, 2) := by unfold boundR; rw [if_neg (fun h' => h' h), if_neg (by omega), if_pos (.inr (.inr h5))]
  simp only [go_sem, h4, h5, e]
 obtain ⟨p, hp⟩ : ∃ p : Nat, place = p := ⟨place.toNat, by omega⟩
 have e : boundR c start place = ((bndG (ofS c) start p (ofS c).length).1, (bndG (ofS c) start p (ofS c).length).2, 0) := by
  unfold boundR; rw [if_neg (fun h' => h' h), if_neg (by omega), if_neg (by rw [h3]; simp; omega), hp]; rfl
 rw [e]
 subst hp
 simp only [go_sem, h4, h5]
 refine CallU.free (con_of c hc (h12 hc)) (by simp only [go_sem]) (by simp only [go_sem]) ?_
 rintro r bx rfl
 have hl := h12 hc
 have hl2 := ofS_len (c := c)
 have hrow := ofS_row hc
 generalize ofS c = S at hl2 hrow
 simp only [go_sem]
 refine LoopK.intro (fun k : Nat => ⟨71, [(1, vs 0 start), (2, vi p), (10, vi (bndG S start p k).1), (11, vb (bndG S start p k).2), (41, .sl 2690 1 (S.map (vs 0))), (42, vi S.length), (43, vi k)], []⟩)
  (fun k => S.length - k) (fun k => k ≤ S.length) 0 (by omega) ?_ ?_
 ·simp only [go_sem, bndG]
 intro k hk
 by_cases hlt : k < S.length
 ·have hg := getm hlt
  have hw : IntKind.i64.wrap (k + 1) = k + 1 := wrap_in (by omega) (by omega)
  have hrl := hrow S[k]! (mem_bang hlt)
  have hpl : p < S[k]!.length := by omega
  have hgp := getv hpl
  have hn : bndG S start p (k + 1) = if S[k]![p]! = 0 then bndG S start p k else if (bndG S start p k).2 = false ∨ w64 ((dotF S[k]! start).tdiv S[k]![p]!) < (bndG S start p k).1 then (w64 ((dotF S[k]! start).tdiv S[k]![p]!), true) else bndG S start p k := rfl
  by_cases h0 : S[k]![p]! = 0
  ·have h0b : (S[k]![p]! == 0) = true := by rw [h0]; rfl
   rw [if_pos h0] at hn
   simp only [go_sem, hlt, hg, hpl, hgp, h0b, hw]
   refine roundK.intro (k + 1) (by omega) (by omega) ?_
   simp only [go_sem, hn]
  ·have h0b : (S[k]![p]! == 0) = false := beq_eq_false_iff_ne.2 h0
   rw [if_neg h0] at hn
   simp only [go_sem, hlt, hg, hpl, hgp, h0b]
   refine DrawK.walk 9 mixed (by kernel_rfl) ?_
   simp only [go_sem]
   refine CallY.mk (con_sdot S[k]! start (by omega) (by omega)) (by simp only [go_sem]) (by simp only [go_sem]) (.inl (by simp only [go_sem])) ?_
   simp only [go_sem, hpl, hgp]
   refine ⟨h0, ?_⟩
   cases hf : (bndG S start p k).2
   ·have hn : bndG S start p (k + 1) = (w64 ((dotF S[k]! start).tdiv S[k]![p]!), true) := by rw [hn, if_pos (.inl hf)]
    simp only [go_sem, hw]
    refine roundK.intro (k + 1) (by omega) (by omega) ?_
    simp only [go_sem, hn, w64]
   ·by_cases hlt2 : w64 ((dotF S[k]! start).tdiv S[k]![p]!) < (bndG S start p k).1
    ·have hn : bndG S start p (k + 1) = (w64 ((dotF S[k]! start).tdiv S[k]![p]!), true) := by rw [hn, if_pos (.inr hlt2)]
     simp only [w64] at hlt2
     simp only [go_sem, hlt2, hw]
     refine roundK.intro (k + 1) (by omega) (by omega) ?_
     simp only [go_sem, hn, w64]
    ·have hn : bndG S start p (k + 1) = bndG S start p k := by rw [hn, if_neg (fun h' => h'.elim (fun h'' => by rw [hf] at h''; cases h'') hlt2)]
     simp only [w64] at hlt2
     simp only [go_sem, hlt2, hw]
     refine roundK.intro (k + 1) (by omega) (by omega) ?_
     simp only [go_sem, hn, hf]
 ·have hkl : k = S.length := by omega
  subst hkl
  simp only [go_sem, hlt]
end Go.AM

/-! ## MxSemi8 -/
namespace Go.AM
open Go Go.Proofs Go.RowKit
theorem of_example : ofL [[1], [-1]] = [[1, 1]] := by decide +kernel
end Go.AM

/-! ## MxG -/
namespace Go.AM
open Go Go.Proofs Go.RowKit
set_option maxRecDepth 100000
set_option maxHeartbeats 8000000
def valueR (y v : List Int) : Int × Int :=
 if y.length ≠ v.length ∨ 6 < y.length then (0, 3) else if y.any wBad = true ∨ v.any nBad = true then (0, 2) else (dotF y v, 0)
theorem con_Value (y v : List Int) (hy : y.length ≤ 140737488355328) (_hv : v.length ≤ 140737488355328) : Con Try.prog 24 [vs 0 y, vs 0 v] [] fun r _ => r = .tup [vi (valueR y v).1, vi (valueR y v).2] := by
 refine Con.intro Try.func24 rfl Try.ntmps24 Try.results24 (by kernel_rfl) (by simp) 0 (by simp) ?_
 by_cases h1 : y.length = v.length
 case neg =>
  have hb : (y.length != v.length) = true := bne_iff_ne.2 h1
  have e : valueR y v = (0, 3) := by unfold valueR; rw [if_pos (.inl h1)]
  simp only [go_sem, h1, e]
 by_cases h2 : 6 < y.length
 ·have e : valueR y v = (0, 3) := by unfold valueR; rw [if_pos (.inr h2)]
  have h2' : 6 < v.length := by omega
  simp only [go_sem, h1, h2', e]
 have h2' : ¬ 6 < v.length := by omega
 simp only [go_sem, h1, h2']
 refine CallU.free (con_sweights y (by omega)) (by simp only [go_sem]) (by simp only [go_sem]) ?_
 rintro r bx rfl
 cases h3 : y.any wBad
 case true =>
  have e : valueR y v = (0, 2) := by unfold valueR; rw [if_neg (by omega), if_pos (.inl h3)]
  simp only [go_sem, e]
 simp only [go_sem]
 refine CallU.free (con_snumbers v (by omega)) (by simp only [go_sem]) (by simp only [go_sem]) ?_
 rintro r bx rfl
 cases h4 : v.any nBad
 case true =>
  have e : valueR y v = (0, 2) := by unfold valueR; rw [if_neg (by omega), if_pos (.inr h4)]
  simp only [go_sem, e]
 have e : valueR y v = (dotF y v, 0) := by unfold valueR; rw [if_neg (by omega), if_neg (by rw [h3, h4]; simp)]
 simp only [go_sem]
 refine CallU.free (con_sdot y v (by omega) hy) (by simp only [go_sem]) (by simp only [go_sem]) ?_
 rintro r bx rfl
 simp only [go_sem, e]
def exC : List (List Int) := [[1], [-1]]
theorem exC_sch : schF exC = 0 := by decide +kernel
theorem exC_change : ChangeM exC := sch_change exC_sch
theorem exC_ofL : ofL exC = [[1, 1]] := of_example
theorem exC_of : ofS exC = [[1, 1]] := (asc_eq (l := ofL exC) (by unfold AscL; simp) (by rw [exC_ofL])).symm
theorem exC_few : ChangeM exC → (ofL exC).length ≤ 12 := fun _ => by rw [exC_ofL]; decide
theorem exC_bound : boundR exC [2, 3] 0 = (5, true, 0) := by
 unfold boundR
 rw [if_neg (fun h => h exC_sch), if_neg (by decide), if_neg (by decide), exC_of]
 decide +kernel
theorem exC_value : valueR [1, 1] [2, 3] = (5, 0) := by decide +kernel
theorem exC_allows : allowsR exC [2, 3] [4, 1] = (true, 0) := by
 unfold allowsR
 rw [if_neg (fun h => h exC_sch), if_neg (by decide), if_neg (by decide), exC_of]
 decide +kernel
theorem exC_holds : sflowF exC [1, 1] = true := by decide +kernel
theorem exC_ofR : ofR exC = .tup [vm 2 [[1, 1]], vi 0] := by unfold ofR; rw [if_pos exC_sch, exC_of]
theorem con_awake : Con Try.prog 8 [] [] fun r _ => r = .sc (.bool true) := by
 refine Con.intro Try.func8 rfl Try.ntmps8 Try.results8 (by kernel_rfl) (by simp) 0 (by simp) ?_
 have hF : Fits exC := exC_change.valid.fits
 have c1 := con_Of exC hF exC_few
 have c2 := con_Bound exC [2, 3] 0 hF (by simp) exC_few
 have c3 := con_Value [1, 1] [2, 3] (by simp) (by simp)
 have c4 := con_Allows exC [2, 3] [4, 1] hF (by simp) (by simp) exC_few
 have c5 := con_Holds exC [1, 1] hF (by simp)
 rw [exC_ofR] at c1
 rw [exC_bound] at c2
 rw [exC_value] at c3
 rw [exC_allows] at c4
 rw [exC_holds] at c5
 simp only [vm, vs, exC, List.map_cons, List.map_nil] at c1 c2 c3 c4 c5
 simp only [go_sem]
 refine CallU.freeze c1 (by simp only [go_sem]) (by simp only [go_sem]) ?_
 rintro r bx rfl
 simp only [go_sem, List.map_cons, List.map_nil]
 refine CallU.flat c2 (by simp only [go_sem]) (by simp only [go_sem]) ?_
 rintro r bx rfl
 simp only [go_sem, List.map_cons, List.map_nil]
 refine CallU.flat c3 (by simp only [go_sem]) (by simp only [go_sem]) ?_
 rintro r bx rfl
 simp only [go_sem, List.map_cons, List.map_nil]
 refine CallU.flat c4 (by simp only [go_sem]) (by simp only [go_sem]) ?_
 rintro r bx rfl
 simp only [go_sem]
 refine CallU.flat c5 (by simp only [go_sem]) (by simp only [go_sem]) ?_
 rintro r bx rfl
 simp only [go_sem]
end Go.AM
