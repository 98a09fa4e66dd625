/- MxSemi5 MxSemi6 MxSemi7 MxSemi9 MxSort LCand CmD Am5 CmZ HA HB MxA Am7 CmE CmF CmG CmH CmI CmJ CmK -/
import Derived.Test.Ytoglpcfaojcmeaag12
import Derived.Test.Ytoglpcfaojcmeaag11
namespace Go.AM
open Go Go.Proofs Go.RowKit
open Go.La (sum sum_congr sum_add sum_one sum_smul D)
theorem inS_idx {p : Nat → Bool} {i : Nat} (hp : p i = true) : ∀ n, i < n → (inS p n)[(inS p i).length]! = i
 | 0, h => by omega
 | n + 1, h => by
  rw [inS_succ]
  by_cases hi : i < n
  ·have ih := inS_idx hp n hi
   have hl := inS_lt hp n hi
   cases hn : p n
   ·simp only [Bool.false_eq_true, if_false, List.append_nil]; exact ih
   ·rw [if_pos rfl, bang_ln hl]; exact ih
  ·obtain rfl : i = n := by omega
   rw [hp, if_pos rfl]
   exact bang_en
theorem inS_nodup (p : Nat → Bool) (n : Nat) : (inS p n).Nodup := by unfold inS; exact List.Pairwise.filter _ List.nodup_range
theorem inS_pos {p : Nat → Bool} {i n k : Nat} (hp : p i = true) (hi : i < n) (hk : k < (inS p n).length) (e : (inS p n)[k]! = i) : (inS p i).length = k := by
 have h1 := inS_idx hp n hi
 have h2 := inS_lt hp n hi
 rw [getElem!_pos (inS p n) _ h2] at h1
 rw [getElem!_pos (inS p n) _ hk] at e
 exact (List.getElem_inj (inS_nodup p n)).1 (h1.trans e.symm)
def FlowOf (c : List (List Int)) (y : Nat → Int) : Prop := ∀ r, r < c[0]!.length → sum (fun i => y i * c[i]![r]!) c.length = 0
def semB (c : List (List Int)) (s : Nat) : Option (List Int) := if s = 0 then none else semF c (fun i => s.testBit i)
def ofL (c : List (List Int)) : List (List Int) := (List.range (2 ^ c.length)).filterMap (semB c)
theorem bits_some : ∀ n, n ≤ 6 → ∀ s, s < 2 ^ n → s ≠ 0 → 0 < (inS (fun i => s.testBit i) n).length := by
 intro n hn s hs h0
 have h : ∃ i, s.testBit i = true := by
  by_cases h : ∃ i, s.testBit i = true
  ·exact h
  ·exfalso
   apply h0
   apply Nat.eq_of_testBit_eq
   intro i
   rw [Nat.zero_testBit]
   cases hb : s.testBit i
   ·rfl
   ·exact (h ⟨i, hb⟩).elim
 obtain ⟨i, hi⟩ := h
 have hin : i < n := by
  by_cases h : i < n
  ·exact h
  ·have := Nat.testBit_lt_two_pow (x := s) (i := i) (Nat.lt_of_lt_of_le hs (Nat.pow_le_pow_right (by omega) (by omega)))
   rw [hi] at this; cases this
 exact List.length_pos_of_mem (mem_inS.2 ⟨hin, hi⟩)
theorem semB_some {c : List (List Int)} {s : Nat} {y : List Int} (h : semB c s = some y) : s ≠ 0 ∧ semF c (fun i => s.testBit i) = some y := by
 unfold semB at h
 split at h
 ·cases h
 ·rename_i h0
  exact ⟨h0, h⟩
theorem of_mem {c : List (List Int)} (hc : ChangeM c) {y : List Int} (h : y ∈ ofL c) : ∃ s, s < 2 ^ c.length ∧ s ≠ 0 ∧ semF c (fun i => s.testBit i) = some y ∧ y.length = c.length ∧ (∀ i, i < c.length → 0 ≤ y[i]! ∧ y[i]! ≤ 1000000000000) ∧ (∃ i, i < c.length ∧ 0 < y[i]!) ∧ FlowOf c (fun i => y[i]!) := by
 unfold ofL at h
 rw [List.mem_filterMap] at h
 obtain ⟨s, hs, hy⟩ := h
 rw [List.mem_range] at hs
 obtain ⟨h0, h1⟩ := semB_some hy
 have hp := bits_some c.length hc.six s hs h0
 obtain ⟨a1, a2, a3, a4⟩ := sem_flow hc hp h1
 obtain ⟨i, hi⟩ : ∃ i, i ∈ inS (fun i => s.testBit i) c.length := ⟨_, List.getElem_mem hp⟩
 obtain ⟨hi, hb⟩ := mem_inS.1 hi
 exact ⟨s, hs, h0, h1, a1, a2, ⟨i, hi, (a3 i hi).2 hb⟩, a4⟩
end Go.AM
namespace Go.AM
open Go Go.Proofs Go.RowKit
def chainT : List Nat := [0, 0, 1, 0, 2, 2, 1, 0, 3, 3, 4, 3, 5, 2, 1, 0, 6, 6, 7, 6, 8, 8, 7, 6, 9, 9, 4, 3, 5, 2, 1, 0]
theorem chain_lt : ∀ s, s < 32 → chainT[s]! < 10 := by decide +kernel
theorem chain_ib : ((List.range 32).all fun s => (List.range 32).all fun t => !(chainT[s]! == chainT[t]!) ||
  ((List.range 5).all (fun i => !s.testBit i || t.testBit i) || (List.range 5).all (fun i => !t.testBit i || s.testBit i))) = true := by decide +kernel
theorem chain_in (s : Nat) (hs : s < 32) (t : Nat) (ht : t < 32) (he : chainT[s]! = chainT[t]!) :
  (∀ i, i < 5 → s.testBit i = true → t.testBit i = true) ∨ (∀ i, i < 5 → t.testBit i = true → s.testBit i = true) := by
 have h := List.all_eq_true.1 (List.all_eq_true.1 chain_ib s (List.mem_range.2 hs)) t (List.mem_range.2 ht)
 rw [he, beq_self_eq_true, Bool.not_true, Bool.false_or, Bool.or_eq_true] at h
 rcases h with h | h
 ·refine Or.inl fun i hi hb => ?_
  have := List.all_eq_true.1 h i (List.mem_range.2 hi)
  rw [hb] at this; simpa using this
 ·refine Or.inr fun i hi hb => ?_
  have := List.all_eq_true.1 h i (List.mem_range.2 hi)
  rw [hb] at this; simpa using this
theorem few_nodup : ∀ (n : Nat) (l : List Nat), l.Nodup → (∀ x ∈ l, x < n) → l.length ≤ n := Go.La.nodup_lt
theorem of_few {c : List (List Int)} (hc : ChangeM c) (h5 : c.length ≤ 5) : (ofL c).length ≤ 10 := by
 -- the supports that have one
 obtain ⟨B, hB⟩ : ∃ B, B = (List.range (2 ^ c.length)).filter fun s => (semB c s).isSome := ⟨_, rfl⟩
 have hlen : (ofL c).length = B.length := by
  rw [hB]; unfold ofL
  rw [List.length_filterMap_eq_countP, List.countP_eq_length_filter]
 have h32 : 2 ^ c.length ≤ 32 := Nat.pow_le_pow_right (by omega) h5
 have hmem : ∀ s ∈ B, s < 2 ^ c.length ∧ s ≠ 0 ∧ ∃ x, semF c (fun i => s.testBit i) = some x := fun s hs => by
  rw [hB, List.mem_filter, List.mem_range] at hs
  obtain ⟨x, hx⟩ := Option.isSome_iff_exists.1 hs.2
  obtain ⟨h0, h1⟩ := semB_some hx
  exact ⟨hs.1, h0, x, h1⟩
 have hnd : (B.map fun s => chainT[s]!).Nodup := by
  rw [List.Nodup, List.pairwise_map]
  have hp : B.Pairwise (· < ·) := by rw [hB]; exact List.Pairwise.filter _ List.pairwise_lt_range
  refine List.Pairwise.imp_of_mem ?_ hp
  intro s t hs ht hlt he
  obtain ⟨s1, s2, x, sx⟩ := hmem s hs
  obtain ⟨t1, t2, y, ty⟩ := hmem t ht
  have hps := bits_some c.length hc.six s s1 s2
  have hpt := bits_some c.length hc.six t t1 t2
  have hne : s ≠ t := by omega
  have heq : (∀ i, i < c.length → s.testBit i = t.testBit i) → False := fun hh => hne (by
   apply Nat.eq_of_testBit_eq
   intro i
   by_cases hi : i < c.length
   ·exact hh i hi
   ·have e : ∀ u, u < 2 ^ c.length → u.testBit i = false := fun u hu => Nat.testBit_lt_two_pow (Nat.lt_of_lt_of_le hu (Nat.pow_le_pow_right (by omega) (by omega)))
    rw [e s s1, e t t1])
  rcases chain_in s (by omega) t (by omega) he with h | h
  ·exact heq fun i hi => (sem_within hc hpt hps ty sx (fun i hi hb => h i (by omega) hb) i hi).symm
  ·exact heq fun i hi => sem_within hc hps hpt sx ty (fun i hi hb => h i (by omega) hb) i hi
 have := few_nodup 10 _ hnd (fun x hx => by
  obtain ⟨s, hs, rfl⟩ := List.mem_map.1 hx
  exact chain_lt s (by have := (hmem s hs).1; omega))
 rw [List.length_map] at this
 omega
def lexC : List Int → List Int → Int
 | [], [] => 0
 | [], _ :: _ => -1
 | _ :: _, [] => 1
 | x :: xs, y :: ys => if ordI x y ≠ 0 then ordI x y else lexC xs ys
theorem ordI_anti (a b : Int) : ordI b a = - ordI a b := by unfold ordI; split <;> split <;> (try split) <;> omega
theorem ordI_lt {a b c : Int} (h1 : ordI a b ≤ 0) (h2 : ordI b c ≤ 0) (h3 : ordI a b ≠ 0 ∨ ordI b c ≠ 0) : ordI a c < 0 := by
 unfold ordI at *
 have k1 : a ≤ b := by
  rcases Int.lt_or_le b a with h | h
  ·rw [if_neg (by omega), if_pos h] at h1; omega
  ·exact h
 have k2 : b ≤ c := by
  rcases Int.lt_or_le c b with h | h
  ·rw [if_neg (by omega), if_pos h] at h2; omega
  ·exact h
 have k3 : a < c := by
  rcases h3 with h | h
  ·have : a ≠ b := fun e => h (by subst e; simp)
   omega
  ·have : b ≠ c := fun e => h (by subst e; simp)
   omega
 rw [if_pos k3]; omega
theorem lexC_anti : ∀ a b : List Int, lexC b a = - lexC a b
 | [], [] => rfl
 | [], _ :: _ => rfl
 | _ :: _, [] => rfl
 | x :: xs, y :: ys => by
  rw [lexC, lexC, ordI_anti x y, lexC_anti xs ys]
  by_cases h : ordI x y = 0
  ·rw [if_neg (by omega), if_neg (by omega)]
  ·rw [if_pos (by omega), if_pos (by omega)]
theorem lexC_zero : ∀ {a b : List Int}, lexC a b = 0 ↔ a = b
 | [], [] => by simp [lexC]
 | [], _ :: _ => by simp [lexC]
 | _ :: _, [] => by simp [lexC]
 | x :: xs, y :: ys => by
  rw [lexC]
  by_cases h : ordI x y = 0
  ·rw [if_neg (fun h' => h' h), lexC_zero, ordI_zero.1 h]; simp
  ·rw [if_pos h]
   exact ⟨fun e => absurd e h, fun e => absurd (ordI_zero.2 (by injection e)) h⟩
theorem lexC_trans : ∀ {a b c : List Int}, lexC a b ≤ 0 → lexC b c ≤ 0 → lexC a c ≤ 0
 | [], _, [], _, _ => by simp [lexC]
 | [], _, _ :: _, _, _ => by simp [lexC]
 | _ :: _, [], _, h, _ => by simp [lexC] at h
 | _ :: _, _ :: _, [], _, h => by simp [lexC] at h
 | x :: xs, y :: ys, z :: zs, h1, h2 => by
  rw [lexC] at h1 h2 ⊢
  by_cases e1 : ordI x y = 0
  ·rw [if_neg (fun h' => h' e1)] at h1
   obtain rfl := ordI_zero.1 e1
   by_cases e2 : ordI x z = 0
   ·rw [if_neg (fun h' => h' e2)] at h2 ⊢
    exact lexC_trans h1 h2
   ·rw [if_pos e2] at h2 ⊢
    exact h2
  ·rw [if_pos e1] at h1
   by_cases e2 : ordI y z = 0
   ·obtain rfl := ordI_zero.1 e2
    rw [if_pos e1]; exact h1
   ·rw [if_pos e2] at h2
    have := ordI_lt h1 h2 (.inl e1)
    rw [if_pos (by omega)]; omega
theorem lexC_total (a b : List Int) : lexC a b ≤ 0 ∨ lexC b a ≤ 0 := by rw [lexC_anti a b]; omega
theorem lexC_drop {a b : List Int} {i : Nat} (hi : i < a.length) (hj : i < b.length) : lexC (a.drop i) (b.drop i) = if ordI a[i]! b[i]! ≠ 0 then ordI a[i]! b[i]! else lexC (a.drop (i + 1)) (b.drop (i + 1)) := by
 rw [List.drop_eq_getElem_cons hi, List.drop_eq_getElem_cons hj, lexC, getElem!_pos a i hi, getElem!_pos b i hj]
def AscL (l : List (List Int)) : Prop := l.Pairwise fun x y => lexC x y ≤ 0
theorem asc_one {l l' : List (List Int)} (h : AscL l) (h' : AscL l') (hp : l.Perm l') : l = l' :=
 List.Perm.eq_of_pairwise (fun a b _ _ h1 h2 => lexC_zero.1 (by have := lexC_anti a b; omega)) h h' hp
def ascF (l : List (List Int)) : List (List Int) := l.mergeSort fun x y => decide (lexC x y ≤ 0)
theorem asc_perm (l : List (List Int)) : (ascF l).Perm l := List.mergeSort_perm _ _
theorem asc_asc (l : List (List Int)) : AscL (ascF l) := by
 have := List.pairwise_mergeSort (le := fun x y => decide (lexC x y ≤ 0)) (fun a b c h1 h2 => by
  simp only [decide_eq_true_eq] at *; exact lexC_trans h1 h2) (fun a b => by
  rcases lexC_total a b with h | h <;> simp [h]) l
 exact this.imp fun h => by simpa using h
theorem asc_eq {l l' : List (List Int)} (h : AscL l') (hp : l'.Perm l) : l' = ascF l := asc_one h (asc_asc l) (hp.trans (asc_perm l).symm)
theorem bang_setR {l : List (List Int)} {q j : Nat} {x : List Int} (h : q < l.length) : (l.set q x)[j]! = if j = q then x else l[j]! := by
 by_cases hj : j < l.length
 ·rw [getElem!_pos _ j (by rw [List.length_set]; exact hj), getElem!_pos l j hj, List.getElem_set]
  by_cases e : q = j
  ·subst e; simp
  ·rw [if_neg e, if_neg (fun h => e h.symm)]
 ·rw [getElem!_neg _ j (by rw [List.length_set]; exact hj), getElem!_neg l j hj, if_neg (by omega)]
def swapR (l : List (List Int)) (j : Nat) : List (List Int) := (l.set (j + 1) l[j]!).set j l[j + 1]!
theorem swapR_len (l : List (List Int)) (j : Nat) : (swapR l j).length = l.length := by simp [swapR]
theorem swapR_at {l : List (List Int)} {j k : Nat} (h : j + 1 < l.length) : (swapR l j)[k]! = if k = j then l[j + 1]! else if k = j + 1 then l[j]! else l[k]! := by
 unfold swapR
 rw [bang_setR (by rw [List.length_set]; omega), bang_setR h]
theorem swapR_perm {l : List (List Int)} {j : Nat} (h : j + 1 < l.length) : (swapR l j).Perm l := by
 unfold swapR
 rw [getElem!_pos l j (by omega), getElem!_pos l (j + 1) h]
 exact List.set_set_perm h (by omega)
structure SinkR (l D : List (List Int)) (i j : Nat) : Prop where
 perm : D.Perm l
 ji : j ≤ i
 ord : ∀ p q, p < q → q ≤ i → q ≠ j → lexC D[p]! D[q]! ≤ 0
theorem SinkR.len {l D : List (List Int)} {i j : Nat} (h : SinkR l D i j) : D.length = l.length := h.perm.length_eq
theorem SinkR.step {l D : List (List Int)} {i j : Nat} (h : SinkR l D i (j + 1)) (hi : i < l.length) (hc : lexC D[j + 1]! D[j]! < 0) : SinkR l (swapR D j) i j := by
 have hji := h.ji
 have hl : j + 1 < D.length := by rw [h.len]; omega
 refine ⟨(swapR_perm hl).trans h.perm, by omega, fun p q hpq hqi hqj => ?_⟩
 rw [swapR_at hl, swapR_at hl, if_neg hqj]
 by_cases e1 : q = j + 1
 ·rw [if_pos e1]
  by_cases e2 : p = j
  ·rw [if_pos e2]; omega
  ·rw [if_neg e2, if_neg (by omega)]
   exact h.ord p j (by omega) (by omega) (by omega)
 ·rw [if_neg e1]
  by_cases e2 : p = j
  ·rw [if_pos e2]
   exact h.ord (j + 1) q (by omega) hqi e1
  ·rw [if_neg e2]
   by_cases e3 : p = j + 1
   ·rw [if_pos e3]
    exact h.ord j q (by omega) hqi e1
   ·rw [if_neg e3]
    exact h.ord p q hpq hqi e1
theorem SinkR.stop {l D : List (List Int)} {i j : Nat} (h : SinkR l D i j) (hs : j = 0 ∨ 0 ≤ lexC D[j]! D[j - 1]!) : ∀ p q, p < q → q ≤ i → lexC D[p]! D[q]! ≤ 0 := by
  intro p q hpq hqi
  by_cases e : q = j
  · subst e
    have hs : 0 ≤ lexC D[q]! D[q - 1]! := by rcases hs with h | h
                                             · omega
                                             · exact h
    have h1 : lexC D[q - 1]! D[q]! ≤ 0 := by rw [lexC_anti]; omega
    by_cases e2 : p = q - 1
    · rw [e2]; exact h1
    · exact lexC_trans (h.ord p (q - 1) (by omega) (by omega) (by omega)) h1
  · exact h.ord p q hpq hqi e
theorem SinkR.start {l D : List (List Int)} {i : Nat} (hp : D.Perm l) (ho : ∀ p q, p < q → q < i → lexC D[p]! D[q]! ≤ 0) : SinkR l D i i :=
 ⟨hp, Nat.le_refl _, fun p q h1 h2 h3 => ho p q h1 (by omega)⟩
theorem asc_of {D : List (List Int)} (h : ∀ p q, p < q → q < D.length → lexC D[p]! D[q]! ≤ 0) : AscL D := by
 unfold AscL
 rw [List.pairwise_iff_getElem]
 intro p q hp hq hpq
 have := h p q hpq hq
 rwa [getElem!_pos D p hp, getElem!_pos D q hq] at this
end Go.AM
namespace Go.AM
end Go.AM
namespace Go.AM
open Go Go.Proofs Go.RowKit
def diceA (l : List Int) (at_ : Nat) : List AV := [.sl 0 1 (l.map vu), .sc (.int .i64 at_)]
attribute [go_sem] diceA
end Go.AM
namespace Go.AM
open Go.RowKit
def noPb (N : Nat) : AV → Bool
 | .pb i _ => decide (i ≠ N)
 | .cl _ caps => caps.all fun c => match c with
  | .pb i _ => decide (i ≠ N)
  | _ => true
 | _ => true
def noPbT (N : Nat) : List (Nat × AV) → Bool
 | [] => true
 | (_, v) :: r => v.allLeaf (noPb N) && noPbT N r
def noPbB (N : Nat) : List (List AV) → Bool
 | [] => true
 | cs :: r => allLeafs (noPb N) cs && noPbB N r
def lookA : List (Nat × Nat) → Nat → Option Nat
 | [], _ => none
 | (i, N) :: r, k => if i = k then some N else lookA r k
def AllocP (P : Program) (bx : List (List AV)) (o : Oper) (N : Nat) (y : AV) : Prop :=
 o.guard = none ∧ y = .pb N 0 ∧ ∃ T q z, o.op = .alloc T ∧ tinfo P T = some q ∧ q.2.2 = some z ∧ zeroOk q.1 z = true ∧ bx[N]? = some (List.replicate q.1 .any)
section
variable {P : Program} {ops : Array Oper} {m : Nat} {vs : List (Nat × AV)} {E : List Nat} {A : List (Nat × Nat)} {C : Nat → List AV} {i0 : Nat} {σ : St} {K : St → Prop} {G0 : Orig} {w0 : World} {Q : Exit → Act → World → Prop}
end
def noVar : AV → Bool
 | .pb _ _ => false
 | .cl _ _ => false
 | _ => true
def AllocK (P : Program) (o : Oper) (N : Nat) (σ : St) (K : St → Prop) : Prop :=
 ∃ d, o.dst = some d ∧ d < σ.n ∧ AllocP P σ.boxes o N (.pb N 0) ∧ K (σ.put (some d) (.pb N 0))
section
variable {P : Program} {ops : Array Oper} {n0 i0 : Nat} {E LF : List Nat} {A : List (Nat × Nat)}
def pbBut (N d : Nat) : List (Nat × AV) → Bool
 | [] => true
 | (s, v) :: r => (s == d || v.allLeaf (noPb N)) && pbBut N d r
def keptOk (ops : Array Oper) (l : List (Nat × AV)) : List (Nat × Nat) → Bool
 | [] => true
 | (i, N) :: r => (match (ops[i]?).bind (·.dst) with
  | some d => pbBut N d l
  | none => false) && keptOk ops l r
def keptFree (σ : St) : List (Nat × Nat) → Bool
 | [] => true
 | (_, N) :: r => (decide (σ.boxes.length ≤ N) && (noPbT N σ.tmps && noPbB N σ.boxes)) && keptFree σ r
def anyB (ph : List Nat) : List (List AV) := ph.map fun k => List.replicate k .any
def hasD (d s : Nat) : List (Nat × Nat) → Bool
 | [] => false
 | (a, b) :: r => (a == d && b == s) || hasD d s r
def freeButD (D : List (Nat × Nat)) (d : Nat) : List (Nat × AV) → Bool
 | [] => true
 | (s, v) :: r => (s == d || (hasD d s D || v.allLeaf (freeLeaf d))) && freeButD D d r
def freeOthersD (D : List (Nat × Nat)) (l : List (Nat × AV)) : List Nat → Bool
 | [] => true
 | d :: r => freeButD D d l && freeOthersD D l r
end
def headZ (P : Program) (ops : Array Oper) (_n0 i0 : Nat) (_E _LF : List Nat) (A : List (Nat × Nat)) (D : List (Nat × Nat)) (ds : List Nat) (tr : Tr) (sg : Option (Nat × Tr)) (σ : St) (c : List AV) (K : St → Prop) : Prop :=
 (freeOthersD D σ.tmps ds = true ∧ keptOk ops σ.tmps A = true) ∧ treeA P ops tr { σ with boxes := σ.boxes.set i0 c } K ∧ sgA P ops sg { σ with boxes := σ.boxes.set i0 c } K
def headY (P : Program) (ops : Array Oper) (n0 i0 : Nat) (E LF : List Nat) (A : List (Nat × Nat)) (D : List (Nat × Nat)) (ds : List Nat) (tr : Tr) (sg : Option (Nat × Tr)) : Nat → Nat → List Oper → St → List AV → (St → Prop) → Prop
 | _, 0, _, σ, c, K => headZ P ops n0 i0 E LF A D ds tr sg σ c K
 | _, _ + 1, [], σ, c, K => headZ P ops n0 i0 E LF A D ds tr sg σ c K
 | k, m + 1, o :: r, σ, c, K => if E.contains k = true then EffK P n0 i0 o σ c fun σ' c' => allLeafs noVar c' = true ∧ headY P ops n0 i0 E LF A D ds tr sg (k + 1) m r σ' c' K else if LF.contains k = true then frB P o σ fun σ' => headY P ops n0 i0 E LF A D ds tr sg (k + 1) m r σ' c K else match lookA A k with
  | some N => AllocK P o N σ fun σ' => headY P ops n0 i0 E LF A D ds tr sg (k + 1) m r σ' c K
  | none => headG P ops o σ fun σ' => headY P ops n0 i0 E LF A D ds tr sg (k + 1) m r σ' c K
section
variable {P : Program} {n : Nat} {t : List (Nat × AV)} {b : List (List AV)} {ops : Array Oper} {n0 i0 k m : Nat} {E LF ds : List Nat} {A D : List (Nat × Nat)} {tr : Tr} {sg : Option (Nat × Tr)} {l : List Oper} {c : List AV} {K : St → Prop}
variable {d : Nat} {T : TypeId} {pos : String} {af : Array Edge} {g : Option (Nat × Bool)}
@[congr] theorem headY_congr {n0' k' : Nat} {σ σ' : St} {c' : List AV} (h0 : n0 = n0') (h1 : k = k') (h : mkd σ = σ') (h2 : c = c') : headY P ops n0 i0 E LF A D ds tr sg k m l σ c K = headY P ops n0' i0 E LF A D ds tr sg k' m l σ' c' K := by subst_vars; rfl
def selN (o : Option Nat) (f : Nat → Prop) (p : Prop) : Prop := match o with
 | some N => f N
 | none => p
@[congr] theorem selN_congr {o o' : Option Nat} {f : Nat → Prop} {p : Prop} (h : o = o') : selN o f p = selN o' f p := by subst_vars; rfl
@[go_sem] theorem selN_some {N : Nat} {f : Nat → Prop} {p : Prop} : selN (some N) f p = f N := rfl
@[go_sem] theorem selN_none {f : Nat → Prop} {p : Prop} : selN none f p = p := rfl
@[congr] theorem AllocK_congr {o : Oper} {N : Nat} {σ σ' : St} {K : St → Prop} (h : mkd σ = σ') : AllocK P o N σ K = AllocK P o N σ' K := by subst_vars; rfl
attribute [go_sem] freeOthersD freeButD hasD lookA keptOk pbBut keptFree noPbT noPbB noPb noVar anyB
end
end Go.AM
namespace Go.AM
open Go Go.Proofs Go.RowKit
theorem Con.freezeB {P : Program} {f : FuncId} {args : List AV} {bx : List (List AV)} {post : AV → List (List AV) → Prop} (p : Nat → Bool) (h : Con P f args bx post) : Con P f args bx fun r' b' => ∃ r b, post r b ∧ r' = r.freeze p ∧ b' = b.map fun cs => cs.map (AV.freeze p) :=
 ⟨h.1, fun G w vs h1 h2 h3 h4 h5 => (h.2 G w vs h1 h2 h3 h4 h5).mono fun e w' ⟨v, r, bx', G', he, hq, hr, hg, hbx, hlt, e1, e2, e3, e4, e5, e6⟩ => by
  have hbox : ∀ k i, freezeG p G' k = .box i ↔ G' k = .box i := fun k i => by
   unfold freezeG; split
   ·rename_i t ht; split <;> simp [ht]
   ·exact Iff.rfl
  refine ⟨v, _, bx'.map (fun cs => cs.map (AV.freeze p)), freezeG p G', he, ⟨r, bx', hq, rfl, rfl⟩, hr.freeze, hg.freeze, ⟨fun i vs hv => by simp [noGh] at hv, fun i cs hi => ?_⟩, fun k i hk => by simpa using hlt k i ((hbox k i).1 hk), e1, e2, e3, e4, fun k hk => ?_, e6⟩
  ·rw [List.getElem?_map] at hi
   cases hc : bx'[i]? with
   | none => simp [hc] at hi
   | some cs' =>
    simp [hc] at hi; subst hi
    exact (hbx.cell i cs' hc).map (fun x v hr => hr.freeze) (fun k hk => ⟨(hbox k i).2 hk, rfl⟩) fun h0 k hk => h0 k ((hbox k i).1 hk)
  ·have := e5 k hk
   unfold freezeG
   split
   ·rename_i t ht; rw [this] at ht; exact absurd ht (h2 k t)
   ·exact this⟩
def kidN (n : Int) : AV := .ag [vi n, .nil]
def cfgN (t s : Nat) (v : List Int) : AV := .ag [vi 0, .sl t 2 (((s : Int) :: v).map kidN)]
attribute [go_sem] kidN cfgN
set_option maxRecDepth 100000
abbrev DS := Nat × Int
def deckA (l : List Int) (s : DS) : List AV := [.sl 0 1 (l.map vi), .sc (.int .i64 s.1), .sc (.int .u64 s.2)]
attribute [go_sem] deckA
def Dk (l : List Int) (s : DS) : Prop := s.1 ≤ l.length ∧ l.length ≤ 1000
theorem con_dNew (l : List Int) : Con Try.prog 11 [vs 0 l] [] fun r b => r = .pb 0 0 ∧ b = [deckA l (0, 11400714819323198485)] := by
 refine Con.intro Try.func11 rfl Try.ntmps11 Try.results11 (by kernel_rfl) (by simp) 1 (by simp) ?_
 simp only [go_sem]
theorem u64_range (x : Int) : 0 ≤ IntKind.u64.wrap x ∧ IntKind.u64.wrap x < 18446744073709551616 := by
 rw [IntKind.wrap_u64]; omega
def longX (l : List Int) (s : DS) : Int := if s.1 < l.length then IntKind.u64.wrap l[s.1]! else 0
def longT (l : List Int) (s : DS) : Int := IntKind.u64.wrap (IntKind.u64.wrap (IntKind.u64.wrap (s.2 + longX l s) * 6364136223846793005) + 1442695040888963407)
def longS (l : List Int) (s : DS) : DS := (if s.1 < l.length then s.1 + 1 else s.1, longT l s)
def mixX (x : Int) (k : Nat) : Int := IntKind.u64.wrap (BitVec.ofInt 64 x ^^^ BitVec.ofInt 64 (x.fdiv (2 ^ min k 64))).toNat
def longV (l : List Int) (s : DS) : Int := mixX (IntKind.u64.wrap (mixX (longT l s) 33 * 18397679294719823053)) 29
theorem longV_range (l : List Int) (s : DS) : 0 ≤ longV l s ∧ longV l s < 18446744073709551616 := u64_range _
theorem con_dLong (l : List Int) (s : DS) (h : Dk l s) : Con Try.prog 28 [.pb 0 0] [deckA l s]
  fun r b => r = .sc (.int .u64 (longV l s)) ∧ b = [deckA l (longS l s)] := by
 refine Con.intro Try.func28 rfl Try.ntmps28 Try.results28 (by kernel_rfl) (by simp) 1 (by simp) ?_
 obtain ⟨at_, st⟩ := s
 obtain ⟨ha, hl⟩ := h
 simp only at ha
 by_cases h : at_ < l.length
 ·simp only [go_sem]
  refine DrawK.walk 10 mixed (by kernel_rfl) ?_
  have hg := getv h
  have hw : IntKind.i64.wrap (at_ + 1) = at_ + 1 := wrap_in (by omega) (by omega)
  simp only [go_sem, h]
  refine DrawK.walk 12 mixed (by kernel_rfl) ?_
  simp only [go_sem, h, hg, hw]
  refine DrawK.walk 11 mixed (by kernel_rfl) ?_
  simp only [go_sem, longV, mixX, longS, longT, longX, h]
  rfl
 ·simp only [go_sem]
  refine DrawK.walk 10 mixed (by kernel_rfl) ?_
  simp only [go_sem, h]
  refine DrawK.walk 11 mixed (by kernel_rfl) ?_
  simp only [go_sem, longV, mixX, longS, longT, longX, h]
  rfl
theorem longS_dk {l : List Int} {s : DS} (h : Dk l s) : Dk l (longS l s) := by
 obtain ⟨h1, h2⟩ := h
 refine ⟨?_, h2⟩
 unfold longS
 simp only
 split <;> omega
def nextV (l : List Int) (s : DS) (n : Int) : Int := if n < 1 then 0 else (longV l s / 2) % n
def nextS (l : List Int) (s : DS) (n : Int) : DS := if n < 1 then s else longS l s
theorem nextS_dk {l : List Int} {s : DS} {n : Int} (h : Dk l s) : Dk l (nextS l s n) := by
 unfold nextS; split
 ·exact h
 ·exact longS_dk h
theorem nextV_lt {l : List Int} {s : DS} {n : Int} (hn : 1 ≤ n) : 0 ≤ nextV l s n ∧ nextV l s n < n := by
 unfold nextV
 rw [if_neg (by omega)]
 exact ⟨Int.emod_nonneg _ (by omega), Int.emod_lt_of_pos _ (by omega)⟩
theorem con_dNext (l : List Int) (s : DS) (n : Int) (h : Dk l s) : Con Try.prog 12 [.pb 0 0, vi n] [deckA l s]
  fun r b => r = vi (nextV l s n) ∧ b = [deckA l (nextS l s n)] := by
 refine Con.intro Try.func12 rfl Try.ntmps12 Try.results12 (by kernel_rfl) (by simp) 1 (by simp) ?_
 by_cases h1 : n < 1
 ·simp only [go_sem, h1, nextV, nextS]
 ·have hr := longV_range l s
  simp only [go_sem, h1, nextV, nextS]
  refine CallU.boxes (i := 0) (is := []) (bx0 := [deckA l s]) (con_dLong l s h) (by simp only [go_sem]) (by simp only [go_sem]) (by simp only [go_sem]) (by simp only [go_sem]) (by simp only [go_sem]) ?_
  rintro r b ⟨rfl, rfl⟩
  simp only [go_sem]
  have hv : IntKind.i64.wrap ((longV l s).fdiv (2 ^ min 1 64)) = longV l s / 2 := by
   have e : (2 : Int) ^ min 1 64 = 2 := rfl
   rw [e, Int.fdiv_eq_ediv_of_nonneg _ (by omega)]
   exact wrap_in (by omega) (by omega)
  rw [hv, Int.tmod_eq_emod_of_nonneg (by omega)]
  exact ⟨by omega, rfl⟩
def oneV (l : List Int) (s : DS) (n : Int) : Bool := nextV l s n == 0
theorem con_dOne (l : List Int) (s : DS) (n : Int) (h : Dk l s) : Con Try.prog 29 [.pb 0 0, vi n] [deckA l s]
  fun r b => r = vb (oneV l s n) ∧ b = [deckA l (nextS l s n)] := by
 refine Con.intro Try.func29 rfl Try.ntmps29 Try.results29 (by kernel_rfl) (by simp) 1 (by simp) ?_
 simp only [go_sem]
 refine CallU.boxes (i := 0) (is := []) (bx0 := [deckA l s]) (con_dNext l s n h) (by simp only [go_sem]) (by simp only [go_sem]) (by simp only [go_sem]) (by simp only [go_sem]) (by simp only [go_sem]) ?_
 rintro r b ⟨rfl, rfl⟩
 simp only [go_sem, oneV]
def smS (l : List Int) (s : DS) (most : Int) : Nat → DS
 | 0 => s
 | n + 1 => nextS l (smS l s most n) (most + 1)
def smV (l : List Int) (s : DS) (most : Int) : Nat → List Int
 | 0 => []
 | n + 1 => smV l s most n ++ [nextV l (smS l s most n) (most + 1)]
theorem smS_dk {l : List Int} {s : DS} {most : Int} (h : Dk l s) : ∀ n, Dk l (smS l s most n)
 | 0 => h
 | n + 1 => nextS_dk (smS_dk h n)
theorem smV_len {l : List Int} {s : DS} {most : Int} : ∀ n, (smV l s most n).length = n
 | 0 => rfl
 | n + 1 => by rw [smV, List.length_append, smV_len n]; rfl
theorem con_dSmall (l : List Int) (s : DS) (n : Nat) (most : Int) (h : Dk l s) (hn : n ≤ 1000000) (hm : -1 ≤ most ∧ most ≤ 1000000) : Con Try.prog 19 [.pb 0 0, vi n, vi most] [deckA l s]
  fun r b => r = vs 2 (smV l s most n) ∧ b = [deckA l (smS l s most n)] := by
 refine Con.intro Try.func19 rfl Try.ntmps19 Try.results19 (by kernel_rfl) (by simp) 1 (by simp) ?_
 simp only [go_sem]
 refine LoopK.intro (fun i : Nat => ⟨22, [(0, .pb 0 0), (1, vi n), (2, vi most), (7, vs 1344 (smV l s most i)), (8, vi i)], [deckA l (smS l s most i)]⟩)
  (fun i => n - i) (fun i => i ≤ n) 0 (by omega) ?_ ?_
 ·simp only [go_sem, smV, smS, List.map_nil]
 rintro i hi
 by_cases h2 : i < n
 ·have hw : IntKind.i64.wrap (i + 1) = i + 1 := wrap_in (by omega) (by omega)
  have hw2 : IntKind.i64.wrap (most + 1) = most + 1 := wrap_in (by omega) (by omega)
  simp only [go_sem, h2, hw2]
  refine CallU.boxes (i := 0) (is := []) (bx0 := [deckA l (smS l s most i)]) (con_dNext l (smS l s most i) (most + 1) (smS_dk h i)) (by simp only [go_sem]) (by simp only [go_sem]) (by simp only [go_sem]) (by simp only [go_sem]) (by simp only [go_sem]) ?_
  rintro r b ⟨rfl, rfl⟩
  have hr : roomFor ((smV l s most i).length + 1) 8 := by rw [smV_len]; simp only [roomFor]; omega
  simp only [go_sem, hr, hw]
  refine roundK.intro (i + 1) (by omega) (by omega) ?_
  simp only [go_sem, smV, smS, List.map_append, List.map_cons, List.map_nil]
 ·have e : i = n := by omega
  subst e
  simp only [go_sem, h2]
theorem con_dSmallF (l : List Int) (s : DS) (n : Nat) (most : Int) (h : Dk l s) (hn : n ≤ 1000000) (hm : -1 ≤ most ∧ most ≤ 1000000) : Con Try.prog 19 [.pb 0 0, vi n, vi most] [deckA l s]
  fun r b => r = vs 0 (smV l s most n) ∧ b = [deckA l (smS l s most n)] :=
 ((con_dSmall l s n most h hn hm).freezeB fun _ => true).mono fun r b ⟨r1, b1, ⟨h1, h2⟩, h3, h4⟩ => by
  subst h1; subst h2; subst h3; subst h4
  exact ⟨rfl, rfl⟩
set_option maxHeartbeats 8000000
theorem Valid.fits {m : List (List Int)} (h : Valid m) : Fits m := ⟨by have := h.le; omega, fun row hr => by have := (h.row row hr).1; have := h.cle; omega⟩
theorem valid_check {m : List (List Int)} (h : Valid m) : mxCheckF m = 0 := by
 have h1 := h.pos; have h2 := h.le; have h3 := h.cpos; have h4 := h.cle; have h5 := h.small
 unfold mxCheckF
 rw [if_neg (by omega), if_neg (by omega), if_neg]
 intro hh
 rw [List.any_eq_true] at hh
 obtain ⟨row, hr, hb⟩ := hh
 obtain ⟨k1, k2⟩ := h.row row hr
 unfold badRow at hb
 rw [Bool.or_eq_true] at hb
 rcases hb with hb | hb
 ·have := of_decide_eq_true hb; exact this k1
 ·rw [List.any_eq_true] at hb
  obtain ⟨x, hx, hb⟩ := hb
  unfold lawBad at hb
  have := k2 x hx
  rw [Bool.or_eq_true] at hb
  rcases hb with hb | hb <;> have := of_decide_eq_true hb <;> omega
def schF (c : List (List Int)) : Int := if mxCheckF c ≠ 0 ∨ 6 < c.length then 10 else 0
theorem sch_change {c : List (List Int)} (h : schF c = 0) : ChangeM c := by
 unfold schF at h
 split at h
 ·cases h
 ·exact ⟨check_ok (by omega), by omega⟩
theorem con_scheck (c : List (List Int)) (hc : Fits c) : Con Try.prog 30 [vm 0 c] [] fun r _ => r = vi (schF c) := by
 refine Con.intro Try.func30 rfl Try.ntmps30 Try.results30 (by kernel_rfl) (by simp) 0 (by simp) ?_
 simp only [go_sem]
 refine CallU.free (con_mxCheck c hc) (by simp only [go_sem]) (by simp only [go_sem]) ?_
 rintro r bx rfl
 by_cases h1 : mxCheckF c = 0
 ·by_cases h2 : 6 < c.length
  ·simp only [go_sem, h1, h2, schF]
  ·simp only [go_sem, h1, h2, schF]
 ·have hb : (mxCheckF c != 0) = true := bne_iff_ne.2 h1
  simp only [go_sem, hb, h1, schF]
theorem bit_at : ∀ s : Nat, s < 64 → ∀ i : Nat, i < 6 → (IntKind.i64.wrap ((BitVec.ofInt IntKind.i64.bits ((s : Int).fdiv (2 ^ min (i : Int).toNat IntKind.i64.bits)) &&& BitVec.ofInt IntKind.i64.bits 1).toNat : Int) == 1) = s.testBit i := by decide +kernel
theorem con_sup1 (x : Int) : Con Try.prog 61 [vi x] [] fun r _ => r = .sc (.bool (decide (x ≤ 0))) := by
 refine Con.intro Try.func61 rfl Try.ntmps61 Try.results61 (by kernel_rfl) (by simp) 0 (by simp) ?_
 simp only [go_sem]
def rowsG (c : List (List Int)) (p : Nat → Bool) (i : Nat) : List (List Int) := (inS p i).map fun k => c[k]!
theorem rowsG_succ (c : List (List Int)) (p : Nat → Bool) (i : Nat) : rowsG c p (i + 1) = rowsG c p i ++ (if p i then [c[i]!] else []) := by
 unfold rowsG; rw [inS_succ, List.map_append]; cases p i <;> rfl
theorem rowsG_zero (c : List (List Int)) (p : Nat → Bool) : rowsG c p 0 = [] := rfl
theorem rowsG_len (c : List (List Int)) (p : Nat → Bool) (i : Nat) : (rowsG c p i).length ≤ i := by unfold rowsG; rw [List.length_map]; exact inS_len p i
theorem rowsG_valid {c : List (List Int)} {p : Nat → Bool} (hc : ChangeM c) (hp : 0 < (inS p c.length).length) : Valid (rowsG c p c.length) ∧ transF (rowsG c p c.length) = turnS c p := by
 have hv := hc.valid
 have hl := rowsG_len c p c.length
 have h6 := hc.six
 have hlen : (rowsG c p c.length).length = (inS p c.length).length := by unfold rowsG; rw [List.length_map]
 have hrow : ∀ row ∈ rowsG c p c.length, row ∈ c := fun row hr => by
  obtain ⟨k, hk, rfl⟩ := List.mem_map.1 hr
  have hk := (mem_inS.1 hk).1
  rw [getElem!_pos c k hk]; exact List.getElem_mem hk
 have h0 : (rowsG c p c.length)[0]! ∈ c := hrow _ (mem_bang (by omega))
 have e0 : (rowsG c p c.length)[0]!.length = c[0]!.length := (hv.row _ h0).1
 have hcp := hv.cpos
 have hcl := hv.cle
 refine ⟨⟨by omega, by omega, by omega, by omega, by omega, fun row hr => ⟨by rw [e0]; exact (hv.row row (hrow row hr)).1, (hv.row row (hrow row hr)).2⟩⟩, ?_⟩
 unfold transF turnS
 rw [e0]
 refine List.map_congr_left fun r _ => ?_
 unfold rowsG
 rw [List.map_map]; rfl
def outG (p : Nat → Bool) (v : List Int) (n i : Nat) : List Int := (sprGo p v i).1 ++ List.replicate (n - i) 0
theorem outG_len {p : Nat → Bool} {v : List Int} {n i : Nat} (h : i ≤ n) : (outG p v n i).length = n := by
 unfold outG; rw [List.length_append, (spr_len p v i).1, List.length_replicate]; omega
theorem outG_zero (p : Nat → Bool) (v : List Int) (n : Nat) : outG p v n 0 = List.replicate n 0 := by unfold outG; rfl
theorem outG_end (p : Nat → Bool) (v : List Int) (n : Nat) : outG p v n n = (sprGo p v n).1 := by unfold outG; simp
theorem outG_set {p : Nat → Bool} {v : List Int} {n i : Nat} (h : i < n) (hp : p i = true) : (outG p v n i).set i v[(sprGo p v i).2]! = outG p v n (i + 1) := by
 have hl := (spr_len p v i).1
 obtain ⟨k, hk⟩ : ∃ k, n - i = k + 1 := ⟨n - i - 1, by omega⟩
 have hk2 : n - (i + 1) = k := by omega
 have e : (sprGo p v (i + 1)).1 = (sprGo p v i).1 ++ [v[(sprGo p v i).2]!] := by rw [sprGo, hp]; rfl
 unfold outG
 rw [hk, hk2, e, List.set_append_right _ _ (by omega), hl, Nat.sub_self, List.replicate_succ, List.set_cons_zero, List.append_assoc]; rfl
theorem outG_skip {p : Nat → Bool} {v : List Int} {n i : Nat} (h : i < n) (hp : p i = false) : outG p v n i = outG p v n (i + 1) := by
 obtain ⟨k, hk⟩ : ∃ k, n - i = k + 1 := ⟨n - i - 1, by omega⟩
 have hk2 : n - (i + 1) = k := by omega
 have e : (sprGo p v (i + 1)).1 = (sprGo p v i).1 ++ [0] := by rw [sprGo, hp]; rfl
 unfold outG
 rw [hk, hk2, e, List.replicate_succ, List.append_assoc]; rfl
theorem spr_k (p : Nat → Bool) (v : List Int) (i : Nat) : (sprGo p v (i + 1)).2 = (sprGo p v i).2 + if p i then 1 else 0 := by
 rw [(spr_len p v (i + 1)).2, (spr_len p v i).2, inS_succ, List.length_append]; cases p i <;> rfl
def supR : Option (List Int) → AV
 | none => .tup [.nil, .sc (.bool false)]
 | some y => .tup [vs 2 y, .sc (.bool true)]
theorem con_supported (c : List (List Int)) (hc : ChangeM c) (s : Nat) (hs : s < 2 ^ c.length) (h0 : s ≠ 0) : Con Try.prog 48 [vm 0 c, vi s] [] fun r _ => r = supR (semF c fun i => s.testBit i) := by
 refine Con.intro Try.func48 rfl Try.ntmps48 Try.results48 (by kernel_rfl) (by simp) 0 (by simp) ?_
 have h6 := hc.six
 have hs64 : s < 64 := Nat.lt_of_lt_of_le hs (show 2 ^ c.length ≤ 2 ^ 6 from Nat.pow_le_pow_right (by omega) h6)
 obtain ⟨p, hp⟩ : ∃ p : Nat → Bool, p = fun i => s.testBit i := ⟨_, rfl⟩
 have hbit := fun i (hi : i < c.length) => bit_at s hs64 i (by omega)
 simp only [go_sem] at hbit
 have hin : 0 < (inS p c.length).length := by rw [hp]; exact bits_some c.length h6 s hs h0
 rw [← hp]
 simp only [go_sem]
 refine LoopK.intro (fun i : Nat => ⟨78, [(0, vm 0 c), (1, vi s), (6, .sl 2048 1 ((rowsG c p i).map (vs 0))), (16, vm 0 c), (17, vi c.length), (18, vi i)], []⟩)
  (fun i => c.length - i) (fun i => i ≤ c.length) 0 (by omega) ?_ ?_
 ·simp only [go_sem, rowsG_zero, List.map_nil]
 intro i hi
 by_cases h : i < c.length
 ·have hg := getm h
  have hw : IntKind.i64.wrap (i + 1) = i + 1 := wrap_in (by omega) (by omega)
  have hb : _ = p i := (hbit i h).trans (by rw [hp])
  have hrl := rowsG_len c p i
  simp only [go_sem, h, hg, hb]
  cases hpi : p i
  ·have e : rowsG c p (i + 1) = rowsG c p i := by rw [rowsG_succ, hpi]; simp
   simp only [go_sem, hw]
   refine roundK.intro (i + 1) (by omega) (by omega) ?_
   simp only [go_sem, e]
  ·have e : rowsG c p (i + 1) = rowsG c p i ++ [c[i]!] := by rw [rowsG_succ, hpi]; rfl
   have hr : roomFor ((rowsG c p i).length + 1) 24 := by simp only [roomFor]; omega
   simp only [go_sem, hw, hr]
   refine roundK.intro (i + 1) (by omega) (by omega) ?_
   simp only [go_sem, e, List.map_append, List.map_cons, List.map_nil]
 have hil : i = c.length := by omega
 subst hil
 obtain ⟨hV, hT⟩ := rowsG_valid hc hin
 have hct := con_transpose (rowsG c p c.length) hV.fits
 have ht : transR (rowsG c p c.length) = (turnS c p, 0) := by unfold transR; rw [if_neg (by rw [valid_check hV]; simp), hT]
 rw [ht] at hct
 have hV2 := turn_valid hc hin
 have hck := con_kernel (turnS c p) hV2.fits
 have hk : kernF (turnS c p) = (kernV (turnS c p), 0) := by unfold kernF; rw [if_pos (valid_check hV2)]; rfl
 rw [hk] at hck
 simp only [go_sem, h]
 refine CallU.freeze hct (by simp only [go_sem]) (by simp only [go_sem]) ?_
 rintro r bx rfl
 simp only [go_sem, vpairm]
 refine CallU.freeze hck (by simp only [go_sem]) (by simp only [go_sem]) ?_
 rintro r bx rfl
 simp only [go_sem, vpairm]
 have hsem : semF c p = match kernV (turnS c p) with
  | [v] => if v.all (fun x => decide (0 < x)) then some (sprGo p v c.length).1 else none
  | _ => none := rfl
 have hsg := fun v (hv : kernV (turnS c p) = [v]) => kern_single hV2 hv
 generalize kernV (turnS c p) = K at hsem hsg
 match K, hsem, hsg with
 | [], hsem, _ =>
  have hsem : semF c p = none := hsem
  simp only [go_sem, hsem, supR]
 | x :: y :: K, hsem, _ =>
  have hsem : semF c p = none := hsem
  have hne : ((K.length : Int) + 1 + 1 != 1) = true := bne_iff_ne.2 (by omega)
  simp only [go_sem, hsem, supR, List.map_cons, List.length_cons, hne]
 | [v], hsem, hsg =>
  obtain ⟨g1, _⟩ := hsg v rfl
  have hsem : semF c p = if v.all (fun x => decide (0 < x)) then some (sprGo p v c.length).1 else none := hsem
  rw [turn_at hc.valid.cpos, List.length_map] at g1
  simp only [go_sem, List.map_cons, List.map_nil]
  refine CallU.free (con_containsFunc v 61 (fun x => decide (x ≤ 0)) con_sup1 (by have := inS_len p c.length; omega)) (by simp only [go_sem]) (by simp only [go_sem]) ?_
  rintro r bx rfl
  cases ha : v.any fun x => decide (x ≤ 0)
  case true =>
   have e : (v.all fun x => decide (0 < x)) = false := by
    rw [List.any_eq_true] at ha
    obtain ⟨x, hx, hx0⟩ := ha
    rw [List.all_eq_false]
    have := of_decide_eq_true hx0
    exact ⟨x, hx, by simp; omega⟩
   have hsem : semF c p = none := by rw [hsem, e]; rfl
   simp only [go_sem, hsem, supR]
  have e : (v.all fun x => decide (0 < x)) = true := by
   rw [List.any_eq_false] at ha
   rw [List.all_eq_true]
   intro x hx
   have := ha x hx
   simp at this ⊢; omega
  have hsem : semF c p = some (sprGo p v c.length).1 := by rw [hsem, e]; rfl
  simp only [go_sem]
  have hvk := fun i (hi : i < c.length) (hpi : p i = true) => inS_lt hpi c.length hi
  refine ⟨by omega, by omega, by omega, ?_⟩
  refine LoopK.intro (fun i : Nat => ⟨78, [(1, vi s), (11, .sl 2626 1 [vs 0 v]), (13, vs 3520 (outG p v c.length i)), (14, vi (sprGo p v i).2), (56, vi c.length), (57, vi i)], []⟩)
   (fun i => c.length - i) (fun i => i ≤ c.length) 0 (by omega) ?_ ?_
  ·simp only [go_sem, outG_zero, leV_refl, sprGo, List.length_replicate]
  intro i hi
  by_cases h : i < c.length
  ·have hw : IntKind.i64.wrap (i + 1) = i + 1 := wrap_in (by omega) (by omega)
   have hb : _ = p i := (hbit i h).trans (by rw [hp])
   have hk := spr_k p v i
   have ho := outG_len (p := p) (v := v) hi
   cases hpi : p i
   ·rw [hpi] at hb
    have e := outG_skip (v := v) h hpi
    rw [hpi, if_neg (by simp), Nat.add_zero] at hk
    simp only [go_sem, h, hb, hw]
    refine roundK.intro (i + 1) (by omega) (by omega) ?_
    simp only [go_sem, ← e, hk, leV_refl]
   ·rw [hpi] at hb
    have e := outG_set (v := v) h hpi
    have hkl : (sprGo p v i).2 < v.length := by rw [(spr_len p v i).2, g1]; exact hvk i h hpi
    have hgv := getv hkl
    have hv6 : v.length ≤ 6 := by have := inS_len p c.length; omega
    have hw2 : IntKind.i64.wrap ((sprGo p v i).2 + 1) = ((sprGo p v (i + 1)).2 : Nat) := by rw [hk, hpi, wrap_in (by omega) (by omega)]; simp
    simp only [go_sem, h, hb, hw, hkl, hgv, ho, modify_vi, e, hw2]
    refine roundK.intro (i + 1) (by omega) (by omega) ?_
    simp only [go_sem]
  ·have hil : i = c.length := by omega
   subst hil
   simp only [go_sem, h, outG_end, hsem, supR]
end Go.AM
namespace Go.AM
open Go.RowKit
variable {P : Program}
def CallYF (P : Program) (f : AV) (args : List AV) (d : Nat) (σ : St) (K : St → Prop) : Prop :=
 match f with
 | .fn fid caps => CallY P fid (args ++ caps) d σ K
 | _ => False
@[congr] theorem CallYF_congr {f f' : AV} {args args' : List AV} {d : Nat} {K : St → Prop} {σ σ' : St} (h0 : mkd f = f') (h1 : args = args') (h : σ = σ') : CallYF P f args d σ K = CallYF P f' args' d σ' K := by subst_vars; rfl
@[go_sem] theorem CallYF_fn {f : FuncId} {caps args : List AV} {d : Nat} {σ : St} {K : St → Prop} : CallYF P (.fn f caps) args d σ K = CallY P f (args ++ caps) d σ K := rfl
@[go_sem] theorem headOp_callF {d : Nat} {T : TypeId} {pos : String} {af : Array Edge} {g : Option (Nat × Bool)} {n : Nat} {t : List (Nat × AV)} {b : List (List AV)} {K : St → Prop} {f : Tmp} {args : List Operand} {As : Array TypeId} : headOp P ⟨some d, .call ⟨.value (.tmp f), args.toArray, As⟩, T, pos, af, g⟩ ⟨n, t, b⟩ K = andK (d < n) (CallYF P (lookT t f) (evAll ⟨n, t, b⟩ args) d ⟨n, t, b⟩ K) := by
 simp only [headOp, andK, St.ev, St.get, evAll_eq, CallYF]; rfl
end Go.AM
namespace Go.AM
open Go Go.Proofs Go.RowKit
def vAtom (a : AtomD) : AV := .ag [vs 0 a.coefs, vi a.mod, vs 0 a.values]
attribute [go_sem] vAtom
def u8v (c : UInt8) : AV := .sc (.int .u8 c.toNat)
attribute [go_sem] u8v vStr vss
attribute [go_sem] vRule
attribute [go_sem] vM cM
end Go.AM
