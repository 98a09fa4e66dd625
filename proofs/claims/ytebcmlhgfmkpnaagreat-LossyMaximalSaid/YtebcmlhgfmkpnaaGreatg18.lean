/- LLo4 LoS -/
import Derived.Test.YtebcmlhgfmkpnaaGreatg17
namespace Go.AM
open Go Go.Proofs
structure OkCl (nl : Int) (np : Nat) (a : ClD) : Prop where
 len : a.2.length = np
 ws : ∀ p ∈ a.2, ValidP nl p
theorem normN_sub : ∀ (k : Nat) (q : List TmD), ∀ t ∈ normN k q, t ∈ q := by
 intro k
 induction k with
 | zero => intro q t ht; exact ht
 | succ k ih =>
  intro q t ht
  rw [normN] at ht
  split at ht
  ·exact ht
  ·exact List.mem_of_mem_eraseIdx (ih _ t ht)
theorem normP_sub {p : List TmD} {t : TmD} (h : t ∈ normP p) : t ∈ p := normN_sub _ _ t h
theorem ValidP.normV {n : Int} {p : List TmD} (h : ValidP n p) : ValidP n (normP p) :=
 ⟨h.num, Nat.le_trans (normP_len p) h.few, normP_ok h.ok, fun t ht => h.letters t (normP_sub ht), fun t ht => h.short t (normP_sub ht)⟩
def normC (a : ClD) : ClD := (a.1, a.2.map normP)
theorem OkCl.norm {nl : Int} {np : Nat} {a : ClD} (h : OkCl nl np a) : OkCl nl np (normC a) :=
 ⟨by show (a.2.map normP).length = np; rw [List.length_map]; exact h.len, fun p hp => by
  obtain ⟨q, hq, rfl⟩ := List.mem_map.1 hp
  exact (h.ws q hq).normV⟩
theorem leqX_validG {n : Int} {p q : List TmD} (h : ValidP n p) (h' : ValidP n q) : leqX n p q = leqP p q := by
 unfold leqX
 rw [check_zero.2 h, check_zero.2 h']; rfl
theorem hasX_valid {n : Int} {p : List TmD} (h : ValidP n p) (w : List Int) : hasX n p w = (validW w && memP p w) := by
 unfold hasX
 rw [check_zero.2 h]; simp
theorem clLeq_iff {nl : Int} {np : Nat} {a b : ClD} (ha : OkCl nl np a) (hb : OkCl nl np b) : clLeq nl a b = true ↔ a.1 = b.1 /\ ∀ j, j < np -> leqP a.2[j]! b.2[j]! = true := by
 unfold clLeq
 rw [Bool.and_eq_true, beq_iff_eq, eqFn_iff (ha.len.trans hb.len.symm), ha.len]
 refine and_congr Iff.rfl (forall_congr' fun j => imp_congr_right fun hj => ?_)
 rw [leqX_validG (ha.ws _ (mem_bangI (by rw [ha.len]; exact hj))) (hb.ws _ (mem_bangI (by rw [hb.len]; exact hj)))]
theorem clLeq_refl {nl : Int} {np : Nat} {a : ClD} (ha : OkCl nl np a) : clLeq nl a a = true :=
 (clLeq_iff ha ha).2 ⟨rfl, fun j hj => leq_refl (ha.ws _ (mem_bangI (by rw [ha.len]; exact hj))).ok⟩
theorem clLeq_trans {nl : Int} {np : Nat} {a b c : ClD} (ha : OkCl nl np a) (hb : OkCl nl np b) (hc : OkCl nl np c) (h1 : clLeq nl a b = true) (h2 : clLeq nl b c = true) : clLeq nl a c = true := by
 have g1 := (clLeq_iff ha hb).1 h1
 have g2 := (clLeq_iff hb hc).1 h2
 exact (clLeq_iff ha hc).2 ⟨g1.1.trans g2.1, fun j hj => leq_trans (ha.ws _ (mem_bangI (by rw [ha.len]; exact hj))).ok (hb.ws _ (mem_bangI (by rw [hb.len]; exact hj))).ok (hc.ws _ (mem_bangI (by rw [hc.len]; exact hj))).ok (g1.2 j hj) (g2.2 j hj)⟩
theorem clLeq_anti {nl : Int} {np : Nat} {a b : ClD} (ha : OkCl nl np a) (hb : OkCl nl np b) (ra : ∀ p ∈ a.2, redP p) (rb : ∀ p ∈ b.2, redP p) (h1 : clLeq nl a b = true) (h2 : clLeq nl b a = true) : a = b := by
 have g1 := (clLeq_iff ha hb).1 h1
 have g2 := (clLeq_iff hb ha).1 h2
 obtain ⟨a1, a2⟩ := a
 obtain ⟨b1, b2⟩ := b
 have e : a2 = b2 := by
  have hla : a2.length = np := ha.len
  have hlb : b2.length = np := hb.len
  apply List.ext_getElem (by omega)
  intro j hj hj'
  have ma := mem_bangI (l := a2) hj
  have mb := mem_bangI (l := b2) hj'
  have := red_unique a2[j]! b2[j]! (ha.ws _ ma).ok (hb.ws _ mb).ok (ra _ ma) (rb _ mb) (g1.2 j (by omega)) (g2.2 j (by omega))
  rwa [getElem!_pos a2 j hj, getElem!_pos b2 j hj'] at this
 rw [show a1 = b1 from g1.1, e]
theorem normC_red (a : ClD) : ∀ p ∈ (normC a).2, redP p := fun p hp => by
 obtain ⟨q, _, rfl⟩ := List.mem_map.1 hp
 exact normP_red q
theorem hasCl_leq {nl : Int} {np : Nat} {a b : ClD} (ha : OkCl nl np a) (hb : OkCl nl np b) (h : clLeq nl a b = true) {n : Int} {ws : List (List Int)} (hh : hasCl nl a n ws = true) : hasCl nl b n ws = true := by
 have g := (clLeq_iff ha hb).1 h
 unfold hasCl at *
 rw [Bool.and_eq_true, List.all_eq_true, beq_iff_eq] at hh ⊢
 refine ⟨fun j hj => ?_, hh.2.trans g.1⟩
 have hj := List.mem_range.1 hj
 rw [hb.len] at hj
 have h1 := hh.1 j (List.mem_range.2 (by rw [ha.len]; exact hj))
 have va := ha.ws _ (mem_bangI (l := a.2) (i := j) (by rw [ha.len]; exact hj))
 have vb := hb.ws _ (mem_bangI (l := b.2) (i := j) (by rw [hb.len]; exact hj))
 rw [hasX_valid va, Bool.and_eq_true] at h1
 rw [hasX_valid vb, Bool.and_eq_true]
 exact ⟨h1.1, (leq_iff va.ok vb.ok).1 (g.2 j hj) _ h1.2⟩
theorem hasCl_norm {nl : Int} {np : Nat} {a : ClD} (ha : OkCl nl np a) (n : Int) (ws : List (List Int)) : hasCl nl (normC a) n ws = hasCl nl a n ws := by
 unfold hasCl
 have e : (normC a).2 = a.2.map normP := rfl
 have e1 : (normC a).1 = a.1 := rfl
 rw [e, e1, List.length_map]
 congr 1
 rw [Bool.eq_iff_iff, List.all_eq_true, List.all_eq_true]
 refine forall_congr' fun j => imp_congr_right fun hj => ?_
 have hj := List.mem_range.1 hj
 have e2 : (a.2.map normP)[j]! = normP a.2[j]! := by rw [getElem!_pos _ j (by rw [List.length_map]; exact hj), getElem!_pos _ j hj, List.getElem_map]
 have va := ha.ws _ (mem_bangI hj)
 rw [e2, hasX_valid va, hasX_valid va.normV, <- normP_eq a.2[j]! ws[j]!]
theorem uniqC_mem (l : List ClD) (x : ClD) : x ∈ uniqC l ↔ x ∈ l := by
 unfold uniqC upToC
 constructor
 ·intro h
  obtain ⟨j, hj, rfl⟩ := List.mem_map.1 h
  exact mem_bangI (List.mem_range.1 (List.mem_filter.1 hj).1)
 ·intro h
  have key : ∀ j, j < l.length -> ∃ i, i <= j /\ keepsC l i = true /\ l[i]! = l[j]! := by
   intro j
   induction j with
   | zero => intro hj; exact ⟨0, Nat.le_refl _, rfl, rfl⟩
   | succ j ih =>
    intro hj
    by_cases hk : keepsC l (j + 1) = true
    ·exact ⟨j + 1, Nat.le_refl _, hk, rfl⟩
    ·obtain ⟨i, h1, h2, h3⟩ := ih (by omega)
     unfold keepsC at hk
     simp only [Nat.add_sub_cancel, Bool.or_eq_true, decide_eq_true_eq, not_or, Nat.add_one_ne_zero, not_false_eq_true, true_and, ne_eq, Decidable.not_not] at hk
     exact ⟨i, by omega, h2, by rw [h3, hk]⟩
  obtain ⟨j, hj, rfl⟩ := List.getElem_of_mem h
  obtain ⟨i, h1, h2, h3⟩ := key j hj
  rw [getElem!_pos l j hj] at h3
  rw [<- h3]
  exact List.mem_map.2 ⟨i, List.mem_filter.2 ⟨List.mem_range.2 (by omega), h2⟩, rfl⟩
theorem uniqC_asc {l : List ClD} (h : AscLC l) : (uniqC l).Pairwise fun a b => cmpCl a b < 0 := by
 unfold uniqC upToC
 rw [List.pairwise_map]
 have hr : (List.range l.length).Pairwise (· < ·) := List.pairwise_lt_range
 refine (hr.filter (keepsC l)).imp_of_mem fun {a b} ha hb hab => ?_
 have hbl := List.mem_range.1 (List.mem_filter.1 hb).1
 have hbk := (List.mem_filter.1 hb).2
 have hle : ∀ i j, i < j -> j < l.length -> cmpCl l[i]! l[j]! <= 0 := fun i j hij hj => by
  rw [getElem!_pos l i (by omega), getElem!_pos l j hj]
  exact List.pairwise_iff_getElem.1 h i j (by omega) hj hij
 unfold keepsC at hbk
 have hne : l[b]! ≠ l[b - 1]! := by
  simp only [Bool.or_eq_true, decide_eq_true_eq] at hbk
  exact hbk.resolve_left (by omega)
 have h1 := hle (b - 1) b (by omega) hbl
 have h1' : cmpCl l[b - 1]! l[b]! < 0 := by
  have : cmpCl l[b - 1]! l[b]! ≠ 0 := fun e => hne ((ord_Cl.zero _ _).1 e).symm
  omega
 by_cases e : a = b - 1
 ·rw [e]; exact h1'
 ·have h2 := hle a (b - 1) (by omega) (by omega)
  by_cases e0 : cmpCl l[a]! l[b - 1]! = 0
  ·rw [(ord_Cl.zero _ _).1 e0]; exact h1'
  ·exact ord_Cl.trans _ _ _ (by omega) h1'
def baseCl (l : List ClD) : List ClD := uniqC (ascFC (l.map normC))
def insideF (nl : Int) (u : List ClD) (i : Nat) : Bool := (List.range u.length).any fun k => k != i && clLeq nl u[i]! u[k]!
def maxFC (nl : Int) (u : List ClD) (m : Nat) : List ClD := ((List.range m).filter fun i => !insideF nl u i).map fun i => u[i]!
def maxCl (nl : Int) (l : List ClD) : List ClD := maxFC nl (baseCl l) (baseCl l).length
theorem maxFC_succ (nl : Int) (u : List ClD) (m : Nat) : maxFC nl u (m + 1) = maxFC nl u m ++ (if insideF nl u m = true then [] else [u[m]!]) := by
 unfold maxFC
 rw [List.range_succ, List.filter_append, List.map_append]
 cases h : insideF nl u m <;> simp [h]
theorem maxFC_len (nl : Int) (u : List ClD) (m : Nat) : (maxFC nl u m).length <= m := by
 unfold maxFC
 rw [List.length_map]
 exact Nat.le_trans (List.length_filter_le _ _) (by simp)
theorem base_mem {l : List ClD} {x : ClD} : x ∈ baseCl l ↔ ∃ a ∈ l, x = normC a := by
 unfold baseCl
 rw [uniqC_mem, (asc_permC (l.map normC)).mem_iff, List.mem_map]
 exact ⟨fun ⟨a, h1, h2⟩ => ⟨a, h1, h2.symm⟩, fun ⟨a, h1, h2⟩ => ⟨a, h1, h2.symm⟩⟩
theorem base_asc (l : List ClD) : (baseCl l).Pairwise fun a b => cmpCl a b < 0 := uniqC_asc (asc_ascC _)
theorem upToC_len (l : List ClD) (m : Nat) : (upToC l m).length <= m := by
 unfold upToC
 rw [List.length_map]
 exact Nat.le_trans (List.length_filter_le _ _) (by simp)
theorem base_len (l : List ClD) : (baseCl l).length <= l.length := by
 unfold baseCl uniqC
 have := upToC_len (ascFC (l.map normC)) (ascFC (l.map normC)).length
 have e := (asc_permC (l.map normC)).length_eq
 rw [List.length_map] at e
 omega
theorem base_ne (l : List ClD) {i k : Nat} (hi : i < (baseCl l).length) (hk : k < (baseCl l).length) (h : (baseCl l)[i]! = (baseCl l)[k]!) : i = k := by
 have hp := List.pairwise_iff_getElem.1 (base_asc l)
 rcases Nat.lt_trichotomy i k with h1 | h1 | h1
 ·have := hp i k hi hk h1
  rw [<- getElem!_pos _ i hi, <- getElem!_pos _ k hk, h, cmpCl_self] at this
  omega
 ·exact h1
 ·have := hp k i hk hi h1
  rw [<- getElem!_pos _ i hi, <- getElem!_pos _ k hk, h, cmpCl_self] at this
  omega
structure BaseOk (nl : Int) (np : Nat) (u : List ClD) : Prop where
 ok : ∀ a ∈ u, OkCl nl np a
 red : ∀ a ∈ u, ∀ p ∈ a.2, redP p
theorem base_ok {nl : Int} {np : Nat} {l : List ClD} (h : ∀ a ∈ l, OkCl nl np a) : BaseOk nl np (baseCl l) :=
 ⟨fun a ha => by obtain ⟨b, hb, rfl⟩ := base_mem.1 ha; exact (h b hb).norm, fun a ha => by obtain ⟨b, _, rfl⟩ := base_mem.1 ha; exact normC_red b⟩
theorem maxFC_mem {nl : Int} {u : List ClD} {x : ClD} : x ∈ maxFC nl u u.length ↔ ∃ i, i < u.length /\ insideF nl u i = false /\ x = u[i]! := by
 unfold maxFC
 rw [List.mem_map]
 constructor
 ·rintro ⟨i, hi, rfl⟩
  have := List.mem_filter.1 hi
  exact ⟨i, List.mem_range.1 this.1, by simpa using this.2, rfl⟩
 ·rintro ⟨i, h1, h2, rfl⟩
  exact ⟨i, List.mem_filter.2 ⟨List.mem_range.2 h1, by simp [h2]⟩, rfl⟩
theorem max_above {nl : Int} {np : Nat} {u : List ClD} (hu : BaseOk nl np u) (hd : ∀ i k, i < u.length -> k < u.length -> u[i]! = u[k]! -> i = k) :
  ∀ (n : Nat) (i : Nat), i < u.length -> ((List.range u.length).filter fun k => clLeq nl u[i]! u[k]!).length <= n -> ∃ x ∈ maxFC nl u u.length, clLeq nl u[i]! x = true
 | 0, i, hi, hn => by
  exfalso
  have : i ∈ (List.range u.length).filter fun k => clLeq nl u[i]! u[k]! := List.mem_filter.2 ⟨List.mem_range.2 hi, clLeq_refl (hu.ok _ (mem_bangI hi))⟩
  have := List.length_pos_of_mem this
  omega
 | n + 1, i, hi, hn => by
  by_cases h : insideF nl u i = false
  ·exact ⟨u[i]!, maxFC_mem.2 ⟨i, hi, h, rfl⟩, clLeq_refl (hu.ok _ (mem_bangI hi))⟩
  ·have h : insideF nl u i = true := by simpa using h
   unfold insideF at h
   obtain ⟨k, hk, hkk⟩ := List.any_eq_true.1 h
   have hk := List.mem_range.1 hk
   rw [Bool.and_eq_true, bne_iff_ne] at hkk
   have oi := hu.ok _ (mem_bangI hi)
   have ok := hu.ok _ (mem_bangI hk)
   have hlt : ((List.range u.length).filter fun j => clLeq nl u[k]! u[j]!).length <= n := by
    have hlen : ((List.range u.length).filter fun j => clLeq nl u[k]! u[j]!).length <= (((List.range u.length).filter fun j => clLeq nl u[i]! u[j]!).filter fun j => j != i).length := by
     rw [List.filter_filter, <- List.countP_eq_length_filter, <- List.countP_eq_length_filter]
     refine List.countP_mono_left fun j hj hp => ?_
     have hj := List.mem_range.1 hj
     have oj := hu.ok _ (mem_bangI hj)
     rw [Bool.and_eq_true, bne_iff_ne]
     refine ⟨fun e => ?_, clLeq_trans oi ok oj hkk.2 hp⟩
     subst e
     exact hkk.1 (hd k j hk hi (clLeq_anti ok oi (hu.red _ (mem_bangI hk)) (hu.red _ (mem_bangI hi)) hp hkk.2))
    have : (((List.range u.length).filter fun j => clLeq nl u[i]! u[j]!).filter fun j => j != i).length < ((List.range u.length).filter fun j => clLeq nl u[i]! u[j]!).length := by
     refine List.length_filter_lt_length_iff_exists.2 ⟨i, List.mem_filter.2 ⟨List.mem_range.2 hi, clLeq_refl oi⟩, by simp⟩
    omega
   obtain ⟨x, hx, hle⟩ := max_above hu hd n k hk hlt
   obtain ⟨j, hj, _, rfl⟩ := maxFC_mem.1 hx
   exact ⟨_, hx, clLeq_trans oi ok (hu.ok _ (mem_bangI hj)) hkk.2 hle⟩
theorem max_any {nl : Int} {np : Nat} {l : List ClD} (h : ∀ a ∈ l, OkCl nl np a) (n : Int) (ws : List (List Int)) : ((maxCl nl l).any fun a => hasCl nl a n ws) = l.any fun a => hasCl nl a n ws := by
 have hu := base_ok h
 rw [Bool.eq_iff_iff, List.any_eq_true, List.any_eq_true]
 constructor
 ·rintro ⟨x, hx, hh⟩
  obtain ⟨i, hi, _, rfl⟩ := maxFC_mem.1 hx
  obtain ⟨a, ha, e⟩ := base_mem.1 (mem_bangI hi)
  rw [e, hasCl_norm (h a ha)] at hh
  exact ⟨a, ha, hh⟩
 ·rintro ⟨a, ha, hh⟩
  have hm : normC a ∈ baseCl l := base_mem.2 ⟨a, ha, rfl⟩
  obtain ⟨i, hi, e⟩ := List.getElem_of_mem hm
  rw [<- getElem!_pos _ i hi] at e
  obtain ⟨x, hx, hle⟩ := max_above hu (fun i k hi hk => base_ne l hi hk) _ i hi (Nat.le_refl _)
  obtain ⟨j, hj, _, rfl⟩ := maxFC_mem.1 hx
  refine ⟨_, hx, hasCl_leq (hu.ok _ (mem_bangI hi)) (hu.ok _ (mem_bangI hj)) hle ?_⟩
  rw [e, hasCl_norm (h a ha)]; exact hh
theorem max_mem {nl : Int} {np : Nat} {l : List ClD} (h : ∀ a ∈ l, OkCl nl np a) {x : ClD} (hx : x ∈ maxCl nl l) : OkCl nl np x /\ (∀ p ∈ x.2, redP p) /\ ∃ a ∈ l, x = normC a := by
 obtain ⟨i, hi, _, rfl⟩ := maxFC_mem.1 hx
 have hm := mem_bangI hi
 exact ⟨(base_ok h).ok _ hm, (base_ok h).red _ hm, base_mem.1 hm⟩
theorem max_pair {nl : Int} (l : List ClD) : (maxCl nl l).Pairwise fun a b => cmpCl a b < 0 /\ clLeq nl a b = false /\ clLeq nl b a = false := by
 unfold maxCl maxFC
 rw [List.pairwise_map]
 have hr : (List.range (baseCl l).length).Pairwise (· < ·) := List.pairwise_lt_range
 refine (hr.filter _).imp_of_mem fun {a b} ha hb hab => ?_
 have ha' := List.mem_filter.1 ha
 have hb' := List.mem_filter.1 hb
 have hal := List.mem_range.1 ha'.1
 have hbl := List.mem_range.1 hb'.1
 have na : insideF nl (baseCl l) a = false := by simpa using ha'.2
 have nb : insideF nl (baseCl l) b = false := by simpa using hb'.2
 have hp := List.pairwise_iff_getElem.1 (base_asc l) a b hal hbl hab
 rw [<- getElem!_pos _ a hal, <- getElem!_pos _ b hbl] at hp
 unfold insideF at na nb
 rw [List.any_eq_false] at na nb
 have n1 := na b (List.mem_range.2 hbl)
 have n2 := nb a (List.mem_range.2 hal)
 rw [Bool.not_eq_true, Bool.and_eq_false_iff] at n1 n2
 exact ⟨hp, n1.resolve_left (by rw [bne_iff_ne.2 (show b ≠ a by omega)]; simp), n2.resolve_left (by rw [bne_iff_ne.2 (show a ≠ b by omega)]; simp)⟩
theorem max_leq {nl : Int} {np : Nat} {l : List ClD} (h : ∀ a ∈ l, OkCl nl np a) {i k : Nat} (hi : i < (maxCl nl l).length) (hk : k < (maxCl nl l).length) : clLeq nl (maxCl nl l)[i]! (maxCl nl l)[k]! = decide (i = k) := by
 have hp := List.pairwise_iff_getElem.1 (max_pair (nl := nl) l)
 rcases Nat.lt_trichotomy i k with h1 | h1 | h1
 ·have := hp i k hi hk h1
  rw [getElem!_pos _ i hi, getElem!_pos _ k hk, this.2.1, decide_eq_false (by omega)]
 ·subst h1
  rw [decide_eq_true rfl]
  exact clLeq_refl (max_mem h (mem_bangI hi)).1
 ·have := hp k i hk hi h1
  rw [getElem!_pos _ i hi, getElem!_pos _ k hk, this.2.2, decide_eq_false (by omega)]
theorem max_cmp {nl : Int} (l : List ClD) {i : Nat} (hi : i + 1 < (maxCl nl l).length) : cmpCl (maxCl nl l)[i]! (maxCl nl l)[i + 1]! < 0 := by
 have := List.pairwise_iff_getElem.1 (max_pair (nl := nl) l) i (i + 1) (by omega) hi (by omega)
 rw [getElem!_pos _ i (by omega), getElem!_pos _ (i + 1) hi]
 exact this.1
theorem max_len (nl : Int) (l : List ClD) : (maxCl nl l).length <= l.length := Nat.le_trans (maxFC_len _ _ _) (base_len l)
end Go.AM
namespace Go.AM
open Go Go.Proofs Go.RowKit
set_option maxRecDepth 100000
set_option maxHeartbeats 8000000
theorem Rk_midL (n j : Nat) : Rk 2 n ++ ([List.replicate 2 .any] ++ Rk 2 j) = Rk 2 (n + 1 + j) := by
 unfold Rk
 rw [show [List.replicate 2 AV.any] = List.replicate 1 (List.replicate 2 AV.any) from rfl, List.replicate_append_replicate, List.replicate_append_replicate]
 congr 1; omega
theorem CloudOk.cl {m : MD} {a : ClD} (h : CloudOk m a.1 a.2) : OkCl m.letters.length m.places.length a := ⟨h.len, h.ws⟩
theorem CloudOk.cmp {m : MD} {a : ClD} (h : CloudOk m a.1 a.2) : CmpC a := ⟨fun p hp => (h.ws p hp).lenP, by have := h.few; have := h.len; omega⟩
theorem CloudOk.normO {m : MD} {a : ClD} (h : CloudOk m a.1 a.2) : CloudOk m (normC a).1 (normC a).2 := ⟨h.st, h.cl.norm.len, h.cl.norm.ws, h.few⟩
theorem base_cloud {m : MD} {l : List ClD} (h : ∀ a ∈ l, CloudOk m a.1 a.2) : ∀ a ∈ baseCl l, CloudOk m a.1 a.2 := fun a ha => by
 obtain ⟨b, hb, rfl⟩ := base_mem.1 ha
 exact (h b hb).normO
theorem max_cloud {m : MD} {l : List ClD} (h : ∀ a ∈ l, CloudOk m a.1 a.2) : ∀ a ∈ maxCl m.letters.length l, CloudOk m a.1 a.2 := fun a ha => by
 obtain ⟨b, hb, rfl⟩ := (max_mem (nl := m.letters.length) (fun a ha => (h a ha).cl) ha).2.2
 exact (h b hb).normO
def insP (nl : Int) (u : List ClD) (i k : Nat) : Bool := (List.range k).any fun k => k != i && clLeq nl u[i]! u[k]!
theorem insP_succ (nl : Int) (u : List ClD) (i k : Nat) : insP nl u i (k + 1) = (insP nl u i k || (k != i && clLeq nl u[i]! u[k]!)) := by
 unfold insP
 rw [List.range_succ, List.any_append]; simp
theorem con_lmaximise (m : MD) (l : List ClD) (h0 : 0 < l.length) (hl : l.length <= 12) (ho : ∀ a ∈ l, CloudOk m a.1 a.2) : Con Tryz.prog 49 [vM m, .sl 0 2 (l.map vCP)] [] fun r _ => r = .tup [.sl 0 2 ((maxCl m.letters.length l).map vCP), vi 0] := by
 refine Con.frozX ?_
 refine Con.intro Tryz.func49 rfl Tryz.ntmps49 Tryz.results49 (by kernel_rfl) (by simp) 0 (by simp) ?_
 have hbo := base_cloud ho
 have hbl := base_len l
 have hmx : maxCl m.letters.length l = maxFC m.letters.length (baseCl l) (baseCl l).length := rfl
 simp only [go_sem, cM, vss]
 refine LoopK.intro (fun i : Nat => ⟨70, [(2, .pb 0 0), (6, .sl 1728 2 (((l.take i).map normC).map vCP)), (7, .nil), (15, .sl 0 2 (l.map vCP)), (16, vi l.length), (17, vi i)], cM m :: Rk 2 i⟩)
  (fun i => l.length - i) (fun i => i <= l.length) 0 (Nat.zero_le _) ?_ ?_
 ·simp only [go_sem, cM, vss, List.take_zero, List.map_nil, Rk, List.replicate_zero]
  all_goals trace_state
 rintro i hi
 have hB := Rk_len 2 i
 have n0 := fun L : List (List AV) => app_at0 (L := L) hB
 have s0 := fun (L : List (List AV)) z => app_set0 (L := L) (z := z) hB
 by_cases h : i < l.length
 case pos =>
  have hg := getCl h
  have hwi : IntKind.i64.wrap (i + 1) = i + 1 := wrap_in (by omega) (by omega)
  have hn := con_lnormal m l[i]!.1 l[i]!.2 (ho _ (memCl h))
  have e : ((l.take (i + 1)).map normC).map vCP = ((l.take i).map normC).map vCP ++ [vCP (normC l[i]!)] := by
   rw [List.take_succ_eq_append_getElem h, List.map_append, List.map_append, <- getElem!_pos l i h]; rfl
  have e2 : vCP (normC l[i]!) = .ag [vi l[i]!.1, .sl 0 1 ((l[i]!.2.map normP).map vPr)] := rfl
  simp only [vM, cM, vss, vCl] at hn
  simp only [go_sem, h, hg, hB, n0, s0, cM, vss, List.length_map, List.cons_append, List.length_cons]
  refine CallU.free hn (by simp only [go_sem]) (by simp only [go_sem]) ?_
  rintro q bx rfl
  simp only [go_sem, hwi]
  refine ⟨by simp only [roomFor, List.length_take]; omega, ?_⟩
  refine roundK.intro (i + 1) (by omega) (by omega) ?_
  simp only [go_sem, cM, vss, Rk_succ, e, e2]
  exact leB_RkA (x := [[_, _]]) (y := [List.replicate 2 .any]) ⟨⟨leV_any _, leV_any _, trivial⟩, trivial⟩
 obtain rfl : i = l.length := by omega
 have hz : (l.take l.length).map normC = l.map normC := by rw [List.take_length]
 rw [hz]
 have hZl : (l.map normC).length = l.length := by rw [List.length_map]
 have hZo : ∀ a ∈ l.map normC, CloudOk m a.1 a.2 := fun a ha => by
  obtain ⟨b, hb, rfl⟩ := List.mem_map.1 ha
  exact (ho b hb).normO
 have hbe : uniqC (ascFC (l.map normC)) = baseCl l := rfl
 generalize l.map normC = Z at hZl hZo hbe
 have hAl : (ascFC Z).length = l.length := by rw [(asc_permC Z).length_eq, hZl]
 have hAo : ∀ a ∈ ascFC Z, CloudOk m a.1 a.2 := fun a ha => hZo a ((asc_permC Z).mem_iff.1 ha)
 have cs := conw_sortC Z (by omega) (by omega) (fun a ha => (hZo a ha).cmp)
 have cc := conc_lcompactF (ascFC Z) (by omega) (fun a ha => (hAo a ha).cmp)
 rw [hbe] at cc
 have hg1 : ∀ ts L, mapB (giveLeaf ts L) (Rk 2 l.length) = Rk 2 l.length := fun ts L => mapB_Rk rfl 2 _
 have hg2 : ∀ ts, mapB (killS ts) (Rk 2 l.length) = Rk 2 l.length := fun ts => mapB_Rk rfl 2 _
 simp only [go_sem, h, cM, vss]
 refine CallU.back cs (by simp only [go_sem]) (by simp only [go_sem]) ?_
 rintro r ys ⟨rfl, rfl⟩
 simp only [go_sem, hg1]
 refine ⟨by simp; omega, ?_⟩
 refine CallU.lend cc (by simp only [go_sem]) (by simp only [go_sem]) ?_
 rintro r rfl
 simp only [go_sem, hg2]
 rw [hmx]
 generalize baseCl l = u at hbo hbl
 refine LoopK.intro (fun i : Nat => ⟨70, [(2, .pb 0 0), (6, .sl 2050 2 (u.map vCP)), (7, .sl 4160 2 ((maxFC m.letters.length u i).map vCP)), (32, .sl 2050 2 (u.map vCP)), (33, vi u.length), (34, vi i)], cM m :: Rk 2 (l.length + i * (1 + u.length))⟩)
  (fun i => u.length - i) (fun i => i <= u.length) 0 (Nat.zero_le _) ?_ ?_
 ·have e0 : maxFC m.letters.length u 0 = [] := rfl
  simp only [go_sem, cM, vss, Nat.zero_mul, Nat.add_zero, e0, List.map_nil]
 rintro i hi
 have hml := maxFC_len m.letters.length u i
 obtain ⟨n, hn⟩ : ∃ n, n = l.length + i * (1 + u.length) := ⟨_, rfl⟩
 rw [<- hn]
 by_cases h6 : i < u.length
 case neg =>
  obtain rfl : i = u.length := by omega
  have h64 : ¬ 64 < (maxFC m.letters.length u u.length).length := by omega
  simp only [go_sem, h6, h64, cM, vss, List.length_map]
  exact leV_refl _
 have hgi := getCl h6
 have hoi := hbo _ (memCl h6)
 have hB1 := Rk_len 2 n
 have n1 := fun L : List (List AV) => app_at0 (L := L) hB1
 have s1 := fun (L : List (List AV)) z => app_set0 (L := L) (z := z) hB1
 have hwi : IntKind.i64.wrap (i + 1) = i + 1 := wrap_in (by omega) (by omega)
 simp only [go_sem, h6, hgi, hB1, n1, s1, cM, vss, List.length_map]
 refine LoopK.intro (fun k : Nat => ⟨70, [(2, .pb 0 0), (6, .sl 2050 2 (u.map vCP)), (7, .sl 4160 2 ((maxFC m.letters.length u i).map vCP)), (10, vi i), (11, .pb (n + 1) 0), (12, .sc (.bool (insP m.letters.length u i k))), (32, .sl 2050 2 (u.map vCP)), (33, vi u.length), (34, vi i), (39, .sl 2050 2 (u.map vCP)), (40, vi u.length), (41, vi k)], cM m :: (Rk 2 n ++ [[vi u[i]!.1, .sl 0 1 (u[i]!.2.map vPr)]] ++ Rk 2 k)⟩)
  (fun k => u.length - k) (fun k => k <= u.length) 0 (Nat.zero_le _) ?_ ?_
 ·have e0 : Rk 2 0 = [] := rfl
  have e1 : insP m.letters.length u i 0 = false := rfl
  simp only [go_sem, cM, vss, e0, e1, List.append_nil]
 rintro k hk
 have hB2 : (Rk 2 n ++ [[AV.sc (.int .i64 u[i]!.1), AV.sl 0 1 (u[i]!.2.map vPr)]] ++ Rk 2 k).length = n + 1 + k := by simp only [List.length_append, Rk_len, List.length_cons, List.length_nil]
 have n2 := fun X : List (List AV) => app_at0 (L := X) hB2
 have s2 := fun (X : List (List AV)) z => app_set0 (L := X) (z := z) hB2
 have hget : ∀ X, (Rk 2 n ++ [[AV.sc (.int .i64 u[i]!.1), AV.sl 0 1 (u[i]!.2.map vPr)]] ++ Rk 2 k ++ X)[n]? = some [AV.sc (.int .i64 u[i]!.1), AV.sl 0 1 (u[i]!.2.map vPr)] := fun X => by
  rw [List.append_assoc, List.append_assoc, app_at0 hB1]; rfl
 have hget0 : (Rk 2 n ++ [[AV.sc (.int .i64 u[i]!.1), AV.sl 0 1 (u[i]!.2.map vPr)]] ++ Rk 2 k)[n]? = some [AV.sc (.int .i64 u[i]!.1), AV.sl 0 1 (u[i]!.2.map vPr)] := by
  rw [List.append_assoc, app_at0 hB1]; rfl
 by_cases h7 : k < u.length
 case neg =>
  obtain rfl : k = u.length := by omega
  have ei : insP m.letters.length u i u.length = insideF m.letters.length u i := rfl
  have hsucc := maxFC_succ m.letters.length u i
  have hnn : l.length + (i + 1) * (1 + u.length) = n + 1 + u.length := by rw [hn, Nat.succ_mul]; omega
  rw [ei]
  cases hin : insideF m.letters.length u i with
  | true =>
   rw [hin, if_pos rfl, List.append_nil] at hsucc
   simp only [go_sem, h7, hwi, cM, vss]
   refine roundK.intro (i + 1) (by omega) (by omega) ?_
   simp only [go_sem, hsucc, hnn, <- Rk_midL]
   rw [List.append_assoc]
   exact leB_RkA (x := [_, _] :: Rk 2 u.length) (y := List.replicate 2 .any :: Rk 2 u.length) ⟨⟨leV_any _, leV_any _, trivial⟩, leB_self _⟩
  | false =>
   rw [hin, if_neg (by simp)] at hsucc
   have e : (maxFC m.letters.length u (i + 1)).map vCP = (maxFC m.letters.length u i).map vCP ++ [.ag [vi u[i]!.1, .sl 0 1 (u[i]!.2.map vPr)]] := by rw [hsucc, List.map_append]; rfl
   simp only [go_sem, h7, hwi, hget0, cM, vss, List.length_map]
   refine ⟨by simp only [roomFor]; omega, ?_⟩
   refine roundK.intro (i + 1) (by omega) (by omega) ?_
   simp only [go_sem, e, hnn, <- Rk_midL]
   rw [List.append_assoc]
   exact leB_RkA (x := [_, _] :: Rk 2 u.length) (y := List.replicate 2 .any :: Rk 2 u.length) ⟨⟨leV_any _, leV_any _, trivial⟩, leB_self _⟩
 have hgk := getCl h7
 have hok := hbo _ (memCl h7)
 have hwk : IntKind.i64.wrap (k + 1) = k + 1 := wrap_in (by omega) (by omega)
 have hsk := insP_succ m.letters.length u i k
 have cl := con_lleq m u[i]! u[k]! hoi hok
 simp only [vM, cM, vss, vCl] at cl
 simp only [go_sem, h7, hgk, hB2, n2, s2, cM, vss, List.length_map]
 cases hip : insP m.letters.length u i k with
 | true =>
  rw [hip, Bool.true_or] at hsk
  simp only [go_sem, hwk]
  refine roundK.intro (k + 1) (by omega) (by omega) ?_
  simp only [go_sem, hsk, Rk_succ]
  rw [<- List.append_assoc]
  exact leB_app (leB_self _) ⟨⟨leV_any _, leV_any _, trivial⟩, trivial⟩
 | false =>
  rw [hip, Bool.false_or] at hsk
  by_cases hki : k = i
  ·have hb : (((k : Nat) : Int) != (i : Int)) = false := by rw [hki]; simp
   have hb2 : (k != i) = false := by rw [hki]; simp
   rw [hb2, Bool.false_and] at hsk
   simp only [go_sem, hb, hwk]
   refine roundK.intro (k + 1) (by omega) (by omega) ?_
   simp only [go_sem, hsk, Rk_succ]
   rw [<- List.append_assoc]
   exact leB_app (leB_self _) ⟨⟨leV_any _, leV_any _, trivial⟩, trivial⟩
  ·have hb : (((k : Nat) : Int) != (i : Int)) = true := by rw [bne_iff_ne]; omega
   have hb2 : (k != i) = true := bne_iff_ne.2 hki
   rw [hb2, Bool.true_and] at hsk
   simp only [go_sem, hb, hget, n2]
   refine CallU.free cl (by simp only [go_sem]) (by simp only [go_sem]) ?_
   rintro r bx rfl
   simp only [go_sem, hwk]
   refine roundK.intro (k + 1) (by omega) (by omega) ?_
   simp only [go_sem, hsk, Rk_succ]
   rw [<- List.append_assoc]
   exact leB_app (leB_self _) ⟨⟨leV_any _, leV_any _, trivial⟩, trivial⟩
end Go.AM
