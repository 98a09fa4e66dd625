/- LLo4 LoS LoE LoO LLo1 LoD MxW3 MxW4 MxWA MxWB MxW7 MxWC MxWD MxWE MxWK MxWJ LoL LoT LoU Am3 CmB0 -/
import Derived.Test.YtebcmlhgfmkpnaaGreatg17
import Derived.Test.YtebcmlhgfmkpnaaGreatg12
import Derived.Test.YtebcmlhgfmkpnaaGreatg9
import Derived.Test.YtebcmlhgfmkpnaaGreatg7
import Derived.SizedLaws
import Derived.Test.YtebcmlhgfmkpnaaGreatRows
import Derived.Test.YtebcmlhgfmkpnaaGreatg8
namespace Go.AM
open Go Go.Proofs
structure OkCl (nl : Int) (np : Nat) (a : ClD) : Prop where
 len : a.2.length = np
 ws : ∀ p ∈ a.2, ValidP nl p
theorem normN_sub : ∀ (k : Nat) (q : List TmD), ∀ t ∈ normN k q, t ∈ q := by
 intro k
 induction k with
 | zero => intro q t ht; exact ht
 | succ k ih =>
  intro q t ht
  rw [normN] at ht
  split at ht
  ·exact ht
  ·exact List.mem_of_mem_eraseIdx (ih _ t ht)
theorem normP_sub {p : List TmD} {t : TmD} (h : t ∈ normP p) : t ∈ p := normN_sub _ _ t h
theorem ValidP.normV {n : Int} {p : List TmD} (h : ValidP n p) : ValidP n (normP p) :=
 ⟨h.num, Nat.le_trans (normP_len p) h.few, normP_ok h.ok, fun t ht => h.letters t (normP_sub ht), fun t ht => h.short t (normP_sub ht)⟩
def normC (a : ClD) : ClD := (a.1, a.2.map normP)
theorem OkCl.norm {nl : Int} {np : Nat} {a : ClD} (h : OkCl nl np a) : OkCl nl np (normC a) :=
 ⟨by show (a.2.map normP).length = np; rw [List.length_map]; exact h.len, fun p hp => by
  obtain ⟨q, hq, rfl⟩ := List.mem_map.1 hp
  exact (h.ws q hq).normV⟩
theorem leqX_validG {n : Int} {p q : List TmD} (h : ValidP n p) (h' : ValidP n q) : leqX n p q = leqP p q := by
 unfold leqX
 rw [check_zero.2 h, check_zero.2 h']; rfl
theorem clLeq_iff {nl : Int} {np : Nat} {a b : ClD} (ha : OkCl nl np a) (hb : OkCl nl np b) : clLeq nl a b = true ↔ a.1 = b.1 /\ ∀ j, j < np -> leqP a.2[j]! b.2[j]! = true := by
 unfold clLeq
 rw [Bool.and_eq_true, beq_iff_eq, eqFn_iff (ha.len.trans hb.len.symm), ha.len]
 refine and_congr Iff.rfl (forall_congr' fun j => imp_congr_right fun hj => ?_)
 rw [leqX_validG (ha.ws _ (mem_bangI (by rw [ha.len]; exact hj))) (hb.ws _ (mem_bangI (by rw [hb.len]; exact hj)))]
theorem clLeq_refl {nl : Int} {np : Nat} {a : ClD} (ha : OkCl nl np a) : clLeq nl a a = true :=
 (clLeq_iff ha ha).2 ⟨rfl, fun j hj => leq_refl (ha.ws _ (mem_bangI (by rw [ha.len]; exact hj))).ok⟩
theorem clLeq_trans {nl : Int} {np : Nat} {a b c : ClD} (ha : OkCl nl np a) (hb : OkCl nl np b) (hc : OkCl nl np c) (h1 : clLeq nl a b = true) (h2 : clLeq nl b c = true) : clLeq nl a c = true := by
 have g1 := (clLeq_iff ha hb).1 h1
 have g2 := (clLeq_iff hb hc).1 h2
 exact (clLeq_iff ha hc).2 ⟨g1.1.trans g2.1, fun j hj => leq_trans (ha.ws _ (mem_bangI (by rw [ha.len]; exact hj))).ok (hb.ws _ (mem_bangI (by rw [hb.len]; exact hj))).ok (hc.ws _ (mem_bangI (by rw [hc.len]; exact hj))).ok (g1.2 j hj) (g2.2 j hj)⟩
theorem clLeq_anti {nl : Int} {np : Nat} {a b : ClD} (ha : OkCl nl np a) (hb : OkCl nl np b) (ra : ∀ p ∈ a.2, redP p) (rb : ∀ p ∈ b.2, redP p) (h1 : clLeq nl a b = true) (h2 : clLeq nl b a = true) : a = b := by
 have g1 := (clLeq_iff ha hb).1 h1
 have g2 := (clLeq_iff hb ha).1 h2
 obtain ⟨a1, a2⟩ := a
 obtain ⟨b1, b2⟩ := b
 have e : a2 = b2 := by
  have hla : a2.length = np := ha.len
  have hlb : b2.length = np := hb.len
  apply List.ext_getElem (by omega)
  intro j hj hj'
  have ma := mem_bangI (l := a2) hj
  have mb := mem_bangI (l := b2) hj'
  have := red_unique a2[j]! b2[j]! (ha.ws _ ma).ok (hb.ws _ mb).ok (ra _ ma) (rb _ mb) (g1.2 j (by omega)) (g2.2 j (by omega))
  rwa [getElem!_pos a2 j hj, getElem!_pos b2 j hj'] at this
 rw [show a1 = b1 from g1.1, e]
theorem normC_red (a : ClD) : ∀ p ∈ (normC a).2, redP p := fun p hp => by
 obtain ⟨q, _, rfl⟩ := List.mem_map.1 hp
 exact normP_red q
theorem hasCl_leq {nl : Int} {np : Nat} {a b : ClD} (ha : OkCl nl np a) (hb : OkCl nl np b) (h : clLeq nl a b = true) {n : Int} {ws : List (List Int)} (hh : hasCl nl a n ws = true) : hasCl nl b n ws = true := by
 have g := (clLeq_iff ha hb).1 h
 unfold hasCl at *
 rw [Bool.and_eq_true, List.all_eq_true, beq_iff_eq] at hh ⊢
 refine ⟨fun j hj => ?_, hh.2.trans g.1⟩
 have hj := List.mem_range.1 hj
 rw [hb.len] at hj
 have h1 := hh.1 j (List.mem_range.2 (by rw [ha.len]; exact hj))
 have va := ha.ws _ (mem_bangI (l := a.2) (i := j) (by rw [ha.len]; exact hj))
 have vb := hb.ws _ (mem_bangI (l := b.2) (i := j) (by rw [hb.len]; exact hj))
 rw [leqX_valid? va, Bool.and_eq_true] at h1
 rw [leqX_valid? vb, Bool.and_eq_true]
 exact ⟨h1.1, (leq_iff va.ok vb.ok).1 (g.2 j hj) _ h1.2⟩
theorem hasCl_norm {nl : Int} {np : Nat} {a : ClD} (ha : OkCl nl np a) (n : Int) (ws : List (List Int)) : hasCl nl (normC a) n ws = hasCl nl a n ws := by
 unfold hasCl
 have e : (normC a).2 = a.2.map normP := rfl
 have e1 : (normC a).1 = a.1 := rfl
 rw [e, e1, List.length_map]
 congr 1
 rw [Bool.eq_iff_iff, List.all_eq_true, List.all_eq_true]
 refine forall_congr' fun j => imp_congr_right fun hj => ?_
 have hj := List.mem_range.1 hj
 have e2 : (a.2.map normP)[j]! = normP a.2[j]! := by rw [getElem!_pos _ j (by rw [List.length_map]; exact hj), getElem!_pos _ j hj, List.getElem_map]
 have va := ha.ws _ (mem_bangI hj)
 rw [e2, leqX_valid? va, leqX_valid? va.normV, <- normP_eq a.2[j]! ws[j]!]
theorem uniqC_mem (l : List ClD) (x : ClD) : x ∈ uniqC l ↔ x ∈ l := by
 unfold uniqC upToC
 constructor
 ·intro h
  obtain ⟨j, hj, rfl⟩ := List.mem_map.1 h
  exact mem_bangI (List.mem_range.1 (List.mem_filter.1 hj).1)
 ·intro h
  have key : ∀ j, j < l.length -> ∃ i, i <= j /\ keepsC l i = true /\ l[i]! = l[j]! := by
   intro j
   induction j with
   | zero => intro hj; exact ⟨0, Nat.le_refl _, rfl, rfl⟩
   | succ j ih =>
    intro hj
    by_cases hk : keepsC l (j + 1) = true
    ·exact ⟨j + 1, Nat.le_refl _, hk, rfl⟩
    ·obtain ⟨i, h1, h2, h3⟩ := ih (by omega)
     unfold keepsC at hk
     simp only [Nat.add_sub_cancel, Bool.or_eq_true, decide_eq_true_eq, not_or, Nat.add_one_ne_zero, not_false_eq_true, true_and, ne_eq, Decidable.not_not] at hk
     exact ⟨i, by omega, h2, by rw [h3, hk]⟩
  obtain ⟨j, hj, rfl⟩ := List.getElem_of_mem h
  obtain ⟨i, h1, h2, h3⟩ := key j hj
  rw [getElem!_pos l j hj] at h3
  rw [<- h3]
  exact List.mem_map.2 ⟨i, List.mem_filter.2 ⟨List.mem_range.2 (by omega), h2⟩, rfl⟩
theorem uniqC_asc {l : List ClD} (h : AscLC l) : (uniqC l).Pairwise fun a b => cmpCl a b < 0 := by
 unfold uniqC upToC
 rw [List.pairwise_map]
 have hr : (List.range l.length).Pairwise (· < ·) := List.pairwise_lt_range
 refine (hr.filter (keepsC l)).imp_of_mem fun {a b} ha hb hab => ?_
 have hbl := List.mem_range.1 (List.mem_filter.1 hb).1
 have hbk := (List.mem_filter.1 hb).2
 have hle : ∀ i j, i < j -> j < l.length -> cmpCl l[i]! l[j]! <= 0 := fun i j hij hj => by
  rw [getElem!_pos l i (by omega), getElem!_pos l j hj]
  exact List.pairwise_iff_getElem.1 h i j (by omega) hj hij
 unfold keepsC at hbk
 have hne : l[b]! ≠ l[b - 1]! := by
  simp only [Bool.or_eq_true, decide_eq_true_eq] at hbk
  exact hbk.resolve_left (by omega)
 have h1 := hle (b - 1) b (by omega) hbl
 have h1' : cmpCl l[b - 1]! l[b]! < 0 := by
  have : cmpCl l[b - 1]! l[b]! ≠ 0 := fun e => hne ((ord_Cl.zero _ _).1 e).symm
  omega
 by_cases e : a = b - 1
 ·rw [e]; exact h1'
 ·have h2 := hle a (b - 1) (by omega) (by omega)
  by_cases e0 : cmpCl l[a]! l[b - 1]! = 0
  ·rw [(ord_Cl.zero _ _).1 e0]; exact h1'
  ·exact ord_Cl.trans _ _ _ (by omega) h1'
def baseCl (l : List ClD) : List ClD := uniqC (ascFC (l.map normC))
def insideF (nl : Int) (u : List ClD) (i : Nat) : Bool := (List.range u.length).any fun k => k != i && clLeq nl u[i]! u[k]!
def maxFC (nl : Int) (u : List ClD) (m : Nat) : List ClD := ((List.range m).filter fun i => !insideF nl u i).map fun i => u[i]!
def maxCl (nl : Int) (l : List ClD) : List ClD := maxFC nl (baseCl l) (baseCl l).length
theorem maxFC_succ (nl : Int) (u : List ClD) (m : Nat) : maxFC nl u (m + 1) = maxFC nl u m ++ (if insideF nl u m = true then [] else [u[m]!]) := by
 unfold maxFC
 rw [List.range_succ, List.filter_append, List.map_append]
 cases h : insideF nl u m <;> simp [h]
theorem maxFC_len (nl : Int) (u : List ClD) (m : Nat) : (maxFC nl u m).length <= m := by
 unfold maxFC
 rw [List.length_map]
 exact Nat.le_trans (List.length_filter_le _ _) (by simp)
theorem base_mem {l : List ClD} {x : ClD} : x ∈ baseCl l ↔ ∃ a ∈ l, x = normC a := by
 unfold baseCl
 rw [uniqC_mem, (asc_permC (l.map normC)).mem_iff, List.mem_map]
 exact ⟨fun ⟨a, h1, h2⟩ => ⟨a, h1, h2.symm⟩, fun ⟨a, h1, h2⟩ => ⟨a, h1, h2.symm⟩⟩
theorem base_asc (l : List ClD) : (baseCl l).Pairwise fun a b => cmpCl a b < 0 := uniqC_asc (asc_ascC _)
theorem upToC_len (l : List ClD) (m : Nat) : (upToC l m).length <= m := by
 unfold upToC
 rw [List.length_map]
 exact Nat.le_trans (List.length_filter_le _ _) (by simp)
theorem base_len (l : List ClD) : (baseCl l).length <= l.length := by
 unfold baseCl uniqC
 have := upToC_len (ascFC (l.map normC)) (ascFC (l.map normC)).length
 have e := (asc_permC (l.map normC)).length_eq
 rw [List.length_map] at e
 omega
theorem base_ne (l : List ClD) {i k : Nat} (hi : i < (baseCl l).length) (hk : k < (baseCl l).length) (h : (baseCl l)[i]! = (baseCl l)[k]!) : i = k := by
 have hp := List.pairwise_iff_getElem.1 (base_asc l)
 rcases Nat.lt_trichotomy i k with h1 | h1 | h1
 ·have := hp i k hi hk h1
  rw [<- getElem!_pos _ i hi, <- getElem!_pos _ k hk, h, cmpCl_self] at this
  omega
 ·exact h1
 ·have := hp k i hk hi h1
  rw [<- getElem!_pos _ i hi, <- getElem!_pos _ k hk, h, cmpCl_self] at this
  omega
structure BaseOk (nl : Int) (np : Nat) (u : List ClD) : Prop where
 ok : ∀ a ∈ u, OkCl nl np a
 red : ∀ a ∈ u, ∀ p ∈ a.2, redP p
theorem base_ok {nl : Int} {np : Nat} {l : List ClD} (h : ∀ a ∈ l, OkCl nl np a) : BaseOk nl np (baseCl l) :=
 ⟨fun a ha => by obtain ⟨b, hb, rfl⟩ := base_mem.1 ha; exact (h b hb).norm, fun a ha => by obtain ⟨b, _, rfl⟩ := base_mem.1 ha; exact normC_red b⟩
theorem maxFC_mem {nl : Int} {u : List ClD} {x : ClD} : x ∈ maxFC nl u u.length ↔ ∃ i, i < u.length /\ insideF nl u i = false /\ x = u[i]! := by
 unfold maxFC
 rw [List.mem_map]
 constructor
 ·rintro ⟨i, hi, rfl⟩
  have := List.mem_filter.1 hi
  exact ⟨i, List.mem_range.1 this.1, by simpa using this.2, rfl⟩
 ·rintro ⟨i, h1, h2, rfl⟩
  exact ⟨i, List.mem_filter.2 ⟨List.mem_range.2 h1, by simp [h2]⟩, rfl⟩
theorem max_above {nl : Int} {np : Nat} {u : List ClD} (hu : BaseOk nl np u) (hd : ∀ i k, i < u.length -> k < u.length -> u[i]! = u[k]! -> i = k) :
  ∀ (n : Nat) (i : Nat), i < u.length -> ((List.range u.length).filter fun k => clLeq nl u[i]! u[k]!).length <= n -> ∃ x ∈ maxFC nl u u.length, clLeq nl u[i]! x = true
 | 0, i, hi, hn => by
  exfalso
  have : i ∈ (List.range u.length).filter fun k => clLeq nl u[i]! u[k]! := List.mem_filter.2 ⟨List.mem_range.2 hi, clLeq_refl (hu.ok _ (mem_bangI hi))⟩
  have := List.length_pos_of_mem this
  omega
 | n + 1, i, hi, hn => by
  by_cases h : insideF nl u i = false
  ·exact ⟨u[i]!, maxFC_mem.2 ⟨i, hi, h, rfl⟩, clLeq_refl (hu.ok _ (mem_bangI hi))⟩
  ·have h : insideF nl u i = true := by simpa using h
   unfold insideF at h
   obtain ⟨k, hk, hkk⟩ := List.any_eq_true.1 h
   have hk := List.mem_range.1 hk
   rw [Bool.and_eq_true, bne_iff_ne] at hkk
   have oi := hu.ok _ (mem_bangI hi)
   have ok := hu.ok _ (mem_bangI hk)
   have hlt : ((List.range u.length).filter fun j => clLeq nl u[k]! u[j]!).length <= n := by
    have hlen : ((List.range u.length).filter fun j => clLeq nl u[k]! u[j]!).length <= (((List.range u.length).filter fun j => clLeq nl u[i]! u[j]!).filter fun j => j != i).length := by
     rw [List.filter_filter, <- List.countP_eq_length_filter, <- List.countP_eq_length_filter]
     refine List.countP_mono_left fun j hj hp => ?_
     have hj := List.mem_range.1 hj
     have oj := hu.ok _ (mem_bangI hj)
     rw [Bool.and_eq_true, bne_iff_ne]
     refine ⟨fun e => ?_, clLeq_trans oi ok oj hkk.2 hp⟩
     subst e
     exact hkk.1 (hd k j hk hi (clLeq_anti ok oi (hu.red _ (mem_bangI hk)) (hu.red _ (mem_bangI hi)) hp hkk.2))
    have : (((List.range u.length).filter fun j => clLeq nl u[i]! u[j]!).filter fun j => j != i).length < ((List.range u.length).filter fun j => clLeq nl u[i]! u[j]!).length := by
     refine List.length_filter_lt_length_iff_exists.2 ⟨i, List.mem_filter.2 ⟨List.mem_range.2 hi, clLeq_refl oi⟩, by simp⟩
    omega
   obtain ⟨x, hx, hle⟩ := max_above hu hd n k hk hlt
   obtain ⟨j, hj, _, rfl⟩ := maxFC_mem.1 hx
   exact ⟨_, hx, clLeq_trans oi ok (hu.ok _ (mem_bangI hj)) hkk.2 hle⟩
theorem max_any {nl : Int} {np : Nat} {l : List ClD} (h : ∀ a ∈ l, OkCl nl np a) (n : Int) (ws : List (List Int)) : ((maxCl nl l).any fun a => hasCl nl a n ws) = l.any fun a => hasCl nl a n ws := by
 have hu := base_ok h
 rw [Bool.eq_iff_iff, List.any_eq_true, List.any_eq_true]
 constructor
 ·rintro ⟨x, hx, hh⟩
  obtain ⟨i, hi, _, rfl⟩ := maxFC_mem.1 hx
  obtain ⟨a, ha, e⟩ := base_mem.1 (mem_bangI hi)
  rw [e, hasCl_norm (h a ha)] at hh
  exact ⟨a, ha, hh⟩
 ·rintro ⟨a, ha, hh⟩
  have hm : normC a ∈ baseCl l := base_mem.2 ⟨a, ha, rfl⟩
  obtain ⟨i, hi, e⟩ := List.getElem_of_mem hm
  rw [<- getElem!_pos _ i hi] at e
  obtain ⟨x, hx, hle⟩ := max_above hu (fun i k hi hk => base_ne l hi hk) _ i hi (Nat.le_refl _)
  obtain ⟨j, hj, _, rfl⟩ := maxFC_mem.1 hx
  refine ⟨_, hx, hasCl_leq (hu.ok _ (mem_bangI hi)) (hu.ok _ (mem_bangI hj)) hle ?_⟩
  rw [e, hasCl_norm (h a ha)]; exact hh
theorem max_mem {nl : Int} {np : Nat} {l : List ClD} (h : ∀ a ∈ l, OkCl nl np a) {x : ClD} (hx : x ∈ maxCl nl l) : OkCl nl np x /\ (∀ p ∈ x.2, redP p) /\ ∃ a ∈ l, x = normC a := by
 obtain ⟨i, hi, _, rfl⟩ := maxFC_mem.1 hx
 have hm := mem_bangI hi
 exact ⟨(base_ok h).ok _ hm, (base_ok h).red _ hm, base_mem.1 hm⟩
theorem max_pair {nl : Int} (l : List ClD) : (maxCl nl l).Pairwise fun a b => cmpCl a b < 0 /\ clLeq nl a b = false /\ clLeq nl b a = false := by
 unfold maxCl maxFC
 rw [List.pairwise_map]
 have hr : (List.range (baseCl l).length).Pairwise (· < ·) := List.pairwise_lt_range
 refine (hr.filter _).imp_of_mem fun {a b} ha hb hab => ?_
 have ha' := List.mem_filter.1 ha
 have hb' := List.mem_filter.1 hb
 have hal := List.mem_range.1 ha'.1
 have hbl := List.mem_range.1 hb'.1
 have na : insideF nl (baseCl l) a = false := by simpa using ha'.2
 have nb : insideF nl (baseCl l) b = false := by simpa using hb'.2
 have hp := List.pairwise_iff_getElem.1 (base_asc l) a b hal hbl hab
 rw [<- getElem!_pos _ a hal, <- getElem!_pos _ b hbl] at hp
 unfold insideF at na nb
 rw [List.any_eq_false] at na nb
 have n1 := na b (List.mem_range.2 hbl)
 have n2 := nb a (List.mem_range.2 hal)
 rw [Bool.not_eq_true, Bool.and_eq_false_iff] at n1 n2
 exact ⟨hp, n1.resolve_left (by rw [bne_iff_ne.2 (show b ≠ a by omega)]; simp), n2.resolve_left (by rw [bne_iff_ne.2 (show a ≠ b by omega)]; simp)⟩
theorem max_leq {nl : Int} {np : Nat} {l : List ClD} (h : ∀ a ∈ l, OkCl nl np a) {i k : Nat} (hi : i < (maxCl nl l).length) (hk : k < (maxCl nl l).length) : clLeq nl (maxCl nl l)[i]! (maxCl nl l)[k]! = decide (i = k) := by
 have hp := List.pairwise_iff_getElem.1 (max_pair (nl := nl) l)
 rcases Nat.lt_trichotomy i k with h1 | h1 | h1
 ·have := hp i k hi hk h1
  rw [getElem!_pos _ i hi, getElem!_pos _ k hk, this.2.1, decide_eq_false (by omega)]
 ·subst h1
  rw [decide_eq_true rfl]
  exact clLeq_refl (max_mem h (mem_bangI hi)).1
 ·have := hp k i hk hi h1
  rw [getElem!_pos _ i hi, getElem!_pos _ k hk, this.2.2, decide_eq_false (by omega)]
theorem max_cmp {nl : Int} (l : List ClD) {i : Nat} (hi : i + 1 < (maxCl nl l).length) : cmpCl (maxCl nl l)[i]! (maxCl nl l)[i + 1]! < 0 := by
 have := List.pairwise_iff_getElem.1 (max_pair (nl := nl) l) i (i + 1) (by omega) hi (by omega)
 rw [getElem!_pos _ i (by omega), getElem!_pos _ (i + 1) hi]
 exact this.1
theorem max_len (nl : Int) (l : List ClD) : (maxCl nl l).length <= l.length := Nat.le_trans (maxFC_len _ _ _) (base_len l)
end Go.AM
namespace Go.AM
open Go Go.Proofs Go.RowKit
set_option maxRecDepth 100000
set_option maxHeartbeats 8000000
theorem Rk_midL (n j : Nat) : Rk 2 n ++ ([List.replicate 2 .any] ++ Rk 2 j) = Rk 2 (n + 1 + j) := by
 unfold Rk
 rw [show [List.replicate 2 AV.any] = List.replicate 1 (List.replicate 2 AV.any) from rfl, List.replicate_append_replicate, List.replicate_append_replicate]
 congr 1; omega
theorem CloudOk.cl {m : MD} {a : ClD} (h : CloudOk m a.1 a.2) : OkCl m.letters.length m.places.length a := ⟨h.len, h.ws⟩
theorem CloudOk.cmp {m : MD} {a : ClD} (h : CloudOk m a.1 a.2) : CmpC a := ⟨fun p hp => (h.ws p hp).lenP, by have := h.few; have := h.len; omega⟩
theorem CloudOk.normO {m : MD} {a : ClD} (h : CloudOk m a.1 a.2) : CloudOk m (normC a).1 (normC a).2 := ⟨h.st, h.cl.norm.len, h.cl.norm.ws, h.few⟩
theorem base_cloud {m : MD} {l : List ClD} (h : ∀ a ∈ l, CloudOk m a.1 a.2) : ∀ a ∈ baseCl l, CloudOk m a.1 a.2 := fun a ha => by
 obtain ⟨b, hb, rfl⟩ := base_mem.1 ha
 exact (h b hb).normO
theorem max_cloud {m : MD} {l : List ClD} (h : ∀ a ∈ l, CloudOk m a.1 a.2) : ∀ a ∈ maxCl m.letters.length l, CloudOk m a.1 a.2 := fun a ha => by
 obtain ⟨b, hb, rfl⟩ := (max_mem (nl := m.letters.length) (fun a ha => (h a ha).cl) ha).2.2
 exact (h b hb).normO
def insP (nl : Int) (u : List ClD) (i k : Nat) : Bool := (List.range k).any fun k => k != i && clLeq nl u[i]! u[k]!
theorem insP_succ (nl : Int) (u : List ClD) (i k : Nat) : insP nl u i (k + 1) = (insP nl u i k || (k != i && clLeq nl u[i]! u[k]!)) := by
 unfold insP
 rw [List.range_succ, List.any_append]; simp
theorem con_lmaximise (m : MD) (l : List ClD) (h0 : 0 < l.length) (hl : l.length <= 12) (ho : ∀ a ∈ l, CloudOk m a.1 a.2) : Con Tryz.prog 49 [vM m, .sl 0 2 (l.map vCP)] [] fun r _ => r = .tup [.sl 0 2 ((maxCl m.letters.length l).map vCP), vi 0] := by
 refine Con.frozX ?_
 refine Con.intro Tryz.func49 rfl Tryz.ntmps49 Tryz.results49 (by kernel_rfl) (by simp) 0 (by simp) ?_
 have hbo := base_cloud ho
 have hbl := base_len l
 have hmx : maxCl m.letters.length l = maxFC m.letters.length (baseCl l) (baseCl l).length := rfl
 simp only [go_sem, cM, vss]
 refine LoopK.intro (fun i : Nat => ⟨70, [(2, .pb 0 0), (6, .sl 1728 2 (((l.take i).map normC).map vCP)), (7, .nil), (15, .sl 0 2 (l.map vCP)), (16, vi l.length), (17, vi i)], cM m :: Rk 2 i⟩)
  (fun i => l.length - i) (fun i => i <= l.length) 0 (Nat.zero_le _) ?_ ?_
 ·simp only [go_sem, cM, vss, List.take_zero, List.map_nil, Rk, List.replicate_zero]
  all_goals trace_state
 rintro i hi
 have hB := Rk_len 2 i
 have n0 := fun L : List (List AV) => app_at0 (L := L) hB
 have s0 := fun (L : List (List AV)) z => app_set0 (L := L) (z := z) hB
 by_cases h : i < l.length
 case pos =>
  have hg := getCl h
  have hwi : IntKind.i64.wrap (i + 1) = i + 1 := wrap_in (by omega) (by omega)
  have hn := con_lnormal m l[i]!.1 l[i]!.2 (ho _ (memCl h))
  have e : ((l.take (i + 1)).map normC).map vCP = ((l.take i).map normC).map vCP ++ [vCP (normC l[i]!)] := by
   rw [List.take_succ_eq_append_getElem h, List.map_append, List.map_append, <- getElem!_pos l i h]; rfl
  have e2 : vCP (normC l[i]!) = .ag [vi l[i]!.1, .sl 0 1 ((l[i]!.2.map normP).map vPr)] := rfl
  simp only [vM, cM, vss, vCl] at hn
  simp only [go_sem, h, hg, hB, n0, s0, cM, vss, List.length_map, List.cons_append, List.nil_append, List.length_cons]
  refine CallU.free hn (by simp only [go_sem]) (by simp only [go_sem]) ?_
  rintro q bx rfl
  simp only [go_sem, hwi]
  refine ⟨by simp only [roomFor, List.length_map, List.length_take]; omega, ?_⟩
  refine roundK.intro (i + 1) (by omega) (by omega) ?_
  simp only [go_sem, cM, vss, Rk_succ, e, e2]
  exact leB_RkA (x := [[_, _]]) (y := [List.replicate 2 .any]) ⟨⟨leV_any _, leV_any _, trivial⟩, trivial⟩
 obtain rfl : i = l.length := by omega
 have hz : (l.take l.length).map normC = l.map normC := by rw [List.take_length]
 rw [hz]
 have hZl : (l.map normC).length = l.length := by rw [List.length_map]
 have hZo : ∀ a ∈ l.map normC, CloudOk m a.1 a.2 := fun a ha => by
  obtain ⟨b, hb, rfl⟩ := List.mem_map.1 ha
  exact (ho b hb).normO
 have hbe : uniqC (ascFC (l.map normC)) = baseCl l := rfl
 generalize l.map normC = Z at hZl hZo hbe
 have hAl : (ascFC Z).length = l.length := by rw [(asc_permC Z).length_eq, hZl]
 have hAo : ∀ a ∈ ascFC Z, CloudOk m a.1 a.2 := fun a ha => hZo a ((asc_permC Z).mem_iff.1 ha)
 have cs := conw_sortC Z (by omega) (by omega) (fun a ha => (hZo a ha).cmp)
 have cc := conc_lcompactF (ascFC Z) (by omega) (fun a ha => (hAo a ha).cmp)
 rw [hbe] at cc
 have hg1 : ∀ ts L, mapB (giveLeaf ts L) (Rk 2 l.length) = Rk 2 l.length := fun ts L => mapB_Rk rfl 2 _
 have hg2 : ∀ ts, mapB (killS ts) (Rk 2 l.length) = Rk 2 l.length := fun ts => mapB_Rk rfl 2 _
 simp only [go_sem, h, hB, n0, s0, cM, vss, List.length_map]
 refine CallU.back cs (by simp only [go_sem]) (by simp only [go_sem]) ?_
 rintro r ys ⟨rfl, rfl⟩
 simp only [go_sem, hg1]
 refine ⟨by simp; omega, ?_⟩
 refine CallU.lend cc (by simp only [go_sem]) (by simp only [go_sem]) ?_
 rintro r rfl
 simp only [go_sem, hg2]
 rw [hmx]
 generalize baseCl l = u at hbo hbl
 refine LoopK.intro (fun i : Nat => ⟨70, [(2, .pb 0 0), (6, .sl 2050 2 (u.map vCP)), (7, .sl 4160 2 ((maxFC m.letters.length u i).map vCP)), (32, .sl 2050 2 (u.map vCP)), (33, vi u.length), (34, vi i)], cM m :: Rk 2 (l.length + i * (1 + u.length))⟩)
  (fun i => u.length - i) (fun i => i <= u.length) 0 (Nat.zero_le _) ?_ ?_
 ·have e0 : maxFC m.letters.length u 0 = [] := rfl
  simp only [go_sem, cM, vss, Nat.zero_mul, Nat.add_zero, e0, List.map_nil]
 rintro i hi
 have hml := maxFC_len m.letters.length u i
 obtain ⟨n, hn⟩ : ∃ n, n = l.length + i * (1 + u.length) := ⟨_, rfl⟩
 rw [<- hn]
 by_cases h6 : i < u.length
 case neg =>
  obtain rfl : i = u.length := by omega
  have h64 : ¬ 64 < (maxFC m.letters.length u u.length).length := by omega
  simp only [go_sem, h6, h64, cM, vss, List.length_map]
  exact leV_refl _
 have hgi := getCl h6
 have hoi := hbo _ (memCl h6)
 have hB1 := Rk_len 2 n
 have n1 := fun L : List (List AV) => app_at0 (L := L) hB1
 have s1 := fun (L : List (List AV)) z => app_set0 (L := L) (z := z) hB1
 have hwi : IntKind.i64.wrap (i + 1) = i + 1 := wrap_in (by omega) (by omega)
 simp only [go_sem, h6, hgi, hB1, n1, s1, cM, vss, List.length_map]
 refine LoopK.intro (fun k : Nat => ⟨70, [(2, .pb 0 0), (6, .sl 2050 2 (u.map vCP)), (7, .sl 4160 2 ((maxFC m.letters.length u i).map vCP)), (10, vi i), (11, .pb (n + 1) 0), (12, .sc (.bool (insP m.letters.length u i k))), (32, .sl 2050 2 (u.map vCP)), (33, vi u.length), (34, vi i), (39, .sl 2050 2 (u.map vCP)), (40, vi u.length), (41, vi k)], cM m :: (Rk 2 n ++ [[vi u[i]!.1, .sl 0 1 (u[i]!.2.map vPr)]] ++ Rk 2 k)⟩)
  (fun k => u.length - k) (fun k => k <= u.length) 0 (Nat.zero_le _) ?_ ?_
 ·have e0 : Rk 2 0 = [] := rfl
  have e1 : insP m.letters.length u i 0 = false := rfl
  simp only [go_sem, cM, vss, e0, e1, List.append_nil]
 rintro k hk
 have hB2 : (Rk 2 n ++ [[AV.sc (.int .i64 u[i]!.1), AV.sl 0 1 (u[i]!.2.map vPr)]] ++ Rk 2 k).length = n + 1 + k := by simp only [List.length_append, Rk_len, List.length_cons, List.length_nil]
 have n2 := fun X : List (List AV) => app_at0 (L := X) hB2
 have s2 := fun (X : List (List AV)) z => app_set0 (L := X) (z := z) hB2
 have hget : ∀ X, (Rk 2 n ++ [[AV.sc (.int .i64 u[i]!.1), AV.sl 0 1 (u[i]!.2.map vPr)]] ++ Rk 2 k ++ X)[n]? = some [AV.sc (.int .i64 u[i]!.1), AV.sl 0 1 (u[i]!.2.map vPr)] := fun X => by
  rw [List.append_assoc, List.append_assoc, app_at0 hB1]; rfl
 have hget0 : (Rk 2 n ++ [[AV.sc (.int .i64 u[i]!.1), AV.sl 0 1 (u[i]!.2.map vPr)]] ++ Rk 2 k)[n]? = some [AV.sc (.int .i64 u[i]!.1), AV.sl 0 1 (u[i]!.2.map vPr)] := by
  rw [List.append_assoc, app_at0 hB1]; rfl
 by_cases h7 : k < u.length
 case neg =>
  obtain rfl : k = u.length := by omega
  have ei : insP m.letters.length u i u.length = insideF m.letters.length u i := rfl
  have hsucc := maxFC_succ m.letters.length u i
  have hnn : l.length + (i + 1) * (1 + u.length) = n + 1 + u.length := by rw [hn, Nat.succ_mul]; omega
  rw [ei]
  cases hin : insideF m.letters.length u i with
  | true =>
   rw [hin, if_pos rfl, List.append_nil] at hsucc
   simp only [go_sem, h7, hwi, cM, vss, List.length_map]
   refine roundK.intro (i + 1) (by omega) (by omega) ?_
   simp only [go_sem, cM, vss, hsucc, hnn, <- Rk_midL]
   rw [List.append_assoc]
   exact leB_RkA (x := [_, _] :: Rk 2 u.length) (y := List.replicate 2 .any :: Rk 2 u.length) ⟨⟨leV_any _, leV_any _, trivial⟩, leB_self _⟩
  | false =>
   rw [hin, if_neg (by simp)] at hsucc
   have e : (maxFC m.letters.length u (i + 1)).map vCP = (maxFC m.letters.length u i).map vCP ++ [.ag [vi u[i]!.1, .sl 0 1 (u[i]!.2.map vPr)]] := by rw [hsucc, List.map_append]; rfl
   simp only [go_sem, h7, hwi, hget, hget0, cM, vss, List.length_map]
   refine ⟨by simp only [roomFor]; omega, ?_⟩
   refine roundK.intro (i + 1) (by omega) (by omega) ?_
   simp only [go_sem, cM, vss, e, hnn, <- Rk_midL]
   rw [List.append_assoc]
   exact leB_RkA (x := [_, _] :: Rk 2 u.length) (y := List.replicate 2 .any :: Rk 2 u.length) ⟨⟨leV_any _, leV_any _, trivial⟩, leB_self _⟩
 have hgk := getCl h7
 have hok := hbo _ (memCl h7)
 have hwk : IntKind.i64.wrap (k + 1) = k + 1 := wrap_in (by omega) (by omega)
 have hsk := insP_succ m.letters.length u i k
 have cl := con_lleq m u[i]! u[k]! hoi hok
 simp only [vM, cM, vss, vCl] at cl
 simp only [go_sem, h7, hgk, hB2, n2, s2, hget, hget0, cM, vss, List.length_map]
 cases hip : insP m.letters.length u i k with
 | true =>
  rw [hip, Bool.true_or] at hsk
  simp only [go_sem, hwk]
  refine roundK.intro (k + 1) (by omega) (by omega) ?_
  simp only [go_sem, cM, vss, hsk, Rk_succ]
  rw [<- List.append_assoc]
  exact leB_app (leB_self _) ⟨⟨leV_any _, leV_any _, trivial⟩, trivial⟩
 | false =>
  rw [hip, Bool.false_or] at hsk
  by_cases hki : k = i
  ·have hb : (((k : Nat) : Int) != (i : Int)) = false := by rw [hki]; simp
   have hb2 : (k != i) = false := by rw [hki]; simp
   rw [hb2, Bool.false_and] at hsk
   simp only [go_sem, hb, hwk]
   refine roundK.intro (k + 1) (by omega) (by omega) ?_
   simp only [go_sem, cM, vss, hsk, Rk_succ]
   rw [<- List.append_assoc]
   exact leB_app (leB_self _) ⟨⟨leV_any _, leV_any _, trivial⟩, trivial⟩
  ·have hb : (((k : Nat) : Int) != (i : Int)) = true := by rw [bne_iff_ne]; omega
   have hb2 : (k != i) = true := bne_iff_ne.2 hki
   rw [hb2, Bool.true_and] at hsk
   simp only [go_sem, hb, hget, hget0, n2, cM, vss]
   refine CallU.free cl (by simp only [go_sem]) (by simp only [go_sem]) ?_
   rintro r bx rfl
   simp only [go_sem, hwk]
   refine roundK.intro (k + 1) (by omega) (by omega) ?_
   simp only [go_sem, cM, vss, hsk, Rk_succ]
   rw [<- List.append_assoc]
   exact leB_app (leB_self _) ⟨⟨leV_any _, leV_any _, trivial⟩, trivial⟩
def postF (r : RD) (s : Int) (W : List (List TmD)) : Option (Int × List (List TmD)) :=
 if r.src ≠ s then none
 else if r.act = 1 then some (r.dst, (W.map normP).set r.channel.toNat (normP (snocP W[r.channel.toNat]! r.letter)))
 else if r.act = 2 then (match behP r.letter W[r.channel.toNat]! with
  | none => none
  | some q => some (r.dst, (W.map normP).set r.channel.toNat (normP q)))
 else some (r.dst, W.map normP)
def postA : Option (Int × List (List TmD)) -> AV
 | none => .tup [vCl 0 [], vb false, vi 0]
 | some x => .tup [vCl x.1 x.2, vb true, vi 0]
theorem none_le : leV (AV.freeze (fun _ => true) (.tup [.ag [vi 0, .nil], vb false, vi 0])) (.tup [vCl 0 [], vb false, vi 0]) := leV_tup ⟨leV_ag ⟨leV_refl _, leV_nil _ _, trivial⟩, leV_refl _, leV_refl _, trivial⟩
def sndTree : Tr := .front 12 (.alt (.one 13 (.alt (.one 14 (.one 15 (.one 16 .done))) (.one 15 (.one 14 (.one 16 .done))))) (.one 14 (.one 13 (.one 15 (.one 16 .done)))))
def rcvTree : Tr := .front 12 (.alt (.one 13 (.alt (.one 14 (.alt (.one 15 (.one 16 (.one 17 (.one 18 .done)))) (.one 16 (.alt (.one 15 (.one 17 (.one 18 .done))) (.one 17 (.one 15 (.one 18 .done))))))) (.alt (.one 15 (.alt (.one 14 (.one 16 (.one 17 (.one 18 .done)))) (.one 16 (.one 14 (.one 17 (.one 18 .done)))))) (.one 16 (.alt (.one 14 (.alt (.one 15 (.one 17 (.one 18 .done))) (.one 17 (.one 15 (.one 18 .done))))) (.one 15 (.one 14 (.one 17 (.one 18 .done))))))))) (.alt (.one 14 (.alt (.one 13 (.alt (.one 15 (.one 16 (.one 17 (.one 18 .done)))) (.one 16 (.alt (.one 15 (.one 17 (.one 18 .done))) (.one 17 (.one 15 (.one 18 .done))))))) (.one 15 (.one 13 (.one 16 (.one 17 (.one 18 .done))))))) (.one 15 (.alt (.one 13 (.alt (.one 14 (.one 16 (.one 17 (.one 18 .done)))) (.one 16 (.one 14 (.one 17 (.one 18 .done)))))) (.one 14 (.one 13 (.one 16 (.one 17 (.one 18 .done)))))))))
theorem con_lpost (m : MD) (i : Nat) (s : Int) (W : List (List TmD)) (h : CloudOk m s W) (hi : i < m.rules.length) (hch : 0 <= m.rules[i]!.channel /\ m.rules[i]!.channel < m.places.length) (hlt : 0 <= m.rules[i]!.letter /\ m.rules[i]!.letter < m.letters.length)
  (hw : ∀ p ∈ W, p.length <= 23) : Con Tryz.prog 45 [vM m, vi i, vCl s W] [] fun r _ => r = postA (postF m.rules[i]! s W) := by
 refine Con.frozX ?_
 refine Con.intro Tryz.func45 rfl Tryz.ntmps45 Tryz.results45 (by kernel_rfl) (by simp) 0 (by simp) ?_
 have c1 := con_lcheck m s W h
 have c2 := con_lnormal m s W h
 simp only [vM, cM, vss, vCl] at c1 c2
 have h1 : ¬ (m.rules.length : Int) <= i := by omega
 have h2 : ¬ (i : Int) < 0 := by omega
 have hg := getRule hi
 obtain ⟨c, ec⟩ : ∃ c : Nat, m.rules[i]!.channel = c := ⟨_, (Int.toNat_of_nonneg hch.1).symm⟩
 have hcl : c < W.length := by have := h.len; omega
 have hv := h.ws _ (mem_bangI hcl)
 have hgp := getPr hcl
 have hcn : c < (W.map normP).length := by rw [List.length_map]; exact hcl
 generalize m.rules[i]! = r at hg ec hlt hch
 have e1 : vRule r = .ag [vStr r.name, vi r.src, vi r.dst, vs 0 r.need, vs 0 r.give, vs 0 r.move, vi r.channel, vi r.act, vi r.letter, vs 0 r.path, vs 0 r.next, .sl 0 3 (r.takes.map vTake), vs 0 r.makes, vi r.second] := rfl
 rw [e1, ec] at hg
 unfold postF
 rw [ec, Int.toNat_natCast]
 simp only [go_sem, cM, vss, vCl]
 refine CallU.free c1 (by simp only [go_sem]) (by simp only [go_sem]) ?_
 rintro q bx rfl
 simp only [go_sem, cM, vss, h1, h2, hi, hg, List.length_map]
 by_cases hs : r.src = s
 case neg =>
  have hb : (r.src != s) = true := bne_iff_ne.2 hs
  rw [if_pos hs]
  simp only [go_sem, hb]
  exact none_le
 have hb : (r.src != s) = false := by rw [hs]; simp
 rw [if_neg (by simpa using hs)]
 simp only [go_sem, hb, cM, vss]
 refine CallU.free c2 (by simp only [go_sem]) (by simp only [go_sem]) ?_
 rintro q bx rfl
 simp only [go_sem, cM, vss]
 have hL : letX m.letters.length W[c]! r.letter = 0 := by
  unfold letX
  rw [check_zero.2 hv, if_neg (by simp), if_neg (by omega)]
 by_cases ha1 : r.act = 1
 ·have hab : (r.act == 1) = true := beq_iff_eq.2 ha1
  have ca := con_xAppend m.letters.length W[c]! r.letter hv.lenP
  have hsl : (snocP W[c]! r.letter).length <= 24 := by unfold snocP; rw [List.length_append]; have := hw _ (mem_bangI hcl); simpa using this
  have hmod := mod_Pr (D := W.map normP) (q := c) (x := normP (snocP W[c]! r.letter)) hcn
  rw [List.map_map] at hmod
  unfold appX at ca
  rw [hL, if_neg (by simp), if_neg (by have := normP_len (snocP W[c]! r.letter); omega)] at ca
  rw [if_pos ha1]
  simp only [vPr] at ca hmod
  simp only [go_sem, hab, cM, vss, List.length_map]
  refine DrawK.effs0 0 [] [] 12 sndTree none [vi m.kind, .sl 0 1 (m.states.map vStr), .sl 0 1 (m.places.map vStr), .sl 0 1 (m.letters.map vStr), .sl 0 1 (m.ranks.map vi), vi m.levels, vi m.age, .sl 0 14 (m.rules.map vRule), vi m.start.n, .sl 0 2 (m.start.kids.map vV)] mixed (by kernel_rfl) (by kernel_rfl) (by simp only [go_sem]) (by simp only [go_sem]) ?_
  unfold sndTree
  simp only [go_sem, cM, vss, hcl, hgp, List.length_map]
  refine CallY.mk ca (by simp only [go_sem]) (by simp only [go_sem]) (.inl (by simp only [go_sem])) ?_
  simp only [go_sem, cM, vss, hcl, hcn, hmod, List.length_map]
  repeat' (first | exact leV_refl _ | with_reducible apply andK_mk | simp only [go_sem, cM, vss, hcl, hcn, hmod, List.length_map])
 have hab1 : (r.act == 1) = false := beq_eq_false_iff_ne.2 ha1
 rw [if_neg ha1]
 by_cases ha2 : r.act = 2
 ·have hab : (r.act == 2) = true := beq_iff_eq.2 ha2
  have cb := con_xBehind m.letters.length W[c]! r.letter hv.lenP
  unfold behX at cb
  rw [hL, if_neg (by simp)] at cb
  rw [if_pos ha2]
  cases hbp : behP r.letter W[c]! with
  | none =>
   rw [hbp] at cb
   simp only [vPr] at cb
   simp only [go_sem, hab1, hab, cM, vss, List.length_map]
   refine DrawK.effs0 0 [] [] 12 rcvTree none [vi m.kind, .sl 0 1 (m.states.map vStr), .sl 0 1 (m.places.map vStr), .sl 0 1 (m.letters.map vStr), .sl 0 1 (m.ranks.map vi), vi m.levels, vi m.age, .sl 0 14 (m.rules.map vRule), vi m.start.n, .sl 0 2 (m.start.kids.map vV)] mixed (by kernel_rfl) (by kernel_rfl) (by simp only [go_sem]) (by simp only [go_sem]) ?_
   unfold rcvTree
   simp only [go_sem, cM, vss, hcl, hgp, List.length_map]
   refine CallY.mk cb (by simp only [go_sem]) (by simp only [go_sem]) (.inl (by simp only [go_sem])) ?_
   simp only [go_sem, cM, vss]
   repeat' (first | exact none_le | with_reducible apply andK_mk | simp only [go_sem, cM, vss])
  | some q =>
   rw [hbp] at cb
   have hmod := mod_Pr (D := W.map normP) (q := c) (x := normP q) hcn
   rw [List.map_map] at hmod
   simp only [vPr] at cb hmod
   simp only [go_sem, hab1, hab, cM, vss, List.length_map]
   refine DrawK.effs0 0 [] [] 12 rcvTree none [vi m.kind, .sl 0 1 (m.states.map vStr), .sl 0 1 (m.places.map vStr), .sl 0 1 (m.letters.map vStr), .sl 0 1 (m.ranks.map vi), vi m.levels, vi m.age, .sl 0 14 (m.rules.map vRule), vi m.start.n, .sl 0 2 (m.start.kids.map vV)] mixed (by kernel_rfl) (by kernel_rfl) (by simp only [go_sem]) (by simp only [go_sem]) ?_
   unfold rcvTree
   simp only [go_sem, cM, vss, hcl, hgp, List.length_map]
   refine CallY.mk cb (by simp only [go_sem]) (by simp only [go_sem]) (.inl (by simp only [go_sem])) ?_
   simp only [go_sem, cM, vss, hcl, hcn, hmod, List.length_map]
   repeat' (first | exact leV_refl _ | with_reducible apply andK_mk | simp only [go_sem, cM, vss, hcl, hcn, hmod, List.length_map])
 have hab : (r.act == 2) = false := beq_eq_false_iff_ne.2 ha2
 rw [if_neg ha2]
 simp only [go_sem, hab1, hab, cM, vss]
 rw [<- List.map_map]
 exact leV_refl _
theorem ofW_snoc (w : List Int) (x : Int) : ofW (w ++ [x]) = ofW w ++ [⟨false, [x]⟩] := by unfold ofW; rw [List.map_append]; rfl
theorem ofW_len (w : List Int) : (ofW w).length = w.length := by unfold ofW; rw [List.length_map]
theorem ofW_valid {w : List Int} {nl : Nat} (h1 : 1 <= nl /\ nl <= 6) (hl : w.length <= 24) (hx : ∀ x ∈ w, 0 <= x /\ x < nl) : ValidP nl (ofW w) := by
 refine ⟨by omega, by rw [ofW_len]; exact hl, ofW_ok w, fun t ht x hxx => ?_, fun t ht => ?_⟩
 ·obtain ⟨y, hy, rfl⟩ := List.mem_map.1 ht
  rw [List.mem_singleton.1 hxx]; exact hx y hy
 ·obtain ⟨y, hy, rfl⟩ := List.mem_map.1 ht
  simp
def beginC (ws : List (List Int)) : ClD := (0, (ws.map ofW).map normP)
theorem con_lBegin (m : MD) (ws : List (List Int)) (hL : Con Tryz.prog 54 [vM m] [] fun r _ => r = vi 0) (hst : m.start = chanV 0 ws) (hl : ws.length = m.places.length) (hs : 1 <= m.states.length) (hf : m.places.length <= 1000 /\ 1 <= m.letters.length /\ m.letters.length <= 6)
  (hw : ∀ w ∈ ws, w.length <= 24 /\ ∀ x ∈ w, 0 <= x /\ x < m.letters.length) : Con Tryz.prog 35 [vM m] [] fun r _ => r = .tup [vCP (beginC ws), vi 0] := by
 refine Con.frozX ?_
 have hwo := fun i (hi : i < ws.length) => con_lwordOf 0 ws i hi (by omega) (by have := (hw _ (mem_bang hi)).1; omega)
 have hok : CloudOk m 0 (ws.map ofW) := ⟨by omega, by rw [List.length_map]; exact hl, fun p hp => by
  obtain ⟨w, hw', rfl⟩ := List.mem_map.1 hp
  exact ofW_valid (by omega) (hw w hw').1 (hw w hw').2, by omega⟩
 have c2 := con_lnormal m 0 (ws.map ofW) hok
 have hkl : ((chanV 0 ws).kids).length = ws.length + 1 := by show (CV.mk 0 [] :: ws.map wordV).length = _; simp
 have hg0 : ((chanV 0 ws).kids.map vV)[0]? = some (.ag [vi 0, .sl 0 2 []]) := by
  rw [chan_kids]
  show some (vV (.mk 0 [])) = _
  rw [vV_eq]; rfl
 have hpos : 0 < ((chanV 0 ws).kids).length := by omega
 rw [List.getElem?_map] at hg0
 rw [vV_eq] at hwo
 simp only [vM, cM, vss, vCl] at hL c2
 rw [hst] at hL c2
 refine Con.intro Tryz.func35 rfl Tryz.ntmps35 Tryz.results35 (by kernel_rfl) (by simp) 0 (by simp) ?_
 unfold vM cM
 rw [hst]
 generalize (chanV 0 ws).kids = K at hwo hkl hg0 hpos hL c2
 generalize (chanV 0 ws).n = z at hwo hL c2
 simp only [go_sem, cM, vss]
 refine CallU.free hL (by simp only [go_sem]) (by simp only [go_sem]) ?_
 rintro q bx rfl
 simp only [go_sem, hpos, hg0, List.length_map]
 refine LoopK.intro (fun i : Nat => ⟨55, [(1, .pb 0 0), (2, .pb 1 0), (5, .pb 2 0), (25, vi m.places.length), (26, vi i)], [[vi m.kind, .sl 0 1 (m.states.map vStr), .sl 0 1 (m.places.map vStr), .sl 0 1 (m.letters.map vStr), vs 0 m.ranks, vi m.levels, vi m.age, .sl 0 14 (m.rules.map vRule), vi z, .sl 0 2 (K.map vV)], [.any, .any], [vi 0, .sl 3200 1 (((ws.take i).map ofW).map vPr)]]⟩)
  (fun i => m.places.length - i) (fun i => i <= m.places.length) 0 (Nat.zero_le _) ?_ ?_
 ·simp only [go_sem, List.take_zero, List.map_nil]
  try exact ⟨leC_self _, ⟨leV_any _, leV_any _, trivial⟩, ⟨leV_refl _, leV_nil _ _, trivial⟩, trivial⟩
 rintro i hi
 by_cases h : i < m.places.length
 case neg =>
  have e : ws.take i = ws := List.take_of_length_le (by omega)
  have e2 : (beginC ws).2 = (ws.map ofW).map normP := rfl
  simp only [go_sem, h, e]
  simp only [List.map_map] at c2
  refine CallU.freeze c2 (by simp only [go_sem]) (by simp only [go_sem]) ?_
  rintro q bx rfl
  simp only [go_sem]
  have e3 : vCP (beginC ws) = .ag [vi 0, .sl 0 1 (List.map (vPr ∘ normP ∘ ofW) ws)] := by
   show AV.ag [vi 0, .sl 0 1 (((ws.map ofW).map normP).map vPr)] = _
   rw [List.map_map, List.map_map]; rfl
  rw [e3]
  exact leV_refl _
 have hiw : i < ws.length := by omega
 have hwi : IntKind.i64.wrap (i + 1) = i + 1 := wrap_in (by omega) (by omega)
 have hc := hwo i hiw
 have hwl := (hw _ (mem_bang hiw)).1
 have e : ((ws.take (i + 1)).map ofW).map vPr = ((ws.take i).map ofW).map vPr ++ [vPr (ofW ws[i]!)] := by
  rw [List.take_succ_eq_append_getElem hiw, List.map_append, List.map_append, <- getElem!_pos ws i hiw]; rfl
 generalize ws[i]! = w at hc hwl e
 simp only [go_sem, h]
 refine CallU.free hc (by simp only [go_sem]) (by simp only [go_sem]) ?_
 rintro q bx rfl
 simp only [go_sem, List.length_map]
 refine LoopK.intro (fun j : Nat => ⟨55, [(1, .pb 0 0), (2, .pb 1 0), (5, .pb 2 0), (25, vi m.places.length), (26, vi i), (6, vi i), (7, .sl 2816 2 ((ofW (w.take j)).map vTm)), (32, vs 0 w), (33, vi w.length), (34, vi j)], [[vi m.kind, .sl 0 1 (m.states.map vStr), .sl 0 1 (m.places.map vStr), .sl 0 1 (m.letters.map vStr), vs 0 m.ranks, vi m.levels, vi m.age, .sl 0 14 (m.rules.map vRule), vi z, .sl 0 2 (K.map vV)], [.any, .any], [vi 0, .sl 3200 1 (((ws.take i).map ofW).map vPr)]]⟩)
  (fun j => w.length - j) (fun j => j <= w.length) 0 (Nat.zero_le _) ?_ ?_
 ·simp only [go_sem, List.take_zero, show ofW [] = [] from rfl, List.map_nil]
  try exact leB_self _
 rintro j hj
 by_cases h2 : j < w.length
 case neg =>
  have e2 : w.take j = w := List.take_of_length_le (by omega)
  have hll : ((ws.take i).map ofW).length <= 1000 := by rw [List.length_map, List.length_take]; omega
  simp only [go_sem, h2, e2, hwi]
  refine ⟨by simp only [roomFor, List.length_map, List.length_take]; omega, ?_⟩
  refine roundK.intro (i + 1) (by omega) (by omega) ?_
  simp only [List.map_map] at e
  simp only [go_sem, e, vPr]
  try exact leB_self _
 have hg := getv h2
 have hwj : IntKind.i64.wrap (j + 1) = j + 1 := wrap_in (by omega) (by omega)
 have e3 : (ofW (w.take (j + 1))).map vTm = (ofW (w.take j)).map vTm ++ [vTm ⟨false, [w[j]!]⟩] := by
  rw [List.take_succ_eq_append_getElem h2, ofW_snoc, List.map_append, <- getElem!_pos w j h2]; rfl
 have hol : (ofW (w.take j)).length <= 24 := by rw [ofW_len, List.length_take]; omega
 simp only [go_sem, h2, hg, hwj]
 refine ⟨by simp only [roomFor]; omega, ?_⟩
 refine roundK.intro (j + 1) (by omega) (by omega) ?_
 simp only [go_sem, e3]
end Go.AM
namespace Go.AM
theorem mem_app_of : ∀ (n : Nat) (p : List TmD) (u : List Int), p.length + u.length <= n -> ∀ (r : List TmD) (v : List Int), memP p u = true -> memP r v = true -> memP (p ++ r) (u ++ v) = true
 | _, [], [], _, r, v, _, h => h
 | _, [], x :: u, _, r, v, h, _ => by rw [memP_none] at h; cases h
 | 0, t :: p, u, hn, _, _, _, _ => by simp only [List.length_cons] at hn; omega
 | n + 1, t :: p, [], hn, r, v, _, h => by
  simp only [List.length_cons] at hn
  exact memP_put t (mem_app_of n p [] (by simp only [List.length_nil] at hn ⊢; omega) r v (memP_nil p) h)
 | n + 1, t :: p, x :: u, hn, r, v, h1, h => by
  simp only [List.length_cons] at hn
  rw [memP_cons] at h1
  rw [List.cons_append, List.cons_append, memP_cons]
  by_cases hx : x ∈ t.ls
  ·rw [if_pos hx] at h1 ⊢
   cases hs : t.star with
   | true =>
    rw [hs, if_pos rfl] at h1
    rw [if_pos rfl]
    exact mem_app_of n (t :: p) u (by simp only [List.length_cons]; omega) r v h1 h
   | false =>
    rw [hs, if_neg (by simp)] at h1
    rw [if_neg (by simp)]
    exact mem_app_of n p u (by omega) r v h1 h
  ·rw [if_neg hx] at h1 ⊢
   exact mem_app_of n p (x :: u) (by simp only [List.length_cons]; omega) r v h1 h
theorem mem_app_inv : ∀ (n : Nat) (p : List TmD) (w : List Int), p.length + w.length <= n -> ∀ (r : List TmD), memP (p ++ r) w = true -> ∃ u v, w = u ++ v /\ memP p u = true /\ memP r v = true
 | _, [], w, _, r, h => ⟨[], w, rfl, memP_nil _, h⟩
 | _, t :: p, [], _, r, _ => ⟨[], [], rfl, memP_nil _, memP_nil _⟩
 | 0, t :: p, x :: w, hn, _, _ => by simp at hn
 | n + 1, t :: p, x :: w, hn, r, h => by
  simp only [List.length_cons] at hn
  rw [List.cons_append, memP_cons] at h
  by_cases hx : x ∈ t.ls
  ·rw [if_pos hx] at h
   cases hs : t.star with
   | true =>
    rw [hs, if_pos rfl] at h
    obtain ⟨u, v, e, h1, h2⟩ := mem_app_inv n (t :: p) w (by simp only [List.length_cons]; omega) r h
    exact ⟨x :: u, v, by rw [e]; rfl, by rw [memP_in hx hs]; exact h1, h2⟩
   | false =>
    rw [hs, if_neg (by simp)] at h
    obtain ⟨u, v, e, h1, h2⟩ := mem_app_inv n p w (by omega) r h
    exact ⟨x :: u, v, by rw [e]; rfl, by rw [memP_one hx hs]; exact h1, h2⟩
  ·rw [if_neg hx] at h
   obtain ⟨u, v, e, h1, h2⟩ := mem_app_inv n p (x :: w) (by simp only [List.length_cons]; omega) r h
   exact ⟨u, v, e, memP_put t h1, h2⟩
theorem mem_app {p r : List TmD} {w : List Int} : memP (p ++ r) w = true ↔ ∃ u v, w = u ++ v /\ memP p u = true /\ memP r v = true :=
 ⟨mem_app_inv _ p w (Nat.le_refl _) r, fun ⟨u, v, e, h1, h2⟩ => by rw [e]; exact mem_app_of _ p u (Nat.le_refl _) r v h1 h2⟩
theorem EqP.appR {p q : List TmD} (h : EqP p q) (r : List TmD) : EqP (p ++ r) (q ++ r) := fun w => by
 rw [Bool.eq_iff_iff, mem_app, mem_app]
 constructor
 ·rintro ⟨u, v, e, h1, h2⟩; exact ⟨u, v, e, by rw [<- h u]; exact h1, h2⟩
 ·rintro ⟨u, v, e, h1, h2⟩; exact ⟨u, v, e, by rw [h u]; exact h1, h2⟩
theorem mem_left {p : List TmD} (r : List TmD) {w : List Int} (h : memP p w = true) : memP (p ++ r) w = true := mem_app.2 ⟨w, [], by simp, h, memP_nil r⟩
def starT (L : List Int) : TmD := ⟨true, L⟩
def starP (p : List TmD) (L : List Int) : List TmD := if L = [] then normP p else normP (normP p ++ [starT L])
theorem starT_ok {L : List Int} (h : ascI L = true) : (starT L).Ok := ⟨fun h => by simp [starT] at h, h⟩
theorem okP_app {p q : List TmD} (hp : OkP p) (hq : OkP q) : OkP (p ++ q) := fun t ht => (List.mem_append.1 ht).elim (hp t) (hq t)
theorem okP_star {p : List TmD} {L : List Int} (hp : OkP p) (h : ascI L = true) : OkP (p ++ [starT L]) := okP_app hp fun t ht => by rw [List.mem_singleton.1 ht]; exact starT_ok h
theorem starP_ok {p : List TmD} {L : List Int} (hp : OkP p) (h : ascI L = true) : OkP (starP p L) := by
 unfold starP
 split
 ·exact normP_ok hp
 ·exact normP_ok (okP_star (normP_ok hp) h)
theorem starP_red (p : List TmD) (L : List Int) : redP (starP p L) := by
 unfold starP
 split
 ·exact normP_red _
 ·exact normP_red _
theorem starP_eq (p : List TmD) (L : List Int) : EqP (starP p L) (if L = [] then p else p ++ [starT L]) := by
 unfold starP
 split
 ·exact (normP_eq p).symm
 ·exact (normP_eq _).symm.trans ((normP_eq p).symm.appR _)
theorem star_star (p : List TmD) (L : List Int) : EqP (p ++ [starT L] ++ [starT L]) (p ++ [starT L]) := by
 rw [List.append_assoc]
 exact (eq_next (t := starT L) (u := starT L) rfl (by unfold witT starT; simp) []).app p
theorem starP_twice {p : List TmD} {L : List Int} (hp : OkP p) (h : ascI L = true) : starP (starP p L) L = starP p L := by
 refine red_eq (starP_ok (starP_ok hp h) h) (starP_ok hp h) (starP_red _ _) (starP_red _ _) ?_
 have h1 := starP_eq (starP p L) L
 have h2 := starP_eq p L
 by_cases hL : L = []
 ·rw [if_pos hL] at h1; exact h1
 ·rw [if_neg hL] at h1 h2
  exact h1.trans ((h2.appR _).trans ((star_star p L).trans h2.symm))
theorem starP_above {p : List TmD} {L : List Int} (hp : OkP p) (h : ascI L = true) : leqP p (starP p L) = true := (leq_iff hp (starP_ok hp h)).2 fun w hw => by
 rw [starP_eq p L w]
 split
 ·exact hw
 ·exact mem_left _ hw
theorem starP_len (p : List TmD) (L : List Int) : (starP p L).length <= p.length + 1 := by
 unfold starP
 split
 ·have := normP_len p; omega
 ·have h1 := normP_len (normP p ++ [starT L])
  have h2 := normP_len p
  rw [List.length_append] at h1
  simp only [List.length_cons, List.length_nil] at h1; omega
theorem starP_snoc {p : List TmD} {L : List Int} {x : Int} (hp : OkP p) (h : ascI L = true) (hx : x ∈ L) : normP (starP p L ++ [⟨false, [x]⟩]) = starP p L := by
 have hL : L ≠ [] := fun e => by rw [e] at hx; cases hx
 have h2 := starP_eq p L
 rw [if_neg hL] at h2
 refine red_eq (normP_ok (okP_app (starP_ok hp h) fun t ht => by rw [List.mem_singleton.1 ht]; exact one_ok x)) (starP_ok hp h) (normP_red _) (starP_red _ _) ?_
 refine (normP_eq _).symm.trans ((h2.appR _).trans ?_)
 refine EqP.trans ?_ h2.symm
 rw [List.append_assoc]
 exact (eq_prev (t := ⟨false, [x]⟩) (u := starT L) rfl (by unfold witT starT; simp [hx]) []).app p
structure StP (p : List TmD) (L : List Int) (out : List TmD) : Prop where
 red : redP out
 eq : EqP (out ++ [starT L]) (p ++ [starT L])
 sub : ∀ t ∈ out, t ∈ p
theorem StP.start {p : List TmD} (L : List Int) (h : redP p) : StP p L p := ⟨h, EqP.refl _, fun _ ht => ht⟩
theorem StP.pop {p out : List TmD} {L : List Int} (h : StP p L out) (h0 : 0 < out.length) (hw : witT out[out.length - 1]! (starT L) = true) : StP p L (out.take (out.length - 1)) := by
 have e := snoc_last h0
 generalize out[out.length - 1]! = u at hw e
 generalize out.take (out.length - 1) = a at e
 subst e
 refine ⟨red_init h.red, ?_, fun t ht => h.sub t (by simp [ht])⟩
 have he := h.eq
 rw [List.append_assoc] at he
 exact ((eq_next (t := u) (u := starT L) rfl hw []).app a).symm.trans he
theorem StP.ok {p out : List TmD} {L : List Int} (h : StP p L out) (hp : OkP p) : OkP out := fun t ht => hp t (h.sub t ht)
theorem StP.keep {p out : List TmD} {L : List Int} (h : StP p L out) (hp : OkP p) (hL : ascI L = true) (h0 : 0 < out.length) (hs : out[out.length - 1]!.star = true) (hw : witT (starT L) out[out.length - 1]! = true) : out = normP (p ++ [starT L]) := by
 refine red_eq (h.ok hp) (normP_ok (okP_star hp hL)) h.red (normP_red _) ?_
 refine EqP.trans ?_ (h.eq.trans (normP_eq _))
 have e := snoc_last h0
 generalize out[out.length - 1]! = u at hs hw e
 generalize out.take (out.length - 1) = a at e
 subst e
 rw [List.append_assoc]
 exact ((eq_prev (t := starT L) (u := u) hs hw []).app a).symm
theorem StP.put {p out : List TmD} {L : List Int} (h : StP p L out) (hp : OkP p) (hL : ascI L = true) (hn : L ≠ []) (h1 : 0 < out.length -> ¬ witT out[out.length - 1]! (starT L) = true)
  (h2 : 0 < out.length -> ¬ (out[out.length - 1]!.star = true /\ witT (starT L) out[out.length - 1]! = true)) : out ++ [starT L] = normP (p ++ [starT L]) := by
 refine red_eq (okP_star (h.ok hp) hL) (normP_ok (okP_star hp hL)) ?_ (normP_red _) (h.eq.trans (normP_eq _))
 by_cases h0 : 0 < out.length
 ·have e := snoc_last h0
  have k1 := h1 h0
  have k2 := h2 h0
  clear h1 h2
  have hr := h.red
  generalize out[out.length - 1]! = u at k1 k2 e
  generalize out.take (out.length - 1) = a at e
  subst e
  have := red_snoc (t := starT L) hr ⟨fun hc => k1 hc.2, k2⟩ hn
  simpa using this
 ·rw [List.length_eq_zero_iff.1 (by omega : out.length = 0)]; exact red_one hn
end Go.AM
namespace Go.AM
open Go Go.Proofs Go.RowKit
set_option maxRecDepth 100000
set_option maxHeartbeats 8000000
theorem con_lcloneTm (l : List TmD) (hl : l.length <= 1000000) : Con Tryz.prog 139 [vPr l] [] fun r _ => r = .sl 2 2 (l.map vTm) := by
 refine Con.le (post := fun r _ => r = .nil /\ l = [] \/ r = .sl 2 2 (l.map vTm)) ?_ (fun r b h => ⟨.sl 2 2 (l.map vTm), by rcases h with ⟨rfl, rfl⟩ | rfl; exact leV_nil 2 2; exact leV_refl _, rfl⟩)
 refine Con.intro Tryz.func139 rfl Tryz.ntmps139 Tryz.results139 (by kernel_rfl) (by simp) 0 (by simp) ?_
 cases l with
 | nil =>
  simp only [go_sem]
  simp [roomFor]
 | cons x l =>
  simp only [go_sem]
  simp [roomFor]; simp at hl; omega
theorem con_lwithin1 (x : Int) (L : List Int) (hl : L.length <= 1000000) : Con Tryz.prog 221 [vi x, .fp [vs 0 L] 0] [] fun r _ => r = .sc (.bool (!decide (x ∈ L))) := by
 refine Con.intro Tryz.func221 rfl Tryz.ntmps221 Tryz.results221 (by kernel_rfl) (by simp) 0 (by simp) ?_
 have e : (L.any fun y => x == y) = decide (x ∈ L) := by
  rw [Bool.eq_iff_iff, List.any_eq_true, decide_eq_true_eq]
  constructor
  ·rintro ⟨y, hy, h⟩; rw [beq_iff_eq.1 h]; exact hy
  ·intro h; exact ⟨x, h, beq_self_eq_true _⟩
 have hc := con_mxContains L x (by omega)
 rw [e] at hc
 simp only [go_sem]
 refine CallU.free hc (by simp only [go_sem]) (by simp only [go_sem]) ?_
 rintro r bx rfl
 simp only [go_sem]
def allIn (a b : List Int) : Bool := a.all fun x => decide (x ∈ b)
theorem con_lwithin (a L : List Int) (ha : a.length <= 1000000) (hl : L.length <= 1000000) : Con Tryz.prog 140 [vs 0 a, vs 0 L] [] fun r _ => r = vb (allIn a L) := by
 refine Con.intro Tryz.func140 rfl Tryz.ntmps140 Tryz.results140 (by kernel_rfl) (by simp) 0 (by simp) ?_
 have hx := con_containsInt a 221 [.fp [vs 0 L] 0] (fun x => !decide (x ∈ L)) (by simp only [go_sem]) (fun x _ => con_lwithin1 x L hl) (by omega)
 have e : allIn a L = !(a.any fun x => !decide (x ∈ L)) := by
  unfold allIn
  rw [List.not_any_eq_all_not]; congr 1; funext x; simp
 rw [e]
 simp only [go_sem]
 refine CallU.look hx (by simp only [go_sem]) (by simp only [go_sem]) ?_
 rintro r bx rfl
 simp only [go_sem]
theorem wit_allIn (t : TmD) (L : List Int) : witT t (starT L) = allIn t.ls L := by unfold witT starT allIn; rw [if_pos rfl]
theorem allIn_wit {u : TmD} (h : u.star = true) (L : List Int) : witT (starT L) u = allIn L u.ls := by unfold witT starT allIn; rw [if_pos h]
def starF (p : List TmD) (L : List Int) : List TmD := if L = [] then p else normP (p ++ [starT L])
theorem con_lstarred (p : List TmD) (L : List Int) (hp : OkP p) (hr : redP p) (hl : LenP p) (hL : ascI L = true) (hLl : L.length <= 1000000) : Con Tryz.prog 87 [vPr p, vs 0 L] [] fun r _ => r = vPr (starF p L) := by
 refine Con.frozX ?_
 refine Con.intro Tryz.func87 rfl Tryz.ntmps87 Tryz.results87 (by kernel_rfl) (by simp) 0 (by simp) ?_
 have hpl := hl.len
 unfold starF
 by_cases hn : L = []
 ·subst hn
  rw [if_pos rfl]
  simp only [go_sem, List.map_nil, List.length_nil]
  exact leV_refl _
 have hne : ((L.length : Int) == 0) = false := beq_eq_false_iff_ne.2 (by have := List.length_pos_iff.2 hn; omega)
 rw [if_neg hn]
 have hc := con_lcloneTm p hl.len
 simp only [vPr] at hc
 simp only [go_sem, hne, List.length_map]
 refine CallU.free hc (by simp only [go_sem]) (by simp only [go_sem]) ?_
 rintro r bx rfl
 simp only [go_sem]
 refine LoopK.intro (fun out : List TmD => ⟨59, [(0, .sl 770 2 (out.map vTm)), (1, vs 0 L)], []⟩)
  (fun out => out.length) (fun out => StP p L out /\ out.length <= p.length) p ⟨StP.start L hr, Nat.le_refl _⟩ ?_ ?_
 ·simp only [go_sem]
 rintro out ⟨hS, hol⟩
 by_cases h0 : 0 < out.length
 case neg =>
  have e0 : out = [] := List.length_eq_zero_iff.1 (by omega)
  have e := hS.put hp hL hn (fun h => absurd h h0) (fun h => absurd h h0)
  subst e0
  simp only [go_sem, List.map_nil, List.length_nil]
  refine ⟨by simp only [roomFor]; omega, ?_⟩
  rw [<- e]
  exact leV_refl _
 have hgl : (out.map vTm)[out.length - 1]? = some (vTm out[out.length - 1]!) := getTm (by omega)
 have hw1 : IntKind.i64.wrap ((out.length : Int) - 1) = ((out.length - 1 : Nat) : Int) := by rw [wrap_in (by omega) (by omega)]; omega
 have hlt : out.length - 1 < out.length := by omega
 have hle1 : out.length - 1 <= out.length := by omega
 have hul := hl.terms _ (hS.sub _ (mem_bangI hlt))
 have hc1 := con_lwithin out[out.length - 1]!.ls L hul hLl
 have hw := wit_allIn out[out.length - 1]! L
 simp only [go_sem, h0, hgl, hw1, hlt, List.length_map]
 refine CallU.free hc1 (by simp only [go_sem]) (by simp only [go_sem]) ?_
 rintro r bx rfl
 cases hwit : allIn out[out.length - 1]!.ls L with
 | true =>
  simp only [go_sem, hw1, hle1, List.length_map]
  refine roundK.intro (out.take (out.length - 1)) ⟨hS.pop h0 (by rw [hw]; exact hwit), by rw [List.length_take]; omega⟩ (by rw [List.length_take]; omega) ?_
  simp only [go_sem, List.map_take]
 | false =>
  have k1 : 0 < out.length -> ¬ witT out[out.length - 1]! (starT L) = true := fun _ => by rw [hw, hwit]; simp
  cases hs : out[out.length - 1]!.star with
  | false =>
   have e := hS.put hp hL hn k1 (fun _ hc => by rw [hs] at hc; exact absurd hc.1 (by simp))
   simp only [go_sem, h0, hgl, hw1, hlt, hs, List.length_map]
   refine ⟨by simp only [roomFor]; omega, ?_⟩
   rw [<- e, List.map_append]
   exact leV_refl _
  | true =>
   have hw2 := allIn_wit hs L
   have hc2 := con_lwithin L out[out.length - 1]!.ls hLl hul
   simp only [go_sem, h0, hgl, hw1, hlt, hs, List.length_map]
   refine CallU.free hc2 (by simp only [go_sem]) (by simp only [go_sem]) ?_
   rintro r bx rfl
   cases hwit2 : allIn L out[out.length - 1]!.ls with
   | true =>
    have e := hS.keep hp hL h0 hs (by rw [hw2]; exact hwit2)
    simp only [go_sem]
    rw [<- e]
    exact leV_refl _
   | false =>
    have e := hS.put hp hL hn k1 (fun _ hc => by rw [hw2, hwit2] at hc; exact absurd hc.2 (by simp))
    simp only [go_sem, h0, hgl, hw1, hlt, hs, List.length_map]
    refine ⟨by simp only [roomFor]; omega, ?_⟩
    rw [<- e, List.map_append]
    exact leV_refl _
def Below (n : Nat) (l : List Int) : Prop := ∀ x ∈ l, 0 <= x /\ x < n
attribute [go_sem] true_or or_true false_or or_false
@[go_sem] theorem rowsA_killset2 {t i : Nat} {M : List (List Int)} {r : List Int} (h : t < 1048576) : ((rowsA t M).map (killRow t ∘ killRow (subT t i))).set i (.sl (subT t i) 1 (r.map vi)) = rowsA t (M.set i r) := by
 have e : (rowsA t M).map (killRow t ∘ killRow (subT t i)) = (rowsA t M).map (killRow (subT t i)) := by
  apply List.ext_getElem?
  intro j
  simp only [List.getElem?_map, rowsA_at, Option.map_map]
  cases M[j]? with
  | none => rfl
  | some r =>
   simp only [Option.map_some, Function.comp, Option.some.injEq]
   by_cases hji : j = i
   ·subst hji; simp [killRow]
   ·simp [killRow, sub_sub, hji, sub_lit h]
 rw [e, rowsA_killset]
def staysB (r : RD) (s : Int) : Bool := r.act == 1 && r.src == s && r.dst == s
def sentF (rules : List RD) (s : Int) (c : Nat) : List Int := (rules.filter fun r => staysB r s && r.channel == (c : Int)).map RD.letter
def sentL (rules : List RD) (s : Int) (np : Nat) : List (List Int) := (List.range np).map (sentF rules s)
def loopW (rules : List RD) (s : Int) (W : List (List TmD)) : List (List TmD) := W.mapIdx fun c p => starF (normP p) (lettersF (sentF rules s c))
theorem sentL_len (rules : List RD) (s : Int) (np : Nat) : (sentL rules s np).length = np := by simp [sentL]
theorem sentL_at {rules : List RD} {s : Int} {np c : Nat} (h : c < np) : (sentL rules s np)[c]! = sentF rules s c := by
 rw [getElem!_pos _ c (by rw [sentL_len]; exact h)]
 simp [sentL]
theorem sentL_zero (s : Int) (np : Nat) : sentL [] s np = List.replicate np [] := by
 apply List.ext_getElem
 ·simp [sentL]
 ·intro i h1 h2; simp [sentL, sentF]
theorem sentF_snoc (rules : List RD) (r : RD) (s : Int) (c : Nat) : sentF (rules ++ [r]) s c = sentF rules s c ++ (if staysB r s = true /\ r.channel = (c : Int) then [r.letter] else []) := by
 unfold sentF
 rw [List.filter_append, List.map_append]
 by_cases h1 : staysB r s = true <;> by_cases h2 : r.channel = (c : Int) <;> simp [h1, h2]
theorem sentL_no {rules : List RD} {r : RD} {s : Int} {np : Nat} (h : staysB r s = false) : sentL (rules ++ [r]) s np = sentL rules s np := by
 unfold sentL
 apply List.map_congr_left
 intro c _
 rw [sentF_snoc, if_neg (by rw [h]; simp), List.append_nil]
theorem sentL_yes {rules : List RD} {r : RD} {s : Int} {np c : Nat} (h : staysB r s = true) (hc : r.channel = (c : Int)) (hcn : c < np) : sentL (rules ++ [r]) s np = (sentL rules s np).set c (sentF rules s c ++ [r.letter]) := by
 apply List.ext_getElem
 ·simp [sentL]
 ·intro i h1 h2
  rw [List.getElem_set]
  simp only [sentL, List.getElem_map, List.getElem_range, sentF_snoc]
  by_cases e : c = i
  ·subst e; rw [if_pos ⟨h, hc⟩, if_pos rfl]
  ·rw [if_neg (fun hh => e (by have := hh.2; rw [hc] at this; omega)), if_neg e, List.append_nil]
theorem sentF_len (rules : List RD) (s : Int) (c : Nat) : (sentF rules s c).length <= rules.length := by
 unfold sentF; rw [List.length_map]; exact List.length_filter_le _ _
theorem letters_one {L : List Int} (h : L.length <= 1) : lettersF L = L := by
 have e : sortI L = L := by
  match L, h with
  | [], _ => exact List.Perm.eq_nil (List.mergeSort_perm _ _)
  | [x], _ => exact List.perm_singleton.1 (List.mergeSort_perm _ _)
  | _ :: _ :: _, h => simp only [List.length_cons] at h; omega
 unfold lettersF
 rw [e]
 exact uniq_short (by omega)
theorem con_lins1 (L : List Int) (h : L.length <= 1) : Con Tryz.prog 209 [vs 0 L, vi 0, vi L.length] [] fun r _ => r = .tup [] := by
 refine Con.intro Tryz.func209 rfl Tryz.ntmps209 Tryz.results209 (by kernel_rfl) (by simp) 0 (by simp) ?_
 have w1 : IntKind.i64.wrap 1 = 1 := wrap_in (by omega) (by omega)
 have h1 : ¬ (1 : Int) < (L.length : Int) := by omega
 simp only [go_sem, w1]
 refine LoopK.intro (fun _ : Unit => ⟨49, [(2, vi L.length), (6, vi 1)], []⟩) (fun _ => 0) (fun _ => True) () trivial ?_ ?_
 ·simp only [go_sem]
 rintro ⟨⟩ _
 simp only [go_sem, h1]
theorem con_lpdq1 (L : List Int) (h : L.length <= 1) (v : Int) : Con Tryz.prog 137 [vs 0 L, vi 0, vi L.length, vi v] [] fun r _ => r = .tup [] := by
 refine Con.intro Tryz.func137 rfl Tryz.ntmps137 Tryz.results137 (by kernel_rfl) (by simp) 0 (by simp) ?_
 have w1 : IntKind.i64.wrap ((L.length : Int) - 0) = L.length := by rw [wrap_in (by omega) (by omega)]; omega
 have h12 : (L.length : Int) <= 12 := by omega
 simp only [go_sem]
 refine LoopK.intro (fun _ : Unit => ⟨134, [(0, vs 0 L), (1, vi 0), (2, vi L.length), (3, vi v)], []⟩) (fun _ => 0) (fun _ => True) () trivial ?_ ?_
 ·simp only [go_sem]
 rintro ⟨⟩ _
 simp only [go_sem, w1, h12]
 refine CallU.free (con_lins1 L h) (by simp only [go_sem]) (by simp only [go_sem]) ?_
 rintro r bx rfl
 simp only [go_sem]
theorem con_lsort1 (L : List Int) (h : L.length <= 1) : Con Tryz.prog 86 [vs 0 L] [] fun r _ => r = .tup [] := by
 refine Con.intro Tryz.func86 rfl Tryz.ntmps86 Tryz.results86 (by kernel_rfl) (by simp) 0 (by simp) ?_
 have w2 : IntKind.u64.wrap (L.length : Int) = L.length := by rw [IntKind.wrap_u64]; omega
 simp only [go_sem, w2, List.length_map]
 refine CallU.free (con_llen L.length (by omega)) (by simp only [go_sem]) (by simp only [go_sem]) ?_
 rintro r bx rfl
 simp only [go_sem]
 refine CallU.free (con_lpdq1 L h (Go.Sort.bitsLen L.length : Nat)) (by simp only [go_sem]) (by simp only [go_sem]) ?_
 rintro r bx rfl
 simp only [go_sem]
theorem con_lcompact1 (L : List Int) (h : L.length <= 1) : Con Tryz.prog 88 [vs 0 L] [] fun r _ => r = vs 0 L := by
 refine Con.intro Tryz.func88 rfl Tryz.ntmps88 Tryz.results88 (by kernel_rfl) (by simp) 0 (by simp) ?_
 have h2 : (L.length : Int) < 2 := by omega
 simp only [go_sem, h2, List.length_map]
def emptyRow : AV -> AV
 | .sl _ es [] => .sl 0 es []
 | x => x
theorem empty_row {G : Nat -> Status} {w : World} {r : Nat} {x : AV} {u : Value} (hx : x.rowLike = true) (hr : LRel G w r x u) : (emptyRow x).rowLike = true /\ LRel G w r (emptyRow x) u := by
 cases x <;> first | exact ⟨hx, hr⟩ | skip
 rename_i t es xs
 cases xs with
 | cons y ys => exact ⟨hx, hr⟩
 | nil =>
  refine ⟨rfl, .froz ?_⟩
  cases hr with
  | froz hr =>
   cases hr with
   | slNil _ _ a c h1 h2 h3 => exact .slNil 0 es a c (by omega) (fun h => by omega) h3
   | sl _ _ _ b off c vals => exact .slNil 0 es _ c (by omega) (fun h => by omega) (fun h => by cases h)
  | own _ _ _ _ e vals h1 hrt h2 =>
   rcases h2.2 with ⟨hv, _⟩ | ⟨g, cap, cur, hv, _⟩
   ·rw [hv]
    exact .slNil 0 es none 0 (by omega) (fun h => by omega) (fun _ => rfl)
   ·rw [hv]
    exact .slNil 0 es _ _ (by omega) (fun h => by omega) (fun h => by cases h)
def rowK (t i : Nat) (r : List Int) : AV := if r = [] then .sl 0 1 [] else .sl (subT t i) 1 (r.map vi)
theorem rowK_like (t i : Nat) (r : List Int) : (rowK t i r).rowLike = true := by unfold rowK; split <;> rfl
def rowsK (t k : Nat) (M : List (List Int)) : List AV := M.mapIdx fun i r => if i < k then .any else rowK t i r
@[go_sem] theorem rowsK_len {t k : Nat} {M : List (List Int)} : (rowsK t k M).length = M.length := by simp [rowsK]
theorem rowsK_get {t k i : Nat} {M : List (List Int)} (h : i < M.length) : (rowsK t k M)[i]? = some (if i < k then .any else rowK t i M[i]!) := by
 unfold rowsK
 rw [List.getElem?_mapIdx, List.getElem?_eq_getElem h, getElem!_pos M i h]; rfl
theorem getK {t k : Nat} {M : List (List Int)} (h : k < M.length) : (rowsK t k M)[k]? = some (rowK t k M[k]!) := by rw [rowsK_get h, if_neg (by omega)]
theorem rowsK_ext {t k : Nat} {M : List (List Int)} {l : List AV} (hl : l.length = M.length) (h : ∀ i, i < M.length -> l[i]? = some (if i < k then .any else rowK t i M[i]!)) : l = rowsK t k M := by
 apply List.ext_getElem?
 intro i
 by_cases hi : i < M.length
 ·rw [h i hi, rowsK_get hi]
 ·rw [List.getElem?_eq_none (by omega), List.getElem?_eq_none (by rw [rowsK_len]; omega)]
theorem rowsK_zero {t : Nat} {M : List (List Int)} : (rowsA t M).map emptyRow = rowsK t 0 M := rowsK_ext (by rw [List.length_map, rowsA_len]) fun i hi => by
 rw [List.getElem?_map, gett hi, Option.map_some, if_neg (by omega)]
 unfold rowK
 cases M[i]! <;> rfl
theorem rowsK_begin {t : Nat} {M : List (List Int)} : leV (.so t (rowsA t M)) (.so t (rowsK t 0 M)) := leV_sem fun _ _ _ h => by
 rw [<- rowsK_zero]
 exact h.so_map h.so_two (fun _ _ hx hr => empty_row hx hr) (fun _ hb => ⟨hb, rfl⟩)
theorem rowsK_map {t k : Nat} {M : List (List Int)} {f : AV -> AV} (h0 : f .any = .any) (h1 : f (.sl 0 1 []) = .sl 0 1 []) (h2 : ∀ i r, f (.sl (subT t i) 1 (List.map vi r)) = .sl (subT t i) 1 (List.map vi r)) : (rowsK t k M).map f = rowsK t k M := by
 refine rowsK_ext (by simp [rowsK_len]) fun i hi => ?_
 rw [List.getElem?_map, rowsK_get hi, Option.map_some]
 congr 1
 split
 ·exact h0
 ·unfold rowK
  split
  ·exact h1
  ·exact h2 _ _
@[go_sem] theorem rowsK_store {t k t0 es i o : Nat} {ys : List AV} {M : List (List Int)} (h : t0 < 1048576) (h0 : (0 = t0) = False) : (rowsK t k M).map (storeRow t0 es i o ys) = rowsK t k M := rowsK_map rfl (by simp only [storeRow, h0, if_false]) fun i r => by simp only [storeRow, sub_lit h, if_false]
theorem rowsK_retag {t k b : Nat} {M : List (List Int)} (hb : b < 1048576) (h0 : ¬ 0 = b) (hr : ¬ root t = root b) (hk : k < M.length -> M[k]! ≠ []) : (rowsK t k M).map (retagRow (subT t k) b) = rowsK t (k + 1) M := by
 refine rowsK_ext (by simp [rowsK_len]) fun i hi => ?_
 rw [List.getElem?_map, rowsK_get hi, Option.map_some]
 by_cases h1 : i < k
 ·rw [if_pos h1, if_pos (by omega)]; rfl
 rw [if_neg h1]
 have hs := sub_big t k
 unfold rowK
 by_cases h2 : i = k
 ·subst h2
  rw [if_pos (Nat.lt_succ_self i), if_neg (hk hi)]
  simp only [retagRow, if_true, root_sub, hr, if_false]
 ·rw [if_neg (by omega : ¬ i < k + 1)]
  have h3 : ¬ subT t i = subT t k := fun e => h2 (sub_inj e).2
  have h4 : ¬ subT t i = b := fun e => by have := sub_big t i; omega
  have h5 : ¬ 0 = subT t k := by omega
  split <;> simp only [retagRow, h3, h4, h5, h0, if_false]
theorem rowsK_drop {t k : Nat} {M : List (List Int)} : rowsLe (root t) (rowsK t k M) (rowsK t (k + 1) M) := by
 refine ⟨by rw [rowsK_len, rowsK_len], fun i x y hx hy => ?_⟩
 have hi : i < M.length := by have := (List.getElem?_eq_some_iff.1 hx).1; rwa [rowsK_len] at this
 rw [rowsK_get hi] at hx hy
 obtain rfl := Option.some.inj hx
 obtain rfl := Option.some.inj hy
 by_cases h1 : i < k
 ·rw [if_pos h1, if_pos (by omega)]
  exact ⟨rfl, .inl rfl⟩
 rw [if_neg h1]
 by_cases h2 : i < k + 1
 ·rw [if_pos h2]
  exact ⟨rowK_like _ _ _, .inr (.inl rfl)⟩
 ·rw [if_neg h2]
  exact ⟨rowK_like _ _ _, .inl rfl⟩
theorem rowsK_freeze {t k : Nat} {M : List (List Int)} {p : Nat -> Bool} (h : p (root t) = false) : (rowsK t k M).map (freezeRow p) = rowsK t k M := rowsK_map rfl rfl fun i r => by simp only [freezeRow, sub_two, root_sub, h, Bool.false_eq_true, and_false, if_false]
def loopP (rules : List RD) (s : Int) (W : List (List TmD)) (k : Nat) : List (List TmD) := W.mapIdx fun c p => if c < k then starF (normP p) (lettersF (sentF rules s c)) else normP p
theorem loopP_zero (rules : List RD) (s : Int) (W : List (List TmD)) : loopP rules s W 0 = W.map normP := by
 unfold loopP
 apply List.ext_getElem
 ·simp
 ·intro i h1 h2; simp
theorem loopP_len (rules : List RD) (s : Int) (W : List (List TmD)) (k : Nat) : (loopP rules s W k).length = W.length := by simp [loopP]
theorem loopP_end (rules : List RD) (s : Int) (W : List (List TmD)) : loopP rules s W W.length = loopW rules s W := by
 unfold loopP loopW
 apply List.ext_getElem
 ·simp
 ·intro i h1 h2
  simp only [List.length_mapIdx] at h1
  simp [h1]
theorem loopP_at {rules : List RD} {s : Int} {W : List (List TmD)} {k : Nat} (h : k < W.length) : (loopP rules s W k)[k]! = normP W[k]! := by
 rw [getElem!_pos _ k (by rw [loopP_len]; exact h), getElem!_pos W k h]
 simp [loopP]
theorem loopP_step {rules : List RD} {s : Int} {W : List (List TmD)} {k : Nat} (h : k < W.length) : loopP rules s W (k + 1) = (loopP rules s W k).set k (starF (normP W[k]!) (lettersF (sentF rules s k))) := by
 apply List.ext_getElem
 ·simp [loopP]
 ·intro i h1 h2
  rw [List.getElem_set]
  simp only [loopP, List.length_mapIdx] at h1
  simp only [loopP, List.getElem_mapIdx]
  by_cases e : k = i
  ·subst e
   rw [if_pos (by omega), if_pos rfl, getElem!_pos W k h]
  ·rw [if_neg e]
   by_cases h3 : i < k
   ·rw [if_pos (by omega), if_pos h3]
   ·rw [if_neg (by omega), if_neg h3]
def lpTree : Tr := .front 0 (.front 2 (.front 3 (.front 5 (.front 8 (.alt (.one 1 (.alt (.one 4 (.front 6 (.alt (.one 7 (.one 9 (.one 10 (.front 11 (.one 12 .done))))) (.one 9 (.one 7 (.one 10 (.front 11 (.one 12 .done)))))))) (.one 9 (.one 4 (.front 6 (.one 7 (.one 10 (.front 11 (.one 12 .done))))))))) (.alt (.one 4 (.front 6 (.alt (.one 1 (.alt (.one 7 (.one 9 (.one 10 (.front 11 (.one 12 .done))))) (.one 9 (.one 7 (.one 10 (.front 11 (.one 12 .done))))))) (.alt (.one 7 (.alt (.one 1 (.one 9 (.one 10 (.front 11 (.one 12 .done))))) (.one 9 (.alt (.one 1 (.one 10 (.front 11 (.one 12 .done)))) (.one 10 (.one 1 (.front 11 (.one 12 .done)))))))) (.one 9 (.alt (.one 1 (.one 7 (.one 10 (.front 11 (.one 12 .done))))) (.one 7 (.alt (.one 1 (.one 10 (.front 11 (.one 12 .done)))) (.one 10 (.one 1 (.front 11 (.one 12 .done)))))))))))) (.one 9 (.alt (.one 1 (.one 4 (.front 6 (.one 7 (.one 10 (.front 11 (.one 12 .done))))))) (.one 4 (.front 6 (.alt (.one 1 (.one 7 (.one 10 (.front 11 (.one 12 .done))))) (.one 7 (.alt (.one 1 (.one 10 (.front 11 (.one 12 .done)))) (.one 10 (.one 1 (.front 11 (.one 12 .done)))))))))))))))))
theorem starF_len (p : List TmD) (L : List Int) : (starF p L).length <= p.length + 1 := by
 unfold starF
 split
 ·omega
 ·have := normP_len (p ++ [starT L]); rw [List.length_append] at this; simpa using this
theorem con_lloop (m : MD) (s : Int) (W : List (List TmD)) (h : CloudOk m s W) (hr : ∀ r ∈ m.rules, 0 <= r.channel /\ r.channel < m.places.length /\ 0 <= r.letter /\ r.letter < m.letters.length) (hrl : m.rules.length <= 1000)
    (hw : ∀ p ∈ W, p.length <= 23) : Con Tryz.prog 44 [vM m, vCl s W] [] fun r _ => r = .tup [vCl s (loopW m.rules s W), vi 0] := by
  refine Con.frozX ?_
  refine Con.intro Tryz.func44 rfl Tryz.ntmps44 Tryz.results44 (by kernel_rfl) (by simp) 0 (by simp) ?_
  have c1 := con_lcheck m s W h
  have c2 := con_lnormal m s W h
  simp only [vM, cM, vss, vCl] at c1 c2
  have hf := h.few
  simp only [go_sem, cM, vss, vCl]
  refine CallU.free c1 (by simp only [go_sem]) (by simp only [go_sem]) ?_
  rintro q bx rfl
  simp only [go_sem, cM, vss, List.length_map]
  refine ⟨Nat.le_refl _, by omega, by omega, ?_⟩
  refine LoopK.intro (fun i : Nat => ⟨96, [(2, .pb 0 0), (3, .pb 1 0), (4, .pb 2 0), (7, vt 1536 (sentL (m.rules.take i) s m.places.length)), (25, .sl 0 14 (m.rules.map vRule)), (26, vi m.rules.length), (27, vi i)], cM m :: [vi s, .sl 0 1 (W.map vPr)] :: [.any, .any] :: Rk 14 i⟩)
    (fun i => m.rules.length - i) (fun i => i <= m.rules.length) 0 (Nat.zero_le _) ?_ ?_
  · simp only [go_sem, cM, vss, List.take_zero, sentL_zero, Rk, List.replicate_zero, List.length_map]
    exact leV_slso (by omega) rowsLe_nils
  rintro i hi
  have hB := Rk_len 14 i
  have n0 := fun L : List (List AV) => app_at0 (L := L) hB
  have s0 := fun (L : List (List AV)) z => app_set0 (L := L) (z := z) hB
  have hwi : IntKind.i64.wrap (i + 1) = i + 1 := wrap_in (by omega) (by omega)
  by_cases h4 : i < m.rules.length
  case pos =>
    have hg := getRule h4
    have hrr := hr _ (mem_bangI h4)
    have etk : m.rules.take (i + 1) = m.rules.take i ++ [m.rules[i]!] := by rw [List.take_succ_eq_append_getElem h4, <- getElem!_pos m.rules i h4]
    have hsl := fun c => sentF_len (m.rules.take i) s c
    obtain ⟨c, ec⟩ : ∃ c : Nat, m.rules[i]!.channel = c := ⟨_, (Int.toNat_of_nonneg hrr.1).symm⟩
    have hcn : c < m.places.length := by omega
    generalize hri : m.rules[i]! = r at hg hrr ec etk
    have e1 : vRule r = .ag [vStr r.name, vi r.src, vi r.dst, vs 0 r.need, vs 0 r.give, vs 0 r.move, vi r.channel, vi r.act, vi r.letter, vs 0 r.path, vs 0 r.next, .sl 0 3 (r.takes.map vTake), vs 0 r.makes, vi r.second] := rfl
    rw [e1, ec] at hg
    by_cases b1 : r.act = 1
    case neg =>
      have hb1 : (r.act == 1) = false := beq_eq_false_iff_ne.2 b1
      have hno : staysB r s = false := by unfold staysB; rw [hb1]; rfl
      simp only [go_sem, h4, hg, hB, n0, s0, hb1, cM, vss, List.length_map, List.cons_append, List.nil_append, List.length_cons, hwi]
      refine roundK.intro (i + 1) (by omega) (by omega) ?_
      simp only [go_sem, etk, sentL_no hno, cM, vss, Rk_succ]
      all_goals exact leB_RkA ⟨leC_any _ 14 rfl, trivial⟩
    have hb1 : (r.act == 1) = true := beq_iff_eq.2 b1
    by_cases b2 : r.src = s
    case neg =>
      have hb2 : (r.src == s) = false := beq_eq_false_iff_ne.2 b2
      have hno : staysB r s = false := by unfold staysB; rw [hb1, hb2]; rfl
      simp only [go_sem, h4, hg, hB, n0, s0, hb1, hb2, cM, vss, List.length_map, List.cons_append, List.nil_append, List.length_cons, hwi]
      refine roundK.intro (i + 1) (by omega) (by omega) ?_
      simp only [go_sem, etk, sentL_no hno, cM, vss, Rk_succ]
      all_goals exact leB_RkA ⟨leC_any _ 14 rfl, trivial⟩
    have hb2 : (r.src == s) = true := beq_iff_eq.2 b2
    by_cases b3 : r.dst = s
    case neg =>
      have hb3 : (r.dst == s) = false := beq_eq_false_iff_ne.2 b3
      have hno : staysB r s = false := by unfold staysB; rw [hb1, hb2, hb3]; rfl
      simp only [go_sem, h4, hg, hB, n0, s0, hb1, hb2, hb3, cM, vss, List.length_map, List.cons_append, List.nil_append, List.length_cons, hwi]
      refine roundK.intro (i + 1) (by omega) (by omega) ?_
      simp only [go_sem, etk, sentL_no hno, cM, vss, Rk_succ]
      all_goals exact leB_RkA ⟨leC_any _ 14 rfl, trivial⟩
    have hb3 : (r.dst == s) = true := beq_iff_eq.2 b3
    have hyes : staysB r s = true := by unfold staysB; rw [hb1, hb2, hb3]; rfl
    have hsy := sentL_yes (rules := m.rules.take i) (np := m.places.length) hyes ec hcn
    have hln := sentL_len (m.rules.take i) s m.places.length
    have hgt := gett (t := 1536) (i := c) (M := sentL (m.rules.take i) s m.places.length) (by rw [hln]; exact hcn)
    rw [sentL_at hcn] at hgt
    have hslc := hsl c
    rw [List.length_take] at hslc
    generalize hM : sentL (m.rules.take i) s m.places.length = M at hgt hsy hln
    generalize sentF (m.rules.take i) s c = row at hgt hsy hslc
    simp only [go_sem, h4, hg, hB, n0, s0, hb1, hb2, hb3, cM, vss, List.length_map, List.cons_append, List.nil_append, List.length_cons]
    refine DrawK.effs0 0 [] [0, 1] 11 (.one 11 (.front 12 (.one 13 .done))) (some (2, .alt (.one 2 (.one 11 (.front 12 (.one 13 .done)))) (.one 11 (.one 2 (.front 12 (.one 13 .done)))))) [vi m.kind, .sl 0 1 (m.states.map vStr), .sl 0 1 (m.places.map vStr), .sl 0 1 (m.letters.map vStr), .sl 0 1 (m.ranks.map vi), vi m.levels, vi m.age, .sl 0 14 (m.rules.map vRule), vi m.start.n, .sl 0 2 (m.start.kids.map vV)] mixed (by kernel_rfl) (by kernel_rfl) (by simp only [go_sem]) (by simp only [go_sem]) ?_
    simp only [go_sem, hB, n0, s0, hgt, hln, hcn, cM, vss, List.length_map, List.cons_append, List.nil_append, List.length_cons]
    have ec2 : List.map vi row ++ [AV.sc (Value.int IntKind.i64 r.letter)] = (row ++ [r.letter]).map vi := by rw [List.map_append]; rfl
    have hput : mapB (putLeaf 1536 c (AV.sl (subT 1536 c) 1 ((row ++ [r.letter]).map vi))) (Rk 14 i) = Rk 14 i := mapB_Rk rfl 14 i
    repeat' (first
      | with_reducible apply andK_mk
      | (refine ⟨by simp only [roomFor]; omega, ?_⟩
         refine roundK.intro (i + 1) (by omega) (by omega) ?_
         rw [ec2, rowsA_killset2 (t := 1536) (by omega)]
         simp only [go_sem, etk, hsy, cM, vss, hwi, hput, Rk_succ]
         exact leB_RkA (x := [[_, _, _, _, _, _, _, _, _, _, _, _, _, _]]) ⟨leC_any _ 14 rfl, trivial⟩)
      | simp only [go_sem, hB, n0, s0, hgt, hln, hcn, cM, vss, List.length_map, List.cons_append, List.nil_append, List.length_cons])
  obtain rfl : i = m.rules.length := by omega
  simp only [go_sem, h4, cM, vss, List.take_length]
  refine CallU.free c2 (by simp only [go_sem]) (by simp only [go_sem]) ?_
  rintro q bx rfl
  have hSl := sentL_len m.rules s m.places.length
  have hSa := fun c (hc : c < m.places.length) => sentL_at (rules := m.rules) (s := s) hc
  generalize sentL m.rules s m.places.length = S at hSl hSa
  have hW := h.len
  simp only [go_sem, hB, n0, s0, cM, vss, List.cons_append, List.nil_append, List.length_cons, List.length_map]
  refine LoopK.intro (fun k : Nat => ⟨96, [(2, .pb 0 0), (3, .pb 1 0), (4, .pb 2 0), (10, .pb (m.rules.length + 1 + 1 + 1) 0), (65, .so 1536 (rowsK 1536 k S)), (66, vi S.length), (67, vi k)], cM m :: [vi s, .sl 0 1 (W.map vPr)] :: [.any, .any] :: (Rk 14 m.rules.length ++ [[vi s, .sl 4162 1 ((loopP m.rules s W k).map vPr)]])⟩)
    (fun k => S.length - k) (fun k => k <= S.length) 0 (Nat.zero_le _) ?_ ?_
  · simp only [go_sem, cM, vss, loopP_zero]
    exact rowsK_begin
  rintro k hk
  by_cases h5 : k < S.length
  case neg =>
    have e := loopP_end m.rules s W
    rw [show W.length = k by omega] at e
    simp only [go_sem, h5, n0, s0, cM, vss, e]
    exact leV_refl _
  have hkw : k < W.length := by omega
  have hg := getK (t := 1536) h5
  have hwk : IntKind.i64.wrap (k + 1) = k + 1 := wrap_in (by omega) (by omega)
  rw [hSa k (by omega)] at hg
  have hst := loopP_step (rules := m.rules) (s := s) hkw
  have hat := loopP_at (rules := m.rules) (s := s) hkw
  have hXl := loopP_len m.rules s W k
  have hLl := sentF_len m.rules s k
  have hSk := hSa k (by omega)
  generalize sentF m.rules s k = L at hg hst hLl hSk
  generalize loopP m.rules s W k = X at hst hat hXl
  have hkx : k < X.length := by omega
  have hgx := getPr hkx
  rw [hat] at hgx
  have hv := h.ws _ (mem_bangI hkw)
  have hFl := letters_len L
  have cst := con_lstarred (normP W[k]!) (lettersF L) (normP_ok hv.ok) (normP_red _) (lenP_norm hv.lenP) (letters_asc L) (by omega)
  have hmod := mod_Pr (D := X) (q := k) (x := starF (normP W[k]!) (lettersF L)) hkx
  have hln : (starF (normP W[k]!) (lettersF L)).length <= 24 := by
    have h1 := starF_len (normP W[k]!) (lettersF L)
    have h2 := normP_len W[k]!
    have h3 := hw _ (mem_bangI hkw)
    omega
  have hgs := getPr (l := X.set k (starF (normP W[k]!) (lettersF L))) (i := k) (by rw [List.length_set]; exact hkx)
  have egs : (X.set k (starF (normP W[k]!) (lettersF L)))[k]! = starF (normP W[k]!) (lettersF L) := by
    rw [getElem!_pos _ k (by rw [List.length_set]; exact hkx), List.getElem_set_self]
  rw [egs] at hgs
  have hk2 : k < (X.set k (starF (normP W[k]!) (lettersF L))).length := by rw [List.length_set]; exact hkx
  have h24 : ¬ 24 < (starF (normP W[k]!) (lettersF L)).length := by omega
  simp only [vPr] at cst hmod
  by_cases hL0 : L = []
  · subst hL0
    have cs := con_lsort1 [] (by simp)
    have cc := con_lcompact1 [] (by simp)
    have e0 : lettersF [] = [] := letters_one (by simp)
    unfold rowK at hg
    rw [if_pos rfl] at hg
    rw [e0] at cst hmod hgs hk2 h24 hst
    simp only [go_sem, h5, hg, cM, vss, List.length_map, List.map_nil]
    refine CallU.free cs (by simp only [go_sem]) (by simp only [go_sem]) ?_
    rintro q bx rfl
    simp only [go_sem, n0, s0, cM, vss]
    refine DrawK.walk 11 mixed (by kernel_rfl) ?_
    simp only [go_sem, n0, s0, hkx, hgx, cM, vss, List.length_map]
    refine CallY.mk cc (by simp only [go_sem]) (by simp only [go_sem]) (.inl (by simp only [go_sem])) ?_
    simp only [go_sem]
    refine CallY.mk cst (by simp only [go_sem]) (by simp only [go_sem]) (.inl (by simp only [go_sem])) ?_
    simp only [go_sem, n0, s0, hkx, hmod, hk2, hgs, h24, hwk, cM, vss, List.length_map]
    refine roundK.intro (k + 1) (by omega) (by omega) ?_
    simp only [go_sem, cM, vss, hst]
    exact leV_soso rowsK_drop
  unfold rowK at hg
  rw [if_neg hL0] at hg
  have hrt : mapB (retagLeaf (subT 1536 k) 7000) (Rk 14 m.rules.length) = Rk 14 m.rules.length := mapB_Rk rfl 14 _
  have hrk : (rowsK 1536 k S).map (retagRow (subT 1536 k) 7000) = rowsK 1536 (k + 1) S := rowsK_retag (by omega) (by omega) (by decide) (fun _ => by rw [hSk]; exact hL0)
  have hgv : ∀ y, mapB (giveLeaf [7000] [{ t := 7000, es := 1, n := L.length, y := y }]) (Rk 14 m.rules.length) = Rk 14 m.rules.length := fun y => mapB_Rk rfl 14 _
  have hLp : 0 < L.length := List.length_pos_iff.2 hL0
  have cs := conw_lsort L hLp (by omega)
  have hsl := (List.mergeSort_perm L fun x y => decide (x <= y)).length_eq
  have cc := conc_lcompact (sortI L) (by show (L.mergeSort _).length <= _; omega)
  simp only [go_sem, h5, hg, cM, vss, List.length_map]
  refine CallU.backR (subT 1536 k) 7000 [.sl 7000 1 (L.map vi)] cs (by simp only [go_sem]) ⟨by simp only [go_sem], by omega, by decide⟩ (by simp only [go_sem]) (by simp only [go_sem, hrt, hrk]) (by simp only [go_sem]) ?_
  rintro r ys ⟨rfl, rfl⟩
  simp only [go_sem, hrt, hrk, hgv, decide_eq_true hLp]
  have cst2 : Con Tryz.prog 87 [.sl 0 2 ((normP W[k]!).map vTm), .sl 0 1 ((uniq (sortI L)).map vi)] [] fun r _ => r = .sl 0 2 ((starF (normP W[k]!) (lettersF L)).map vTm) := cst
  have hf1 : (rowsK 1536 (k + 1) S).map (freezeRow fun t => [5378].contains t) = rowsK 1536 (k + 1) S := rowsK_freeze (by decide)
  have hb1 : ∀ ys, mapB (storeLeaf 4162 1 k 0 ys) (Rk 14 m.rules.length) = Rk 14 m.rules.length := fun ys => mapB_Rk rfl 14 _
  have hb2 : ∀ ts, mapB (killS ts) (Rk 14 m.rules.length) = Rk 14 m.rules.length := fun ts => mapB_Rk rfl 14 _
  have hb3 : ∀ p, mapB (freezeLeaf p) (Rk 14 m.rules.length) = Rk 14 m.rules.length := fun p => mapB_Rk rfl 14 _
  refine DrawK.meet ⟨96, [(2, .pb 0 0), (3, .pb 1 0), (4, .pb 2 0), (10, .pb (m.rules.length + 1 + 1 + 1) 0), (65, .so 1536 (rowsK 1536 (k + 1) S)), (66, vi S.length), (67, vi k), (11, vi k)], cM m :: [vi s, .sl 0 1 (W.map vPr)] :: [.any, .any] :: (Rk 14 m.rules.length ++ [[vi s, .sl 4162 1 ((X.set k (starF (normP W[k]!) (lettersF L))).map vPr)]])⟩ ?_ ?_
  · refine DrawK.tree lpTree mixed (by kernel_rfl) ?_
    unfold lpTree
    simp only [go_sem, n0, s0, hkx, hgx, cM, vss, List.length_map]
    repeat' (first
      | with_reducible apply andK_mk
      | (refine CallU.lend cc (by simp only [go_sem]) (by simp only [go_sem]) ?_
         rintro r rfl
         simp only [go_sem, n0, s0, hkx, hgx, cM, vss, List.length_map])
      | (refine CallU.freeze cst2 (by simp only [go_sem, hb2]) (by simp only [go_sem]) ?_
         rintro r bx rfl
         simp only [go_sem, n0, s0, hkx, hgx, hmod, hf1, hb1, hb2, hb3, cM, vss, List.length_map])
      | simp only [go_sem, n0, s0, hkx, hgx, hmod, hf1, hb1, hb2, hb3, cM, vss, List.length_map])
  simp only [go_sem, n0, s0, hkx, hk2, hgs, h24, hwk, cM, vss, List.length_map]
  refine roundK.intro (k + 1) (by omega) (by omega) ?_
  simp only [go_sem, cM, vss, hst]
theorem con_lexp1 (m : MD) (a b : ClD) (ha : CloudOk m a.1 a.2) (hb : CloudOk m b.1 b.2) : Con Tryz.prog 47 [vCP b, .fp (cM m) 0, .fp [vi a.1, .sl 0 1 (a.2.map vPr)] 0] [] fun r _ => r = .sc (.bool (clLeq m.letters.length a b)) := by
 refine Con.intro Tryz.func47 rfl Tryz.ntmps47 Tryz.results47 (by kernel_rfl) (by simp) 0 (by simp) ?_
 have c1 := con_lleq m a b ha hb
 simp only [vM, cM, vss, vCl] at c1
 simp only [go_sem, cM, vss, vCP, vCl]
 refine CallU.free c1 (by simp only [go_sem]) (by simp only [go_sem]) ?_
 rintro q bx rfl
 simp only [go_sem]
theorem con_lhold11 (m : MD) (a b : ClD) (ha : CloudOk m a.1 a.2) (hb : CloudOk m b.1 b.2) : Con Tryz.prog 52 [vCP b, .fp (cM m) 0, .fp [vi a.1, .sl 0 1 (a.2.map vPr)] 0] [] fun r _ => r = .sc (.bool (clLeq m.letters.length a b)) := by
 refine Con.intro Tryz.func52 rfl Tryz.ntmps52 Tryz.results52 (by kernel_rfl) (by simp) 0 (by simp) ?_
 have c1 := con_lleq m a b ha hb
 simp only [vM, cM, vss, vCl] at c1
 simp only [go_sem, cM, vss, vCP, vCl]
 refine CallU.free c1 (by simp only [go_sem]) (by simp only [go_sem]) ?_
 rintro q bx rfl
 simp only [go_sem]
theorem con_lhold1 (m : MD) (l : List ClD) (a : ClD) (ha : CloudOk m a.1 a.2) (hl : ∀ b ∈ l, CloudOk m b.1 b.2) (hll : l.length <= 1000000) : Con Tryz.prog 51 [vCP a, .fp [.sl 0 2 (l.map vCP)] 0, .fp (cM m) 0] [] fun r _ => r = .sc (.bool (l.any fun b => clLeq m.letters.length a b)) := by
 refine Con.intro Tryz.func51 rfl Tryz.ntmps51 Tryz.results51 (by kernel_rfl) (by simp) 0 (by simp) ?_
 have cx := con_containsCl l 52 [.fp (cM m) 0, .fp [vi a.1, .sl 0 1 (a.2.map vPr)] 0] (fun b => clLeq m.letters.length a b) (by simp only [go_sem, cM, vss]) (fun b hb => con_lhold11 m a b ha (hl b hb)) hll
 simp only [cM, vss] at cx
 simp only [go_sem, cM, vss, vCP, vCl]
 refine CallU.look cx (by simp only [go_sem]) (by simp only [go_sem]) ?_
 rintro q bx rfl
 simp only [go_sem]
def lR0 : RD := chanR ⟨#[114]⟩ 0 0 0 1 0
def lM0 : MD := chanM 1 1 2 [lR0] [[]]
def lC0 : ClD := (0, [[⟨true, [0]⟩]])
theorem l0_deal : DealC 1 1 2 [lR0] [[]] := by
 refine ⟨by omega, by omega, by omega, by decide, by decide +kernel, fun r hr => ?_, by decide, fun w hw => ?_⟩
 ·rw [List.mem_singleton.1 hr]
  exact ⟨rfl, by decide, by decide, by decide, by decide, by decide, by decide⟩
 ·rw [List.mem_singleton.1 hw]; exact ⟨by decide, fun x hx => by cases hx⟩
theorem l0_one : sentF lM0.rules 0 0 = [0] := by decide
theorem l0_loop (p : List TmD) (hp : normP (normP p ++ [starT [0]]) = [⟨true, [0]⟩]) : loopW lM0.rules 0 [p] = [[⟨true, [0]⟩]] := by
 unfold loopW
 show [starF (normP p) (lettersF (sentF lM0.rules 0 0))] = _
 rw [l0_one, letters_one (by decide)]
 unfold starF
 rw [if_neg (by decide), hp]
theorem l0_post : postF lM0.rules[0]! 0 [[⟨true, [0]⟩]] = some (0, [[⟨true, [0]⟩]]) := by decide +kernel
theorem l0_val (p : List TmD) (hp : ValidP 2 p) : CloudOk lM0 0 [p] := ⟨by decide, rfl, fun q hq => by rw [List.mem_singleton.1 hq]; exact hp, by decide⟩
theorem l0_vs : ValidP 2 [⟨true, [0]⟩] := check_zero.1 (by decide +kernel)
theorem l0_vn : ValidP 2 [] := check_zero.1 (by decide +kernel)
theorem l0_ok : CloudOk lM0 lC0.1 lC0.2 := l0_val _ l0_vs
theorem l0_leq : clLeq 2 lC0 lC0 = true := clLeq_refl (np := 1) ⟨rfl, fun q hq => by rw [List.mem_singleton.1 hq]; exact l0_vs⟩
theorem l0_max : maxCl 2 [lC0] = [lC0] := by
 have e : baseCl [lC0] = [lC0] := by
  unfold baseCl
  have e1 : ascFC ([lC0].map normC) = [lC0] := List.perm_singleton.1 (asc_permC _)
  rw [e1]
  exact uniqC_short (by decide)
 unfold maxCl
 rw [e]
 decide +kernel
theorem l0_rules : ∀ r ∈ lM0.rules, 0 <= r.channel /\ r.channel < lM0.places.length /\ 0 <= r.letter /\ r.letter < lM0.letters.length := fun r hr => by
 have : r = lR0 := List.mem_singleton.1 hr
 rw [this]; decide
def expTree : Tr := .front 1 (.front 2 (.front 3 (.front 4 (.alt (.one 0 (.alt (.one 5 (.alt (.one 6 (.front 7 (.front 8 (.front 9 (.front 10 (.one 11 (.one 12 (.one 13 (.one 14 .done))))))))) (.one 11 (.one 6 (.front 7 (.front 8 (.front 9 (.front 10 (.one 12 (.one 13 (.one 14 .done))))))))))) (.one 11 (.one 5 (.one 6 (.front 7 (.front 8 (.front 9 (.front 10 (.one 12 (.one 13 (.one 14 .done)))))))))))) (.alt (.one 5 (.alt (.one 0 (.alt (.one 6 (.front 7 (.front 8 (.front 9 (.front 10 (.one 11 (.one 12 (.one 13 (.one 14 .done))))))))) (.one 11 (.one 6 (.front 7 (.front 8 (.front 9 (.front 10 (.one 12 (.one 13 (.one 14 .done))))))))))) (.one 11 (.one 0 (.one 6 (.front 7 (.front 8 (.front 9 (.front 10 (.one 12 (.one 13 (.one 14 .done)))))))))))) (.one 11 (.alt (.one 0 (.one 5 (.one 6 (.front 7 (.front 8 (.front 9 (.front 10 (.one 12 (.one 13 (.one 14 .done)))))))))) (.one 5 (.one 0 (.one 6 (.front 7 (.front 8 (.front 9 (.front 10 (.one 12 (.one 13 (.one 14 .done)))))))))))))))))
theorem l0_begin : Con Tryz.prog 35 [vM lM0] [] fun r _ => r = .tup [vCl 0 [[]], vi 0] :=
 con_lBegin lM0 [[]] (con_dealLossy l0_deal) rfl rfl (by decide) (by decide) (fun w hw => by rw [List.mem_singleton.1 hw]; exact ⟨by decide, fun x hx => by cases hx⟩)
theorem l0_looped (p : List TmD) (hv : ValidP 2 p) (hp : normP (normP p ++ [starT [0]]) = [⟨true, [0]⟩]) (hl : p.length <= 23) : Con Tryz.prog 44 [vM lM0, vCl 0 [p]] [] fun r _ => r = .tup [vCl 0 [[⟨true, [0]⟩]], vi 0] := by
 have := con_lloop lM0 0 [p] (l0_val p hv) l0_rules (by decide) (fun q hq => by rw [List.mem_singleton.1 hq]; exact hl)
 rw [l0_loop p hp] at this
 exact this
theorem l0_posted : Con Tryz.prog 45 [vM lM0, vi 0, vCl 0 [[⟨true, [0]⟩]]] [] fun r _ => r = .tup [vCl 0 [[⟨true, [0]⟩]], vb true, vi 0] := by
 have := con_lpost lM0 0 0 [[⟨true, [0]⟩]] l0_ok (by decide) (by decide) (by decide) (fun q hq => by rw [List.mem_singleton.1 hq]; decide)
 rw [l0_post] at this
 exact this
theorem l0_maxed : Con Tryz.prog 49 [vM lM0, .sl 0 2 [vCP lC0]] [] fun r _ => r = .tup [.sl 0 2 [vCP lC0], vi 0] := by
 have := con_lmaximise lM0 [lC0] (by decide) (by decide) (fun a ha => by rw [List.mem_singleton.1 ha]; exact l0_ok)
 rw [show (lM0.letters.length : Int) = 2 from rfl, l0_max] at this
 exact this
theorem l0_inside (f : FuncId) (hf : f = 47) : Con Tryz.prog 46 [.sl 0 2 [vCP lC0], .fn f [.fp (cM lM0) 0, .fp [vi 0, .sl 0 1 [vPr [⟨true, [0]⟩]]] 0]] [] fun r _ => r = .sc (.bool true) := by
 subst hf
 have := con_containsCl [lC0] 47 [.fp (cM lM0) 0, .fp [vi lC0.1, .sl 0 1 (lC0.2.map vPr)] 0] (fun b => clLeq lM0.letters.length lC0 b) (by simp only [go_sem, cM, vss]) (fun b hb => con_lexp1 lM0 lC0 b l0_ok (by rw [List.mem_singleton.1 hb]; exact l0_ok)) (by decide)
 have e : [lC0].any (fun b => clLeq lM0.letters.length lC0 b) = true := by
  show (clLeq 2 lC0 lC0 || false) = true
  rw [l0_leq]; rfl
 rw [e] at this
 exact this
theorem con_lexplore0 : Con Tryz.prog 11 [vM lM0, vi 9] [] fun r _ => r = .tup [.sl 0 2 [vCP lC0], vb true, vi 0] := by
  refine Con.frozX ?_
  refine Con.intro Tryz.func11 rfl Tryz.ntmps11 Tryz.results11 (by kernel_rfl) (by simp) 0 (by simp) ?_
  have c1 := l0_begin
  have c2 := l0_looped [] l0_vn (by decide +kernel) (by decide)
  have c3 := l0_posted
  have c4 := l0_looped [⟨true, [0]⟩] l0_vs (by decide +kernel) (by decide)
  have c5 := l0_inside _ rfl
  have c6 := l0_maxed
  simp only [vM, cM, vss, vCl, vCP, lC0, List.map_cons, List.map_nil] at c1 c2 c3 c4 c5 c6
  have hrl : lM0.rules.length = 1 := rfl
  simp only [go_sem, cM, vss]
  refine CallU.free c1 (by simp only [go_sem]) (by simp only [go_sem]) ?_
  rintro q bx rfl
  simp only [go_sem]
  refine CallU.free c2 (by simp only [go_sem]) (by simp only [go_sem]) ?_
  rintro q bx rfl
  simp only [go_sem, cM, vss]
  refine LoopK.intro (fun p : Nat => ⟨103, [(1, vi 9), (2, .pb 0 0), (10, .sl 2304 2 [.ag [vi 0, .sl 0 1 [vPr [⟨true, [0]⟩]]]]), (11, vi p)], cM lM0 :: [.any, .any] :: [.any, .any] :: Rk 2 p⟩)
    (fun p => 1 - p) (fun p => p <= 1) 0 (by omega) ?_ ?_
  · simp only [go_sem, cM, vss, Rk, List.replicate_zero]
  have hR1 : Rk 2 1 = [[.any, .any]] := rfl
  have hw1 : IntKind.i64.wrap 1 = 1 := wrap_in (by omega) (by omega)
  rintro p hp
  obtain rfl | rfl : p = 0 \/ p = 1 := by omega
  case inr =>
    simp only [go_sem, cM, vss, hR1]
    refine CallU.freeze c6 (by simp only [go_sem]) (by simp only [go_sem]) ?_
    rintro q bx rfl
    simp only [go_sem]
    exact leV_refl _
  simp only [go_sem, cM, vss, Rk, List.replicate_zero]
  refine LoopK.intro (fun k : Nat => ⟨103, [(1, vi 9), (2, .pb 0 0), (10, .sl 2304 2 [.ag [vi 0, .sl 0 1 [vPr [⟨true, [0]⟩]]]]), (11, vi 0), (48, .sl 0 14 (lM0.rules.map vRule)), (49, vi lM0.rules.length), (50, vi k)], cM lM0 :: [.any, .any] :: [.any, .any] :: Rk 2 k⟩)
    (fun k => 1 - k) (fun k => k <= 1) 0 (by omega) ?_ ?_
  · simp only [go_sem, cM, vss, Rk, List.replicate_zero]
  rintro k hk
  obtain rfl | rfl : k = 0 \/ k = 1 := by omega
  case inr =>
    simp only [go_sem, cM, vss, hR1, hrl, hw1]
    refine roundK.intro 1 (by omega) (by omega) ?_
    simp only [go_sem, cM, vss, hR1]
  simp only [go_sem, cM, vss, Rk, hrl, List.replicate_zero]
  refine DrawK.meet ⟨103, [(1, vi 9), (2, .pb 0 0), (10, .sl 2304 2 [.ag [vi 0, .sl 0 1 [vPr [⟨true, [0]⟩]]]]), (11, vi 0), (13, .pb 3 0), (14, vb true), (15, vi 0), (48, .sl 0 14 (lM0.rules.map vRule)), (49, vi 1), (50, vi 0)], cM lM0 :: [.any, .any] :: [.any, .any] :: [[vi 0, .sl 0 1 [vPr [⟨true, [0]⟩]]]]⟩ ?_ ?_
  · refine DrawK.tree expTree mixed (by kernel_rfl) ?_
    unfold expTree
    simp only [go_sem, cM, vss]
    repeat' (first
      | with_reducible apply andK_mk
      | (refine CallU.free c3 (by simp only [go_sem]) (by simp only [go_sem]) ?_
         rintro r bx rfl
         simp only [go_sem, cM, vss])
      | simp only [go_sem, cM, vss])
  simp only [go_sem, cM, vss]
  refine CallU.free c4 (by simp only [go_sem]) (by simp only [go_sem]) ?_
  rintro q bx rfl
  simp only [go_sem, cM, vss]
  refine CallU.look c5 (by simp only [go_sem]) (by simp only [go_sem]) ?_
  rintro q bx rfl
  simp only [go_sem, hw1]
  refine roundK.intro 1 (by omega) (by omega) ?_
  simp only [go_sem, cM, vss, hR1]
  exact leV_refl _
theorem l0_in : clLeq 2 (0, [[]]) lC0 = true := by decide +kernel
theorem con_lholds0 : Con Tryz.prog 12 [vM lM0, .sl 0 2 [vCP lC0]] [] fun r _ => r = vi 0 := by
 refine Con.intro Tryz.func12 rfl Tryz.ntmps12 Tryz.results12 (by kernel_rfl) (by simp) 0 (by simp) ?_
 have hok : ∀ b ∈ [lC0], CloudOk lM0 b.1 b.2 := fun b hb => by rw [List.mem_singleton.1 hb]; exact l0_ok
 have c1 := l0_begin
 have c2 := con_lcheckAll lM0 [lC0] hok (by decide)
 have c3 := con_lhold1 lM0 [lC0] (0, [[]]) (l0_val [] l0_vn) hok (by decide)
 have c4 := l0_posted
 have c5 := con_lhold1 lM0 [lC0] lC0 l0_ok hok (by decide)
 have e3 : ([lC0].any fun b => clLeq lM0.letters.length (0, [[]]) b) = true := by
  show (clLeq 2 (0, [[]]) lC0 || false) = true
  rw [l0_in]; rfl
 have e5 : ([lC0].any fun b => clLeq lM0.letters.length lC0 b) = true := by
  show (clLeq 2 lC0 lC0 || false) = true
  rw [l0_leq]; rfl
 rw [e3] at c3
 rw [e5] at c5
 simp only [vM, cM, vss, vCl, vCP, lC0, List.map_cons, List.map_nil] at c1 c2 c3 c4 c5
 have hrl : lM0.rules.length = 1 := rfl
 simp only [go_sem, cM, vss, vCP, vCl, lC0, List.map_cons, List.map_nil]
 refine CallU.free c1 (by simp only [go_sem]) (by simp only [go_sem]) ?_
 rintro q bx rfl
 simp only [go_sem]
 refine CallU.free c2 (by simp only [go_sem]) (by simp only [go_sem]) ?_
 rintro q bx rfl
 simp only [go_sem]
 refine CallU.look c3 (by simp only [go_sem]) (by simp only [go_sem]) ?_
 rintro q bx rfl
 simp only [go_sem, cM, vss]
 have hR1 : Rk 2 1 = [[.any, .any]] := rfl
 have hw1 : IntKind.i64.wrap 1 = 1 := wrap_in (by omega) (by omega)
 refine LoopK.intro (fun p : Nat => ⟨69, [(2, .pb 0 0), (3, .pb 1 0), (8, .cl 51 [.pb 1 0, .pb 0 0]), (37, .sl 0 2 [.ag [vi 0, .sl 0 1 [vPr [⟨true, [0]⟩]]]]), (38, vi 1), (39, vi p)], cM lM0 :: [.sl 0 2 [.ag [vi 0, .sl 0 1 [vPr [⟨true, [0]⟩]]]]] :: [.any, .any] :: Rk 2 (2 * p)⟩)
  (fun p => 1 - p) (fun p => p <= 1) 0 (by omega) ?_ ?_
 ·simp only [go_sem, cM, vss, Nat.mul_zero, Rk, List.replicate_zero]
 rintro p hp
 obtain rfl | rfl : p = 0 \/ p = 1 := by omega
 case inr =>
  simp only [go_sem, cM, vss, Rk]
 simp only [go_sem, cM, vss, Nat.mul_zero, Rk, List.replicate_zero]
 refine LoopK.intro (fun k : Nat => ⟨69, [(2, .pb 0 0), (3, .pb 1 0), (8, .cl 51 [.pb 1 0, .pb 0 0]), (10, .pb 3 0), (37, .sl 0 2 [.ag [vi 0, .sl 0 1 [vPr [⟨true, [0]⟩]]]]), (38, vi 1), (39, vi 0), (44, .sl 0 14 (lM0.rules.map vRule)), (45, vi 1), (46, vi k)], cM lM0 :: [.sl 0 2 [.ag [vi 0, .sl 0 1 [vPr [⟨true, [0]⟩]]]]] :: [.any, .any] :: [vi 0, .sl 0 1 [vPr [⟨true, [0]⟩]]] :: Rk 2 k⟩)
  (fun k => 1 - k) (fun k => k <= 1) 0 (by omega) ?_ ?_
 ·simp only [go_sem, cM, vss, hrl, Rk, List.replicate_zero]
 rintro k hk
 obtain rfl | rfl : k = 0 \/ k = 1 := by omega
 case inr =>
  simp only [go_sem, cM, vss, hR1, hw1]
  refine roundK.intro 1 (by omega) (by omega) ?_
  have hR2 : Rk 2 (2 * 1) = [[.any, .any], [.any, .any]] := rfl
  simp only [go_sem, cM, vss, hR2]
 simp only [go_sem, cM, vss, Rk, List.replicate_zero]
 refine CallU.free c4 (by simp only [go_sem]) (by simp only [go_sem]) ?_
 rintro q bx rfl
 simp only [go_sem, cM, vss]
 refine CallU.look c5 (by simp only [go_sem]) (by simp only [go_sem]) ?_
 rintro q bx rfl
 simp only [go_sem, hw1]
 refine roundK.intro 1 (by omega) (by omega) ?_
 simp only [go_sem, cM, vss, hR1]
def lA0 : AV := .ag [vi 2, .sl 0 1 [vStr ⟨#[97]⟩], .sl 0 1 [vStr ⟨#[120]⟩], .sl 0 1 [vStr ⟨#[112]⟩, vStr ⟨#[113]⟩], .nil, vi 0, vi 0, .sl 0 14 [chanN lR0], vi 0, .sl 0 2 [kidN 0, kidN 0]]
def lT0 (w : List Int) : AV := .ag [vi 0, .sl 0 2 [kidN 0, .ag [vi 0, .sl 0 2 (w.map kidN)]]]
theorem lA0_le : leV lA0 (vM lM0) := by
 unfold lA0 vM cM
 refine leV_ag ⟨leV_refl _, leV_refl _, leV_refl _, leV_refl _, leV_nil 0 1, leV_refl _, leV_refl _, ?_, leV_refl _, ?_, trivial⟩
 ·exact leV_slE rfl (fun y hy => by obtain ⟨x, _, rfl⟩ := List.mem_map.1 hy; rfl) (chan_pw [lR0] l0_deal.rules)
 ·exact leV_slE rfl (fun y hy => by
   obtain ⟨x, _, rfl⟩ := List.mem_map.1 hy
   rw [vV_eq]; rfl) (kids_pw [0, 0])
theorem lT0_le (w : List Int) : leV (lT0 w) (vV (chanV 0 [w])) := by
 rw [vV_eq]
 exact leV_ag ⟨leV_refl _, kids_le 0 [w], trivial⟩
theorem l0_Valid (w : List Int) (hw : w.length <= 2 /\ ∀ x ∈ w, 0 <= x /\ x < (2 : Nat)) : Con Tryz.prog 55 [vM lM0, vV (chanV 0 [w])] [] fun r _ => r = vb true := by
 have := con_ValidG lM0 (chanV 0 [w]) l0_deal.len (chanV_ok (by simp) fun x hx => by rw [List.mem_singleton.1 hx]; omega)
 have e : confG lM0 (chanV 0 [w]) = true := by
  unfold confG
  rw [show checkF lM0 = 0 from l0_deal.check, decide_eq_true rfl, Bool.true_and]
  exact chan_valid (ns := 1) (np := 1) (nl := 2) (by omega) (by omega) (by omega) (by omega) ⟨rfl, fun x hx => by rw [List.mem_singleton.1 hx]; exact hw⟩ [lR0] [[]]
 rw [e] at this
 exact this
theorem l0_excl (w : List Int) (hw : w.length <= 2 /\ ∀ x ∈ w, 0 <= x /\ x < (2 : Nat)) : Con Tryz.prog 14 [lA0, .sl 0 2 [vCP lC0], lT0 w] [] fun r _ => r = .tup [vb (!hasCl 2 lC0 0 [w]), vi 0] := by
 have := con_lExcludes lM0 [lC0] 0 [w] (con_dealLossy l0_deal) (fun a ha => by rw [List.mem_singleton.1 ha]; exact l0_ok) (by decide) (l0_Valid w hw) rfl (fun x hx => by rw [List.mem_singleton.1 hx]; omega)
 have e : ([lC0].any fun a => hasCl lM0.letters.length a 0 [w]) = hasCl 2 lC0 0 [w] := by
  show (hasCl 2 lC0 0 [w] || false) = _
  rw [Bool.or_false]
 rw [e] at this
 exact this.leA ⟨lA0_le, leV_refl _, lT0_le w, trivial⟩
theorem l0_h1 : hasCl 2 lC0 0 [[1]] = false := by decide +kernel
theorem l0_h2 : hasCl 2 lC0 0 [[0, 0]] = true := by decide +kernel
theorem con_lsane : Con Tryz.prog 8 [] [] fun r _ => r = vb true := by
 refine Con.intro Tryz.func8 rfl Tryz.ntmps8 Tryz.results8 (by kernel_rfl) (by simp) 0 (by simp) ?_
 have c1 := con_lexplore0.leA (args' := [lA0, vi 9]) ⟨lA0_le, leV_refl _, trivial⟩
 have c2 := l0_excl [1] ⟨by decide, fun x hx => by rw [List.mem_singleton.1 hx]; omega⟩
 have c3 := l0_excl [0, 0] ⟨by decide, fun x hx => by simp only [List.mem_cons, List.not_mem_nil, or_false, or_self] at hx; omega⟩
 have c4 := con_lholds0.leA (args' := [lA0, .sl 0 2 [vCP lC0]]) ⟨lA0_le, leV_refl _, trivial⟩
 rw [l0_h1] at c2
 rw [l0_h2] at c3
 simp only [lA0, lT0, chanN, lR0, chanR, vCP, vCl, lC0, List.map_cons, List.map_nil] at c1 c2 c3 c4
 simp only [go_sem]
 refine CallU.freeze c1 (by simp only [go_sem]) (by simp only [go_sem]) ?_
 rintro r bx rfl
 simp only [go_sem]
 refine CallU.freeze c2 (by simp only [go_sem]) (by simp only [go_sem]) ?_
 rintro r bx rfl
 simp only [go_sem]
 refine CallU.freeze c3 (by simp only [go_sem]) (by simp only [go_sem]) ?_
 rintro r bx rfl
 simp only [go_sem]
 refine CallU.freeze c4 (by simp only [go_sem]) (by simp only [go_sem]) ?_
 rintro r bx rfl
 simp only [go_sem]
theorem drawL_ok {l : List Int} {n : Nat} (hn : 1 <= n) : ∀ (k : Nat) {a : Nat}, a <= l.length -> (drawL l n k a).1.length = k /\ (∀ x ∈ (drawL l n k a).1, 0 <= x /\ x < n) /\ (drawL l n k a).2 <= l.length
 | 0, a, ha => ⟨rfl, fun x hx => absurd hx (by simp [drawL]), ha⟩
 | k + 1, a, ha => by
  obtain ⟨h1, h2, h3⟩ := drawL_ok hn k ha
  have hv := pickV_lt (l := l) (at_ := (drawL l n k a).2) (n := n) (by omega)
  have hp := pickA_le h3
  refine ⟨by simp only [drawL, List.length_append, h1, List.length_cons, List.length_nil], fun x hx => ?_, by simp only [drawL]; exact hp⟩
  simp only [drawL, List.mem_append, List.mem_singleton] at hx
  rcases hx with hx | hx
  ·exact h2 x hx
  ·rw [hx]; exact hv
theorem drawWs_ok {l : List Int} {n most : Nat} (hn : 1 <= n) : ∀ (i : Nat) {a : Nat}, a <= l.length -> (drawWs l n most i a).1.length = i /\ (∀ w ∈ (drawWs l n most i a).1, w.length <= most /\ ∀ x ∈ w, 0 <= x /\ x < n) /\ (drawWs l n most i a).2 <= l.length
 | 0, a, ha => ⟨rfl, fun x hx => absurd hx (by simp [drawWs]), ha⟩
 | i + 1, a, ha => by
  obtain ⟨h1, h2, h3⟩ := drawWs_ok (most := most) hn i ha
  have hv := pickV_lt (l := l) (at_ := (drawWs l n most i a).2) (n := most + 1) (by omega)
  have hp := pickA_le h3
  obtain ⟨g1, g2, g3⟩ := drawL_ok hn (pickV l (drawWs l n most i a).2 (most + 1)).toNat hp
  refine ⟨by simp only [drawWs, List.length_append, h1, List.length_cons, List.length_nil], fun w hw => ?_, by simp only [drawWs]; exact g3⟩
  simp only [drawWs, List.mem_append, List.mem_singleton] at hw
  rcases hw with hw | hw
  ·exact h2 w hw
  ·rw [hw]; exact ⟨by rw [g1]; omega, g2⟩
theorem drawP_ok {l : List Int} {nl : Nat} (hn : 1 <= nl) : ∀ (k : Nat) {a : Nat}, a <= l.length -> LawP nl k (drawP l nl k a).1 /\ (drawP l nl k a).2 <= l.length
 | 0, a, ha => ⟨⟨Nat.zero_le _, fun x hx => absurd hx (by simp [drawP])⟩, ha⟩
 | k + 1, a, ha => by
  obtain ⟨h1, h2⟩ := drawP_ok hn k ha
  have hv := pickV_lt (l := l) (at_ := (drawP l nl k a).2) (n := nl) (by omega)
  exact ⟨by simp only [drawP]; exact h1.snoc hv, by simp only [drawP]; exact pickA_le (pickA_le h2)⟩
theorem drawC_ok {l : List Int} {nl : Nat} (hn : 1 <= nl) : ∀ (i : Nat) {a : Nat}, a <= l.length -> (drawC l nl i a).1.length = i /\ (∀ p ∈ (drawC l nl i a).1, LawP nl 3 p) /\ (drawC l nl i a).2 <= l.length
 | 0, a, ha => ⟨rfl, fun x hx => absurd hx (by simp [drawC]), ha⟩
 | i + 1, a, ha => by
  obtain ⟨h1, h2, h3⟩ := drawC_ok hn i ha
  have hv := pickV_lt (l := l) (at_ := (drawC l nl i a).2) (n := 4) (by omega)
  obtain ⟨g1, g2⟩ := drawP_ok hn (pickV l (drawC l nl i a).2 4).toNat (pickA_le h3)
  refine ⟨by simp only [drawC, List.length_append, h1, List.length_cons, List.length_nil], fun p hp => ?_, by simp only [drawC]; exact g2⟩
  simp only [drawC, List.mem_append, List.mem_singleton] at hp
  rcases hp with hp | hp
  ·exact h2 p hp
  ·rw [hp]; exact ⟨by have := g1.few; omega, g1.ls⟩
theorem cloudW_ok {l : List Int} {at_ : Nat} {m : MD} (ha : at_ <= l.length) (h1 : 1 <= m.states.length) (hl : 1 <= m.letters.length) :
  LawC m.states.length m.places.length m.letters.length (pickV l at_ m.states.length) (cloudW l at_ m) /\ cloudA l at_ m <= l.length := by
 obtain ⟨g1, g2, g3⟩ := drawC_ok (l := l) hl m.places.length (pickA_le ha)
 exact ⟨⟨pickV_lt (by omega), g1, g2⟩, g3⟩
theorem con_words1 (l : List Int) (at_ : Nat) (n letters most : Nat) (hs : Seeds l) (ha : at_ <= l.length) (hn : n <= 1000) (hl : 1 <= letters /\ letters <= 1000) (hm : most <= 1000) :
  Con Tryz.prog 43 [.pb 0 0, vi n, vi letters, vi most] [diceA l at_]
  fun r b => r = .sl 0 2 ((drawWs l letters most n at_).1.map wordN) /\ b = [diceA l (drawWs l letters most n at_).2] :=
 ((con_dwordsF l at_ n letters most hs ha hn hl hm).freezeB fun _ => true).mono fun r b ⟨r1, b1, ⟨ws, at', e, _, _, _, h4, h5⟩, h6, h7⟩ => by
  rw [<- e]
  subst h4; subst h5; subst h6; subst h7
  exact ⟨rfl, rfl⟩
theorem con_lConfig0 (l : List Int) (at_ : Nat) (m : MD) (hs : Seeds l) (ha : at_ <= l.length) (hk : m.kind = 2) (h1 : 1 <= m.states.length /\ m.states.length <= 1000) (h2 : 1 <= m.places.length /\ m.places.length <= 1000) (h3 : 1 <= m.letters.length /\ m.letters.length <= 1000) :
  Con Tryz.prog 15 [.pb 0 0, vM m] [diceA l at_]
  fun r b => r = .ag [vi 0, .sl 2 2 (kidN (pickV l at_ m.states.length) :: (drawWs l m.letters.length 2 m.places.length (pickA l at_)).1.map wordN)] /\ b = [diceA l (drawWs l m.letters.length 2 m.places.length (pickA l at_)).2] := by
 refine Con.intro Tryz.func15 rfl Tryz.ntmps15 Tryz.results15 (by kernel_rfl) (by simp) 1 (by simp) ?_
 have ei := con_words1 l (pickA l at_) m.places.length m.letters.length 2 hs (pickA_le ha) h2.2 h3 (by omega)
 have hlw := (drawWs_ok (l := l) (most := 2) h3.1 m.places.length (pickA_le ha)).1
 unfold vM cM
 rw [hk]
 simp only [go_sem, vss]
 refine DrawK.effs0 0 [4, 14] [] 15 (.one 15 (.one 16 (.one 17 .done))) none (diceA l at_) mixed (by kernel_rfl) (by kernel_rfl) (by simp only [go_sem]) (by simp only [go_sem]) ?_
 simp only [go_sem, List.length_map]
 refine EffK.mk (con_pickF l at_ m.states.length hs ha (by omega)) (by simp only [go_sem]) (by simp only [go_sem]) (by simp only [go_sem]) (by simp only [go_sem]) ?_
 simp only [go_sem, List.length_map]
 refine EffK.mk ei (by simp only [go_sem]) (by simp only [go_sem]) (by simp only [go_sem]) (by simp only [go_sem]) ?_
 simp only [go_sem]
 refine ⟨⟨by simp only [roomFor, List.length_map, hlw]; omega, ?_⟩, trivial⟩
 rw [hlw]; omega
theorem con_lConfig (l : List Int) (at_ : Nat) (m : MD) (hs : Seeds l) (ha : at_ <= l.length) (hk : m.kind = 2) (h1 : 1 <= m.states.length /\ m.states.length <= 1000) (h2 : 1 <= m.places.length /\ m.places.length <= 1000) (h3 : 1 <= m.letters.length /\ m.letters.length <= 1000) :
  Con Tryz.prog 15 [.pb 0 0, vM m] [diceA l at_]
  fun r b => r = vV (chanV (pickV l at_ m.states.length) (drawWs l m.letters.length 2 m.places.length (pickA l at_)).1) /\ b = [diceA l (drawWs l m.letters.length 2 m.places.length (pickA l at_)).2] :=
 ((con_lConfig0 l at_ m hs ha hk h1 h2 h3).freezeB fun _ => true).weak fun r b ⟨r1, b1, ⟨h1, h2⟩, h3, h4⟩ => by
  subst h1; subst h2; subst h3; subst h4
  refine ⟨_, ⟨rfl, rfl⟩, ?_⟩
  rw [vV_eq]
  exact leV_ag ⟨leV_refl _, kids_le _ _, trivial⟩
theorem LawC.ok {m : MD} {s : Int} {W : List (List TmD)} (h : LawC m.states.length m.places.length m.letters.length s W) (hn : 1 <= m.letters.length /\ m.letters.length <= 6) (hf : m.places.length <= 1000) : CloudOk m s W :=
 ⟨h.st, h.len, fun p hp => (h.ws p hp).valid (by omega) (by omega), ⟨hf, by omega⟩⟩
end Go.AM

namespace Go.Proofs.YtebcmlhgfmkpnaaGreat
open Go.ChangeShapes Go.WideShapes Go.ChangeAt Go.RowKit Go.AM
theorem own : ownKnob Tryz.prog.godebug = none := by kernel_rfl
theorem laidOut : laidOutB Tryz.prog = true := by kernel_rfl
theorem read22 : Tryz.prog.readableRec 22 = true /\ 22 < Tryz.prog.types.size := ⟨by kernel_rfl, of_decide_eq_true (by kernel_rfl)⟩
theorem reads22 (n : Nat) : ∀ t ∈ List.replicate n 22, Tryz.prog.readableRec t = true /\ t < Tryz.prog.types.size := fun t ht => by rw [List.eq_of_mem_replicate ht]; exact read22
section
variable {H : Type} {enc : TypeId × Value -> H} {P : Program} {w : World} {base : Nat} {spare : Nat -> Bool} {held : Bool}
def numU (d : DataW H) : Int := IntKind.u8.wrap (numI d)
theorem numU_range (d : DataW H) : 0 <= numU d /\ numU d < 256 := by unfold numU; rw [IntKind.wrap_u8]; omega
theorem stands_u8 {e : TypeId} (he : P.underlying e = some (.int .u8)) : Stands enc P w base spare held e fun d => vu (numU d) := by
 intro n v d ps h
 obtain ⟨x, e0, e1, wx⟩ := DataW.trod_int he h
 simp only [List.cons.injEq, and_true] at e0
 simp only [Prod.mk.injEq] at e1
 obtain ⟨rfl, _⟩ := e1
 subst e0
 have e2 : numU (.lit (.int .u8 x) : DataW H) = x := by
  have : IntKind.u8.wrap x = x := by
   have h1 : 0 <= x /\ x <= 255 := by simpa [Lit.wf, IntKind.min, IntKind.max, IntKind.signed, IntKind.bits] using wx
   rw [IntKind.wrap_u8]; omega
  exact this
 simp only [e2, vu]
 exact ⟨.sc _, rfl, rfl⟩
theorem row_len {α : Type} {t e : TypeId} {f : DataW H -> α} {v : Value} {d : DataW H} {ps : List MemPlace} (ht : P.underlying t = some (.slice e)) (hc : P.cellsOf e = 1) (h1 : v.cells.toList = [v]) (h : DataW.Trod enc P w base spare held t v d ps) : (rowOf f d).length <= 9223372036854775807 := by
 obtain ⟨n, h⟩ := h
 rw [h1] at h
 rcases Go.Deep.open_slice1 ht hc h with ⟨_, h2⟩ | ⟨a, len, cap, m, n', V, D, Pl, _, _, hl, hm, _, h2, _⟩
 ·simp only [Prod.mk.injEq] at h2
  obtain ⟨rfl, _⟩ := h2
  simp [rowOf]
 ·simp only [Prod.mk.injEq] at h2
  obtain ⟨rfl, _⟩ := h2
  simp only [rowOf, List.length_map, List.length_range]
  unfold maxLen at hm; omega
theorem rowU_range (d : DataW H) : ∀ x ∈ rowOf numU d, 0 <= x /\ x < 256 := fun x hx => by
 cases d <;> simp only [rowOf, List.not_mem_nil] at hx
 obtain ⟨y, _, rfl⟩ := List.mem_map.1 hx
 exact numU_range y
end
end Go.Proofs.YtebcmlhgfmkpnaaGreat
