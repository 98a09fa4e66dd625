/-
 BranchingChains: rules of at most one premise, as a plain law.
-/
import Derived.Test.YtiklkcjkmhkgjaaGreatX1
namespace Go.AM
open Go Go.Proofs Go.RowKit
def oneR (r : RD) : RD := { r with second := -1 }
def oneM (m : MD) : MD := { m with rules := m.rules.map oneR }
theorem right_one {m : MD} {r : RD} (hk : m.kind = 6) (h : rightR m r = true) : rightR (oneM m) (oneR r) = true := by
 have ke : (oneM m).kind = 6 := hk
 have e : ∀ q : RD, onlyR 6 q = ⟨q.name, q.src, q.dst, q.need, q.give, [], 0, 0, 0, [], [], [], [], q.second⟩ := fun q => by
  unfold onlyR
  rw [if_neg (by decide), if_neg (by decide), if_neg (by decide), if_neg (by decide)]
 unfold rightR at h ⊢
 rw [hk, e] at h
 rw [ke, e]
 simp only [Bool.and_eq_true] at h ⊢
 obtain ⟨⟨h1, h2⟩, h3⟩ := h
 refine ⟨⟨h1, ?_⟩, ?_⟩
 ·unfold fitsR at h2 ⊢
  rw [if_neg (by omega), if_neg (by omega), if_neg (by omega), if_neg (by omega)] at h2 ⊢
  unfold branchB at h2 ⊢
  simp only [Bool.and_eq_true] at h2 ⊢
  obtain ⟨⟨a, _⟩, c⟩ := h2
  refine ⟨⟨a, rfl⟩, ?_⟩
  simp only [Bool.or_eq_true, Bool.and_eq_true] at c ⊢
  rcases c with c | ⟨_, c⟩
  ·exact .inl c
  ·exact .inr ⟨rfl, c⟩
 ·unfold sameB at h3 ⊢
  simp only [Bool.and_eq_true] at h3 ⊢
  exact ⟨h3.1, beq_self_eq_true _⟩
theorem kind_one {m : MD} (h : kindF m = 0) : kindF (oneM m) = 0 := by
 obtain ⟨hc, hk⟩ := kind_six h
 obtain ⟨c1, c2, c3, c4, c5, c6⟩ := checkF_zero hc
 have e2 : sizedB (oneM m) = true := by
  have : (oneM m).rules.length = m.rules.length := List.length_map ..
  unfold sizedB at c2 ⊢
  rw [this]; exact c2
 have e4 : namesB (namesOf (oneM m)) = true := by
  have : namesOf (oneM m) = namesOf m := by
   unfold namesOf
   show m.states ++ m.places ++ m.letters ++ (m.rules.map oneR).map RD.name = _
   rw [List.map_map]; rfl
  rw [this]; exact c4
 have e5 : ¬ ((oneM m).rules.any fun r => !rightR (oneM m) r) = true := by
  rw [List.any_eq_true]
  rintro ⟨r, hr, hb⟩
  obtain ⟨q, hq, rfl⟩ := List.mem_map.1 hr
  rw [right_one hk (c5 q hq)] at hb; cases hb
 have e1 : betweenB (oneM m).kind 1 6 = true := c1
 have e3 : rankedB (oneM m) = true := c3
 have e6 : beginsF (oneM m) = true := by
  unfold beginsF at c6 ⊢
  rw [if_pos hk] at c6
  rw [if_pos (show (oneM m).kind = 6 from hk)]
  exact c6
 have e : checkF (oneM m) = 0 := by
  unfold checkF
  rw [e1, e2, e3, e4, e6, if_neg (by simp), if_neg (by simp), if_neg (by simp), if_neg (by simp), if_neg e5, if_neg (by simp)]
 unfold kindF
 rw [e, if_neg (fun h => h rfl), if_neg (fun h => h hk)]
theorem len_oneR {r : RD} (h : LenR r) : LenR (oneR r) := ⟨⟨h.len.need, h.len.give, h.len.move, h.len.path, h.len.next, h.len.takes, h.len.makes⟩, h.path, h.next⟩
theorem len_one {m : MD} (h : LenM m) : LenM (oneM m) := by
 have e : namesOf (oneM m) = namesOf m := by
  unfold namesOf
  show m.states ++ m.places ++ m.letters ++ (m.rules.map oneR).map RD.name = _
  rw [List.map_map]; rfl
 refine ⟨by rw [e]; exact h.names, by rw [e]; exact h.sizes, h.ranks, fun r hr => ?_, h.start⟩
 obtain ⟨q, hq, rfl⟩ := List.mem_map.1 hr
 exact len_oneR (h.rules q hq)
def LowS (np j : Nat) (s : Int × List Int) : Prop := s.2.length = np /\ ∀ p, p < np -> 0 <= s.2[p]! /\ s.2[p]! <= 16 * j
structure ChaR (np : Nat) (r : RD) : Prop where
 bra : BrR np r
 low : ∀ p, p < np -> r.give[p]! <= 16
 one : r.second < 0
theorem ChaR.prem {np : Nat} {r : RD} (h : ChaR np r) : premB r = [] \/ premB r = [r.src] := by
 unfold premB
 split
 ·exact .inl rfl
 ·exact .inr (if_pos h.one)
theorem app_lim {n : Nat} {r : RD} {l : List (Int × List Int)} (h : appB n r l = .limit) : ∃ p, p < n /\ 1048576 < sumB l p - r.need[p]! + r.give[p]! := by
 unfold appB at h
 split at h
 ·cases h
 ·split at h
  ·cases h
  ·split at h
   ·rename_i h3
    obtain ⟨x, hx, hd⟩ := List.any_eq_true.1 h3
    unfold outB21 at hx
    obtain ⟨p, hp, rfl⟩ := List.mem_map.1 hx
    exact ⟨p, List.mem_range.1 hp, of_decide_eq_true hd⟩
   ·cases h
theorem sum_one {np j : Nat} {l : List (Int × List Int)} (hl : l = [] \/ ∃ t, l = [t] /\ LowS np j t) {p : Nat} (hp : p < np) : 0 <= sumB l p /\ sumB l p <= 16 * j := by
 rcases hl with rfl | ⟨t, rfl, ht⟩
 ·simp only [sumB]; omega
 ·have := ht.2 p hp
  simp only [sumB]; omega
theorem out_at {np p : Nat} {r : RD} {l : List (Int × List Int)} (hp : p < np) : (outB21 np r l)[p]! = sumB l p - r.need[p]! + r.give[p]! := rangeB_at hp
theorem app_low {np j : Nat} {r : RD} {l : List (Int × List Int)} {s : Int × List Int} (hr : ChaR np r) (hl : l = [] \/ ∃ t, l = [t] /\ LowS np j t) (h : appB np r l = .ok s) : LowS np (j + 1) s := by
 obtain ⟨_, h2, rfl, _⟩ := app_ok h
 refine ⟨by unfold outB21; simp, fun p hp => ?_⟩
 rw [out_at hp]
 have a := h2 p hp
 have b := hr.bra.lowG p hp
 have c := hr.low p hp
 have d := sum_one hl hp
 have e := hr.bra.lowN p hp
 omega
theorem app_nolim {np j : Nat} {r : RD} {l : List (Int × List Int)} (hj : j <= 3) (hr : ChaR np r) (hl : l = [] \/ ∃ t, l = [t] /\ LowS np j t) : appB np r l ≠ .limit := fun h => by
 obtain ⟨p, hp, h1⟩ := app_lim h
 have c := hr.low p hp
 have d := sum_one hl hp
 have e := hr.bra.lowN p hp
 omega
theorem tup_one {np k : Nat} {r : RD} {sz : Nat -> List (Int × List Int)} (_hk : 1 <= k) (hr : ChaR np r) (hs : ∀ j s, s ∈ sz j -> LowS np j s) : (tupB sz k (ruBra np r)).length <= max 1 (sz (k - 1)).length /\ ∀ x ∈ tupB sz k (ruBra np r), ∃ l, x = appB np r l /\ (l = [] \/ ∃ t, l = [t] /\ LowS np (k - 1) t) := by
 unfold tupB ruBra
 rcases hr.prem with h | h
 ·rw [h]
  simp only [List.length_nil, if_true]
  split
  ·exact ⟨by simp; omega, fun x hx => by rw [List.mem_singleton] at hx; exact ⟨[], hx, .inl rfl⟩⟩
  ·exact ⟨by simp, fun x hx => by cases hx⟩
 ·rw [h]
  simp only [List.length_cons, List.length_nil, Nat.zero_add, Nat.one_ne_zero, if_true, if_false]
  refine ⟨by rw [List.length_map]; omega, fun x hx => ?_⟩
  obtain ⟨t, ht, rfl⟩ := List.mem_map.1 hx
  exact ⟨[t], rfl, .inr ⟨t, rfl, hs _ t ht⟩⟩
theorem cha_step {np n k : Nat} {rs : List RD} (hk : 1 <= k) (hk3 : k <= 3) (hr : ∀ r ∈ rs, ChaR np r) (h4 : rs.length <= 4) {F : FamB (Int × List Int) CV} (hs : ∀ j s, s ∈ F.sizes j -> LowS np j s)
  (hn1 : 1 <= n) (hn : (F.sizes (k - 1)).length <= n) (hf : F.known.length + 4 * n <= 256) (h0 : F.sizes k = []) :
  (stageB valB insV F k (rs.map (ruBra np))).2 = false /\ (stageB valB insV F k (rs.map (ruBra np))).1.known.length <= F.known.length + 4 * n /\ ((stageB valB insV F k (rs.map (ruBra np))).1.sizes k).length <= 4 * n /\ ∀ j s, s ∈ (stageB valB insV F k (rs.map (ruBra np))).1.sizes j -> LowS np j s := by
 have hi : InsOk insV := ins_mem
 have hl : InsLen insV := ins_len
 have hm : rs.length * n <= 4 * n := Nat.mul_le_mul_right n h4
 have hml : (rs.map (ruBra np)).length = rs.length := List.length_map ..
 obtain ⟨a, b, c⟩ := stage_fine (val := valB) hl hi (k := k) (n := n) hk (rs.map (ruBra np)) F (fun q hq => by
  obtain ⟨r, hr', rfl⟩ := List.mem_map.1 hq
  obtain ⟨t1, t2⟩ := tup_one hk (hr r hr') hs
  refine ⟨by omega, fun x hx => ?_⟩
  obtain ⟨l, rfl, hl⟩ := t2 x hx
  exact app_nolim (j := k - 1) (by omega) (hr r hr') hl) (by rw [hml]; omega)
 rw [hml] at b c
 rw [h0] at c
 refine ⟨a, by omega, by simpa using Nat.le_trans c (by simpa using hm), fun j s hsj => ?_⟩
 by_cases hj : j = k
 ·subst hj
  rcases stage_new hi hk _ F s hsj with h | ⟨q, hq, h⟩
  ·rw [h0] at h; cases h
  ·obtain ⟨r, hr', rfl⟩ := List.mem_map.1 hq
   obtain ⟨_, t2⟩ := tup_one hk (hr r hr') hs
   obtain ⟨l, e, hl⟩ := t2 _ h
   have := app_low (hr r hr') hl e.symm
   rwa [show j - 1 + 1 = j by omega] at this
 ·rw [(stage_more hi (val := valB) k (rs.map (ruBra np)) F).same j hj] at hsj
  exact hs j s hsj
structure ChaF (np k a b : Nat) (F : FamB (Int × List Int) CV × Bool) : Prop where
 fine : F.2 = false
 few : F.1.known.length <= a
 size : (F.1.sizes k).length <= b
 low : ∀ j s, s ∈ F.1.sizes j -> LowS np j s
theorem cha_next {m : MD} (hr : ∀ r ∈ m.rules, ChaR m.places.length r) (h4 : m.rules.length <= 4) {k a b : Nat} (hk3 : k + 1 <= 3) (hb : 1 <= b) (hab : a + 4 * b <= 256) (h : ChaF m.places.length k a b (famM m k)) : ChaF m.places.length (k + 1) (a + 4 * b) (4 * b) (famM m (k + 1)) := by
 have h0 : (famM m k).1.sizes (k + 1) = [] := (all_inv (ins_mem (cmp := cmpV)) k h.fine).none (k + 1) (by omega)
 have := h.few
 have hs := cha_step (np := m.places.length) (n := b) (k := k + 1) (rs := m.rules) (by omega) hk3 hr h4 h.low hb h.size (by omega) h0
 rw [famM_succ m k h.fine]
 exact ⟨hs.1, by have := hs.2.1; omega, hs.2.2.1, hs.2.2.2⟩
theorem cha_fam {m : MD} (hr : ∀ r ∈ m.rules, ChaR m.places.length r) (h4 : m.rules.length <= 4) : ChaF m.places.length 2 20 16 (famM m 2) /\ ChaF m.places.length 3 84 64 (famM m 3) := by
 have c0 : ChaF m.places.length 0 0 1 (famM m 0) := ⟨rfl, Nat.le_refl _, Nat.zero_le _, fun j s hs => by cases hs⟩
 have c1 := cha_next hr h4 (by omega) (by omega) (by omega) c0
 have c2 := cha_next hr h4 (by omega) (by omega) (by omega) c1
 have c3 := cha_next hr h4 (by omega) (by omega) (by omega) c2
 exact ⟨c2, c3⟩
structure KOk (np : Nat) (c : CV) : Prop where
 len : c.kids.length = np + 1
 num : ∀ p, p < np -> 0 <= (c.kids[p + 1]!).n /\ (c.kids[p + 1]!).n <= 48
 ok : c.Ok
def ChaP (np : Nat) (r : RD) (y x : CV) : Prop := r.src = (y.kids[0]!).n /\ r.dst = (x.kids[0]!).n /\ ∀ p, p < np -> r.need[p]! <= (y.kids[p + 1]!).n /\ (y.kids[p + 1]!).n - r.need[p]! + r.give[p]! = (x.kids[p + 1]!).n
theorem val_kid (s : Int × List Int) {p : Nat} (hp : p < s.2.length) : ((valB s).kids[p + 1]!).n = s.2[p]! := by
 have e : (valB s).kids = .mk s.1 [] :: s.2.map fun n => .mk n [] := rfl
 rw [e, getElem!_pos _ (p + 1) (by simp; omega), getElem!_pos s.2 p hp]
 simp
 rfl
theorem low_kok {np j : Nat} {s : Int × List Int} (hnp : np <= 1000) (hj : j <= 3) (h : LowS np j s) : KOk np (valB s) := by
 have hl := h.1
 refine ⟨by unfold valB; simp [CV.kids, hl], fun p hp => ?_, val_ok (by omega)⟩
 rw [val_kid s (by omega)]
 have := h.2 p hp
 omega
theorem cha_known {m : MD} {k a b : Nat} (hk : k <= 3) (hnp : m.places.length <= 1000) (h : ChaF m.places.length k a b (famM m k)) : ∀ c ∈ (famM m k).1.known, KOk m.places.length c := fun c hc => by
 obtain ⟨j, s, _, h2, h3, rfl⟩ := (all_inv (ins_mem (cmp := cmpV)) k h.fine).from_ c hc
 exact low_kok hnp (by omega) (h.low j s h3)
theorem val_inj {s t : Int × List Int} (h : valB s = valB t) : s = t := by
 unfold valB at h
 simp only [CV.mk.injEq, List.cons.injEq, true_and, and_true] at h
 have e : s.2 = t.2 := by
  have := congrArg (List.map CV.n) h.2
  rw [List.map_map, List.map_map] at this
  have f : (CV.n ∘ fun n : Int => CV.mk n []) = id := rfl
  rw [f, List.map_id, List.map_id] at this
  exact this
 exact Prod.ext h.1 e
theorem cha_from {m : MD} (hr : ∀ r ∈ m.rules, ChaR m.places.length r) (h4 : m.rules.length <= 4) {x : CV} (hx : x ∈ (famM m 3).1.known) : x ∈ (famM m 2).1.known \/ ∃ r ∈ m.rules, ∃ y ∈ (famM m 2).1.known, ChaP m.places.length r y x := by
 obtain ⟨c2, c3⟩ := cha_fam hr h4
 rcases chain_from (N := 2) (val := valB) (ins := insV) ins_mem (rs := m.rules.map (ruBra m.places.length)) (fun q hq => by
  obtain ⟨r, hr', rfl⟩ := List.mem_map.1 hq
  show (premB r).length <= 1
  rcases (hr r hr').prem with h | h <;> rw [h] <;> simp) (by omega) c3.fine hx with h | ⟨q, hq, hp, t, s, ht, hap, rfl⟩
 ·exact .inl h
 ·refine .inr ?_
  obtain ⟨r, hr', rfl⟩ := List.mem_map.1 hq
  refine ⟨r, hr', valB t, ht, ?_⟩
  have hap : appB m.places.length r [t] = .ok s := hap
  obtain ⟨h1, h2, rfl, _⟩ := app_ok hap
  obtain ⟨j, t', _, _, h3', h4'⟩ := (all_inv (ins_mem (cmp := cmpV)) 2 c2.fine).from_ _ ht
  have := val_inj h4'
  subst this
  have hlt := (c2.low j t' h3').1
  refine ⟨?_, rfl, fun p hp => ?_⟩
  ·rcases (hr r hr').prem with h | h
   ·rw [h] at h1; cases h1
   ·rw [h] at h1
    simp only [List.map_cons, List.map_nil, List.cons.injEq, and_true] at h1
    exact h1.symm
  ·rw [val_kid t' (by omega), val_kid _ (by unfold outB21; simpa using hp)]
   have e := h2 p hp
   rw [show (r.dst, outB21 m.places.length r [t']).2 = outB21 m.places.length r [t'] from rfl, out_at hp]
   simp only [sumB] at e ⊢
   exact ⟨by omega, by omega⟩
theorem cha_rules {m : MD} (h : kindF m = 0) : ∀ r ∈ (oneM m).rules, ChaR (oneM m).places.length r := fun r hr => by
 obtain ⟨hc, hk⟩ := kind_six (kind_one h)
 obtain ⟨_, _, _, _, c5, _⟩ := checkF_zero hc
 obtain ⟨a, b⟩ := right_six hk (c5 r hr)
 obtain ⟨q, _, rfl⟩ := List.mem_map.1 hr
 exact ⟨a, fun p hp => (b p hp).2, by show (-1 : Int) < 0; omega⟩
end Go.AM
