/-
  Plain laws: what the search for a word answers.
-/
import Derived.Test.YthmjnbmooedfjaaLd
namespace Go.AM

theorem small_of {a b : Sys} (ha : checkS a = 0) (hb : checkS b = 0) {p : TP} (h : p.2.1 = accF a p.1 ∧ p.2.2 = accF b p.1 ∧ p.2.2 ≠ []) : Small p := by
  have a2 := (checkS_ok ha).2.1
  have b2 := (checkS_ok hb).2.1
  refine ⟨fun i hi => ?_, fun i hi => ?_⟩
  · rw [h.1] at hi; have := (accF_among ha p.1).2 i hi; omega
  · rw [h.2.1] at hi; have := (accF_among hb p.1).2 i hi; omega

/-- during a round: the first labels have been looked at -/
structure Round (a b : Sys) (seen : List TP) (k : Nat) (p : TP) (rest : List Int) : Prop where
  met : Met a b seen k
  at_ : seen[k]? = some p
  got : ∀ lab ∈ labelsF a p.2.1, lab ∈ rest ∨ ∃ q ∈ seen, q.1.length ≤ p.1.length + 1 ∧ q.2.1 = afterF a p.2.1 lab ∧ q.2.2 = afterF b p.2.2 lab

theorem contains_key {a b : Sys} (ha : checkS a = 0) (hb : checkS b = 0) {seen : List TP} {k : Nat} (h : Met a b seen k) {n : TP} (hn : Small n) : (seen.map keyP).contains (keyP n) = true ↔ ∃ q ∈ seen, q.2 = n.2 := by
  rw [List.contains_iff_mem, List.mem_map]
  constructor
  · rintro ⟨q, hq, e⟩
    exact ⟨q, hq, keyP_inj (small_of ha hb (h.valid q hq)) hn e⟩
  · rintro ⟨q, hq, e⟩
    exact ⟨q, hq, by unfold keyP; rw [e]⟩

theorem Round.add {a b : Sys} (ha : checkS a = 0) (hb : checkS b = 0) {seen : List TP} {k : Nat} {p : TP} {lab : Int} {rest : List Int} (h : Round a b seen k p (lab :: rest)) (hne : (nextP a b p lab).2.2 ≠ []) (hno : ¬ ∃ q ∈ seen, q.2 = (nextP a b p lab).2) :
    Round a b (seen ++ [nextP a b p lab]) k p rest := by
  have hkl := (List.getElem?_eq_some_iff.1 h.at_).1
  have hpm : p ∈ seen := List.mem_of_getElem? h.at_
  have hv := h.met.valid p hpm
  refine ⟨⟨fun q hq => ?_, ?_, List.mem_append_left _ h.met.first, fun q hq l hl => ?_, fun q hq p' hp' => ?_, ?_⟩, by rw [List.getElem?_append_left hkl]; exact h.at_, fun l hl => ?_⟩
  · rcases List.mem_append.1 hq with hq | hq
    · exact h.met.valid q hq
    · simp at hq; subst hq
      exact ⟨by simp only [nextP]; rw [accF_snoc, ← hv.1], by simp only [nextP]; rw [accF_snoc, ← hv.2.1], hne⟩
  · rw [List.pairwise_append]
    refine ⟨h.met.sorted, by simp, fun q hq r hr => ?_⟩
    simp at hr; subst hr
    have := h.met.level q hq p h.at_
    simpa [nextP] using this
  · rw [List.take_append_of_le_length (by omega)] at hq
    obtain ⟨r, hr, g⟩ := h.met.done q hq l hl
    exact ⟨r, List.mem_append_left _ hr, g⟩
  · rw [List.getElem?_append_left hkl] at hp'
    rcases List.mem_append.1 hq with hq | hq
    · exact h.met.level q hq p' hp'
    · simp at hq; subst hq
      rw [h.at_] at hp'; cases hp'
      simp [nextP]
  · rw [List.pairwise_append]
    refine ⟨h.met.apart, by simp, fun q hq r hr => ?_⟩
    simp at hr; subst hr
    exact fun e => hno ⟨q, hq, e⟩
  · rcases h.got l hl with hm | ⟨q, hq, g⟩
    · rcases List.mem_cons.1 hm with rfl | hm
      · exact .inr ⟨_, List.mem_append_right _ (List.mem_singleton.2 rfl), by simp [nextP], rfl, rfl⟩
      · exact .inl hm
    · exact .inr ⟨q, List.mem_append_left _ hq, g⟩

theorem Round.skip {a b : Sys} {seen : List TP} {k : Nat} {p : TP} {lab : Int} {rest : List Int} (h : Round a b seen k p (lab :: rest)) (hyes : ∃ q ∈ seen, q.2 = (nextP a b p lab).2) : Round a b seen k p rest :=
  ⟨h.met, h.at_, fun l hl => by
    rcases h.got l hl with hm | hm
    · rcases List.mem_cons.1 hm with rfl | hm
      · obtain ⟨q, hq, e⟩ := hyes
        exact .inr ⟨q, hq, h.met.level q hq p h.at_, by rw [e]; rfl, by rw [e]; rfl⟩
      · exact .inl hm
    · exact .inr hm⟩

theorem Round.next {a b : Sys} {seen : List TP} {k : Nat} {p : TP} (h : Round a b seen k p []) : Met a b seen (k + 1) := by
  have hkl := (List.getElem?_eq_some_iff.1 h.at_).1
  refine ⟨h.met.valid, h.met.sorted, h.met.first, fun q hq l hl => ?_, fun q hq p' hp' => ?_, h.met.apart⟩
  · rw [List.take_add_one, h.at_] at hq
    rcases List.mem_append.1 hq with hq | hq
    · exact h.met.done q hq l hl
    · simp at hq; subst hq
      rcases h.got l hl with hm | hm
      · simp at hm
      · exact hm
  · have h1 := h.met.level q hq p h.at_
    have hl' := (List.getElem?_eq_some_iff.1 hp').1
    have h2 := List.pairwise_iff_getElem.1 h.met.sorted k (k + 1) hkl hl' (by omega)
    rw [List.getElem?_eq_getElem hl'] at hp'; cases hp'
    have h3 := h.at_
    rw [List.getElem?_eq_getElem hkl] at h3; cases h3
    omega

/-- what a round leaves -/
def InnerOk (a b : Sys) (k : Nat) (p : TP) (most : Nat) : TOut → Prop
  | .go todo met => ∃ seen, todo = seen.drop k ∧ met = seen.map keyP ∧ Round a b seen k p [] ∧ seen.length ≤ 4096 ∧ ∀ q ∈ seen, q.1.length ≤ most
  | .done w s e => (s = true ∧ e = 0 ∧ ∃ lab ∈ labelsF a p.2.1, w = p.1 ++ [lab] ∧ afterF b p.2.2 lab = []) ∨ (s = false ∧ e = 1 ∧ w = [] ∧ ∃ seen k, Met a b seen k ∧ 4096 ≤ seen.length ∧ ∀ q ∈ seen, q.1.length ≤ most)

theorem inner_ok {a b : Sys} (ha : checkS a = 0) (hb : checkS b = 0) {k : Nat} {p : TP} {most : Nat} (hm : p.1.length < most) : ∀ (rest : List Int) (seen : List TP), (∀ l ∈ rest, l ∈ labelsF a p.2.1) → Round a b seen k p rest → seen.length ≤ 4096 → (∀ q ∈ seen, q.1.length ≤ most) →
    InnerOk a b k p most (innerF a b p rest (seen.drop k) (seen.map keyP))
  | [], seen, _, h, h2, h3 => ⟨seen, rfl, rfl, h, h2, h3⟩
  | lab :: rest, seen, hl, h, h2, h3 => by
    have hkl := (List.getElem?_eq_some_iff.1 h.at_).1
    have hpm : p ∈ seen := List.mem_of_getElem? h.at_
    have hv := h.met.valid p hpm
    unfold innerF
    by_cases hz : (nextP a b p lab).2.2 = []
    · rw [if_pos hz]
      exact .inl ⟨rfl, rfl, lab, hl lab (by simp), rfl, hz⟩
    rw [if_neg hz]
    have hs : Small (nextP a b p lab) := small_of ha hb ⟨by simp only [nextP]; rw [accF_snoc, ← hv.1], by simp only [nextP]; rw [accF_snoc, ← hv.2.1], hz⟩
    by_cases hc : (seen.map keyP).contains (keyP (nextP a b p lab)) = true
    · rw [if_pos hc]
      exact inner_ok ha hb hm rest seen (fun l hl' => hl l (by simp [hl'])) (h.skip ((contains_key ha hb h.met hs).1 hc)) h2 h3
    rw [if_neg hc, List.length_map]
    by_cases hf : 4096 ≤ seen.length
    · rw [if_pos hf]
      exact .inr ⟨rfl, rfl, rfl, seen, k, h.met, hf, h3⟩
    rw [if_neg hf]
    have hadd := h.add ha hb hz (fun e => hc ((contains_key ha hb h.met hs).2 e))
    have := inner_ok ha hb hm rest (seen ++ [nextP a b p lab]) (fun l hl' => hl l (by simp [hl'])) hadd (by simp; omega) (fun q hq => by
      rcases List.mem_append.1 hq with hq | hq
      · exact h3 q hq
      · simp at hq; subst hq; simp [nextP]; omega)
    rw [List.drop_append_of_le_length (by omega), List.map_append] at this
    exact this

/-- what the search answers -/
structure TraceOk (a b : Sys) (most : Nat) (r : List Int × Bool × Int) : Prop where
  some : r.2.1 = true → r.2.2 = 0 ∧ ApartW a b r.1 ∧ r.1.length ≤ most ∧ ∀ x, x.length < r.1.length → ¬ ApartW a b x
  none : r.2.1 = false → r.1 = [] ∧ (r.2.2 = 0 ∨ r.2.2 = 1)
  all : r.2.1 = false → r.2.2 = 0 → ∀ x, x.length ≤ most → ¬ ApartW a b x
  many : r.2.2 = 1 → ∃ seen k, Met a b seen k ∧ 4096 ≤ seen.length ∧ ∀ q ∈ seen, q.1.length ≤ most

theorem ok_none {a b : Sys} {seen : List TP} {k most : Nat} (h : Met a b seen k) (hx : ∀ p, seen[k]? = some p → most ≤ p.1.length) : TraceOk a b most ([], false, 0) :=
  ⟨fun e => (by cases e), fun _ => ⟨rfl, .inl rfl⟩, fun _ _ x hl => h.none (fun p hp => Nat.le_trans hl (hx p hp)), fun e => (by cases e)⟩
theorem outer_ok {a b : Sys} (ha : checkS a = 0) (hb : checkS b = 0) {most : Nat} : ∀ (n : Nat) (seen : List TP) (k : Nat), Met a b seen k → k ≤ seen.length → seen.length ≤ 4096 → (∀ q ∈ seen, q.1.length ≤ most) → 4096 - k ≤ n →
    TraceOk a b most (outerF a b most n (seen.drop k) (seen.map keyP)) := by
  intro n
  induction n with
  | zero =>
    intro seen k h hk h2 h3 hn
    have : seen.drop k = [] := List.drop_of_length_le (by omega)
    rw [this]
    unfold outerF
    exact ok_none h fun p hp => (by have := (List.getElem?_eq_some_iff.1 hp).1; omega)
  | succ n ih =>
    intro seen k h hk h2 h3 hn
    rcases Nat.lt_or_ge k seen.length with hkl | hge
    · have hk0 : seen[k]? = some seen[k] := List.getElem?_eq_getElem hkl
      have hd : seen.drop k = seen[k] :: seen.drop (k + 1) := (List.getElem_cons_drop hkl).symm
      generalize hp : seen[k] = p at hk0 hd
      have hpm : p ∈ seen := List.mem_of_getElem? hk0
      have hv := h.valid p hpm
      rw [hd]
      unfold outerF
      by_cases hm : p.1.length = most
      · rw [if_pos hm]
        exact ok_none h fun p' hp' => (by rw [hk0] at hp'; cases hp'; omega)
      rw [if_neg hm]
      have hlt : p.1.length < most := by have := h3 p hpm; omega
      have hin := inner_ok ha hb hlt (labelsF a p.2.1) seen (fun l hl => hl) ⟨h, hk0, fun l hl => .inl hl⟩ h2 h3
      rw [hd] at hin
      cases hI : innerF a b p (labelsF a p.2.1) (p :: seen.drop (k + 1)) (seen.map keyP) with
      | go todo met =>
        rw [hI] at hin
        obtain ⟨seen2, e1, e2, e3, e4, e5⟩ := hin
        have hk2 := (List.getElem?_eq_some_iff.1 e3.at_).1
        subst e1; subst e2
        simp only
        rw [List.tail_drop]
        exact ih seen2 (k + 1) e3.next (by omega) e4 e5 (by omega)
      | done w s e =>
        rw [hI] at hin
        simp only
        rcases hin with ⟨rfl, rfl, lab, hl, rfl, hz⟩ | ⟨rfl, rfl, rfl, hmany⟩
        · refine ⟨fun _ => ⟨rfl, ⟨?_, ?_⟩, by simp; omega, fun x hx => h.none fun p' hp' => ?_⟩, fun e => (by cases e), fun e => (by cases e), fun e => (by simp at e)⟩
          · obtain ⟨i, hi, t, ht⟩ := mem_labelsF.1 hl
            have : t ∈ afterF a p.2.1 lab := mem_afterF.2 ⟨i, hi, ht⟩
            unfold Acc
            rw [accF_snoc, ← hv.1]
            exact List.ne_nil_of_mem this
          · unfold Acc
            rw [accF_snoc, ← hv.2.1, hz]
            exact fun h => h rfl
          · rw [hk0] at hp'; cases hp'
            simp at hx; omega
        · exact ⟨fun e => (by cases e), fun _ => ⟨rfl, .inr rfl⟩, fun _ e => (by cases e), fun _ => hmany⟩
    · have : seen.drop k = [] := List.drop_of_length_le (by omega)
      rw [this]
      unfold outerF
      exact ok_none h fun p hp => (by have := (List.getElem?_eq_some_iff.1 hp).1; omega)

theorem met_start (a b : Sys) : Met a b [startP] 0 where
  valid := fun p hp => by simp at hp; subst hp; exact ⟨rfl, rfl, by simp [startP]⟩
  sorted := by simp
  first := by simp
  done := fun p hp => by simp at hp
  level := fun q hq p hp => by simp at hq hp; subst hq; subst hp; omega
  apart := by simp

theorem trace_ok {a b : Sys} (ha : checkS a = 0) (hb : checkS b = 0) (most : Nat) : TraceOk a b most (traceF a b most) :=
  outer_ok ha hb 4096 [startP] 0 (met_start a b) (by simp) (by simp) (fun q hq => by simp at hq; subst hq; simp [startP]) (by omega)
end Go.AM
