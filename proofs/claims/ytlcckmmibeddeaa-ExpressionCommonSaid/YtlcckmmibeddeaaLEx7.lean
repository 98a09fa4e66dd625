/-
 Plain laws: every short product over two letters is among those of the check (chapter 9).
-/
import Derived.Test.YtlcckmmibeddeaaLEx6
namespace Go.AM
theorem asc_two : ∀ {l : List Int}, ascI l = true -> l ≠ [] -> (∀ x ∈ l, x = 0 \/ x = 1) -> l = [0] \/ l = [1] \/ l = [0, 1]
 | [], _, h, _ => absurd rfl h
 | [a], _, _, hx => by
  rcases hx a (by simp) with rfl | rfl
  ·exact .inl rfl
  ·exact .inr (.inl rfl)
 | [a, b], h, _, hx => by
  have h1 := (asc_lt h).1 b (by simp)
  rcases hx a (by simp) with rfl | rfl <;> rcases hx b (by simp) with rfl | rfl
  ·omega
  ·exact .inr (.inr rfl)
  ·omega
  ·omega
 | a :: b :: c :: l, h, _, hx => by
  obtain ⟨h1, h2⟩ := asc_lt h
  have h3 := (asc_lt h2).1 c (by simp)
  have h1 := h1 b (by simp)
  have ha := hx a (by simp)
  have hb := hx b (by simp)
  have hc := hx c (by simp)
  omega
theorem term_in5 {t : TmD} (h : t.Ok) (hn : t.ls ≠ []) (hx : ∀ x ∈ t.ls, x = 0 \/ x = 1) : t ∈ terms5 := by
 obtain ⟨s, ls⟩ := t
 simp only at hn hx
 cases s with
 | false =>
  obtain ⟨x, e⟩ := h.one rfl
  simp only at e
  subst e
  rcases hx x (by simp) with rfl | rfl <;> simp [terms5]
 | true =>
  rcases asc_two h.asc hn hx with rfl | rfl | rfl <;> simp [terms5]
theorem in_prods : ∀ (p : List TmD), (∀ t ∈ p, t ∈ terms5) -> p ∈ prods5 p.length
 | [], _ => by simp [prods5]
 | t :: p, h => by
  have ih := in_prods p fun u hu => h u (by simp [hu])
  rw [List.length_cons, prods5, List.mem_flatMap]
  exact ⟨p, ih, List.mem_map.2 ⟨t, h t (by simp), rfl⟩⟩
theorem redP_full : ∀ {p : List TmD}, redP p -> ∀ t ∈ p, t.ls ≠ []
 | [], _, t, ht => by cases ht
 | [u], h, t, ht => by rw [List.mem_singleton.1 ht]; exact h
 | u :: v :: p, h, t, ht => by
  rcases List.mem_cons.1 ht with rfl | ht
  ·exact h.1
  ·exact redP_full h.2.2 t ht
theorem normN_in : ∀ (n : Nat) (q : List TmD), ∀ t ∈ normN n q, t ∈ q
 | 0, _, _, ht => ht
 | n + 1, q, t, ht => by
  rw [normN] at ht
  split at ht
  ·exact ht
  ·exact List.mem_of_mem_eraseIdx (normN_in n _ t ht)
theorem in_R5 {p : List TmD} (hp : OkP p) (h4 : p.length <= 4) (hx : ∀ t ∈ p, ∀ x ∈ t.ls, x = 0 \/ x = 1) : normP p ∈ allR5 := by
 unfold allR5
 rw [List.mem_filter, List.mem_flatMap]
 refine ⟨⟨(normP p).length, List.mem_range.2 (by have := normP_len p; omega), in_prods _ fun t ht => ?_⟩, by rw [normP_id hp]; exact beq_self_eq_true _⟩
 exact term_in5 (normP_ok hp t ht) (redP_full (normP_red p) t ht) (hx t (normN_in _ p t ht))
theorem meet_few {p q : List TmD} (hp : OkP p) (hq : OkP q) (h4 : p.length <= 4) (h4' : q.length <= 4) (hx : ∀ t ∈ p, ∀ x ∈ t.ls, x = 0 \/ x = 1) (hx' : ∀ t ∈ q, ∀ x ∈ t.ls, x = 0 \/ x = 1) :
  (maxL (meetP p q)).length <= 12 := by
 have h := few_meet
 rw [List.all_eq_true] at h
 have h := h _ (in_R5 hp h4 hx)
 rw [List.all_eq_true] at h
 have h := of_decide_eq_true (h _ (in_R5 hq h4' hx'))
 rw [meetN_eq 8 _ _ (by have := normP_len p; have := normP_len q; omega)] at h
 refine Nat.le_trans (maxL_len (meetP_ok hp hq) (meetP_ok (normP_ok hp) (normP_ok hq)) fun w => ?_) h
 rw [meetP_mem hp hq, meetP_mem (normP_ok hp) (normP_ok hq), normP_eq p w, normP_eq q w]
end Go.AM
