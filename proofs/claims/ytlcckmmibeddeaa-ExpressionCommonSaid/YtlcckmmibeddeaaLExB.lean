/-
 Plain laws: letters and lengths of what two products have in common, and of what is above none of some words (chapter 9).
-/
import Derived.Test.YtlcckmmibeddeaaLExA
namespace Go.AM
theorem maxL_mem_from : ∀ (l out : List (List TmD)), ∀ p ∈ l.foldl (fun out p => insM out (normP p)) out, p ∈ out \/ ∃ x ∈ l, p = normP x
 | [], _, _, hp => .inl hp
 | x :: l, out, p, hp => by
  rw [List.foldl_cons] at hp
  rcases maxL_mem_from l _ p hp with h | ⟨y, hy, e⟩
  ·unfold insM at h
   split at h
   ·exact .inl h
   ·rcases List.mem_append.1 h with h | h
    ·exact .inl (List.mem_filter.1 h).1
    ·exact .inr ⟨x, by simp, List.mem_singleton.1 h⟩
  ·exact .inr ⟨y, by simp [hy], e⟩
theorem maxL_mem {l : List (List TmD)} {p : List TmD} (h : p ∈ maxL l) : ∃ x ∈ l, p = normP x := (maxL_mem_from l [] p h).elim (fun h => absurd h (by simp)) id
theorem asc_maxL_mem {l : List (List TmD)} {p : List TmD} (h : p ∈ ascFP (maxL l)) : ∃ x ∈ l, p = normP x := maxL_mem ((asc_permP _).mem_iff.1 h)
def LetP (L : Int -> Prop) (p : List TmD) : Prop := ∀ t ∈ p, ∀ x ∈ t.ls, L x
theorem LetP.norm {L : Int -> Prop} {p : List TmD} (h : LetP L p) : LetP L (normP p) := fun t ht => h t (normN_in _ p t ht)
theorem LetP.tail {L : Int -> Prop} {t : TmD} {p : List TmD} (h : LetP L (t :: p)) : LetP L p := fun u hu => h u (by simp [hu])
theorem LetP.cons {L : Int -> Prop} {t : TmD} {p : List TmD} (ht : ∀ x ∈ t.ls, L x) (h : LetP L p) : LetP L (t :: p) := fun u hu => by
 rcases List.mem_cons.1 hu with rfl | hu
 ·exact ht
 ·exact h u hu
theorem meet_lets {L : Int -> Prop} : ∀ (n : Nat) (p q : List TmD), p.length + q.length <= n -> LetP L p -> LetP L q -> ∀ x ∈ meetP p q, LetP L x
 | n, [], q, _, _, _, x, hx => by rw [meetP, List.mem_singleton] at hx; rw [hx]; intro t ht; cases ht
 | n, _ :: _, [], _, _, _, x, hx => by rw [meetP, List.mem_singleton] at hx; rw [hx]; intro t ht; cases ht
 | 0, _ :: _, _ :: _, h, _, _, _, _ => by simp only [List.length_cons] at h; omega
 | n + 1, t :: p, u :: q, h, hp, hq, x, hx => by
  simp only [List.length_cons] at h
  have h1 := meet_lets n p q (by omega) hp.tail hq.tail
  have h2 := meet_lets n p (u :: q) (by simp only [List.length_cons]; omega) hp.tail hq
  have h3 := meet_lets n (t :: p) q (by simp only [List.length_cons]; omega) hp hq.tail
  have ht := hp t (by simp)
  have hu := hq u (by simp)
  have key : ∀ (v : TmD) (l : List (List TmD)), (∀ y ∈ v.ls, L y) -> (∀ y ∈ l, LetP L y) -> x ∈ hdP v l -> LetP L x := fun v l hv hl hx => by
   obtain ⟨y, hy, rfl⟩ := List.mem_map.1 hx
   exact .cons hv (hl y hy)
  have h4 : ∀ y ∈ meetP p (u :: q) ++ meetP (t :: p) q, LetP L y := fun y hy => (List.mem_append.1 hy).elim (h2 y) (h3 y)
  have hb : ∀ y ∈ bothL t.ls u.ls, L y := fun y hy => ht y (List.mem_filter.1 hy).1
  rw [meetP] at hx
  split at hx
  ·exact key _ _ ht h1 hx
  ·split at hx
   ·exact key _ _ ht h2 hx
   ·split at hx
    ·exact key _ _ hu h3 hx
    ·split at hx
     ·exact h4 x hx
     ·exact key _ _ hb h4 hx
theorem meet_lens : ∀ (n : Nat) (p q : List TmD), p.length + q.length <= n -> ∀ x ∈ meetP p q, x.length <= n
 | n, [], q, _, x, hx => by rw [meetP, List.mem_singleton] at hx; rw [hx]; simp
 | n, _ :: _, [], _, x, hx => by rw [meetP, List.mem_singleton] at hx; rw [hx]; simp
 | 0, _ :: _, _ :: _, h, _, _ => by simp only [List.length_cons] at h; omega
 | n + 1, t :: p, u :: q, h, x, hx => by
  simp only [List.length_cons] at h
  have h1 := meet_lens n p q (by omega)
  have h2 := meet_lens n p (u :: q) (by simp only [List.length_cons]; omega)
  have h3 := meet_lens n (t :: p) q (by simp only [List.length_cons]; omega)
  have key : ∀ (v : TmD) (l : List (List TmD)), (∀ y ∈ l, y.length <= n) -> x ∈ hdP v l -> x.length <= n + 1 := fun v l hl hx => by
   obtain ⟨y, hy, rfl⟩ := List.mem_map.1 hx
   have := hl y hy
   rw [List.length_cons]; omega
  have h4 : ∀ y ∈ meetP p (u :: q) ++ meetP (t :: p) q, y.length <= n := fun y hy => (List.mem_append.1 hy).elim (h2 y) (h3 y)
  rw [meetP] at hx
  split at hx
  ·exact key _ _ h1 hx
  ·split at hx
   ·exact key _ _ h2 hx
   ·split at hx
    ·exact key _ _ h3 hx
    ·split at hx
     ·have := h4 x hx; omega
     ·exact key _ _ h4 hx
def In2 (x : Int) : Prop := 0 <= x /\ x < 2
theorem without_lets {w : List Int} (h : ∀ x ∈ w, In2 x) : LetP In2 (withoutP 2 w) := by
 match w, h with
 | [], _ => intro t ht; cases ht
 | [b], _ =>
  intro t ht x hx
  rw [withoutP, List.mem_singleton] at ht
  rw [ht] at hx
  exact (mem_all.1 hx).1
 | b :: c :: w, h =>
  rw [withoutP]
  exact .cons (fun x hx => (mem_all.1 hx).1) (.cons (fun x hx => by rw [List.mem_singleton.1 hx]; exact h b (by simp)) (without_lets fun x hx => h x (by simp [List.mem_cons.1 hx])))
theorem without_len1 (n : Nat) : ∀ w : List Int, w ≠ [] -> (withoutP n w).length + 1 <= 2 * w.length
 | [], h => absurd rfl h
 | [b], _ => by simp [withoutP]
 | b :: c :: w, _ => by
  have := without_len1 n (c :: w) (by simp)
  rw [withoutP]; simp only [List.length_cons] at this ⊢; omega
theorem belF_lets {ws : List (List Int)} {m : Nat} (h0 : ∀ k, k < m -> ws[k]! ≠ [] /\ ws[k]!.length <= 3 /\ ∀ x ∈ ws[k]!, In2 x) : ∀ k, k <= m -> ∀ p ∈ belF ws k, LetP In2 p /\ p.length <= 1 + 5 * k
 | 0, _, p, hp => by
  rw [belF, List.mem_singleton] at hp
  rw [hp]
  exact ⟨.cons (fun x hx => (mem_all.1 hx).1) (fun t ht => by cases ht), by simp⟩
 | k + 1, hk, p, hp => by
  obtain ⟨x, hx, rfl⟩ := asc_maxL_mem hp
  obtain ⟨a1, a2, a3⟩ := h0 k (by omega)
  obtain ⟨q, hq, hx⟩ := List.mem_flatMap.1 hx
  obtain ⟨b1, b2⟩ := belF_lets h0 k (by omega) q hq
  have hwl := without_len1 2 _ a1
  have hl := meet_lens (1 + 5 * (k + 1)) q (withoutP 2 ws[k]!) (by omega) x hx
  exact ⟨(meet_lets _ _ _ (Nat.le_refl _) b1 (without_lets a3) x hx).norm, Nat.le_trans (normP_len x) hl⟩
theorem asc_few {l : List Int} (h : ascI l = true) (hx : ∀ x ∈ l, In2 x) : l.length <= 2 := by
 by_cases h0 : l = []
 ·rw [h0]; simp
 ·rcases asc_two h h0 (fun x hh => by have := hx x hh; unfold In2 at this; omega) with rfl | rfl | rfl <;> simp
end Go.AM
