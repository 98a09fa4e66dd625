/-
 Plain laws: products of one term are told from products of four terms by words of at most six letters (chapter 9).
-/
import Derived.Test.YtlcckmmibeddeaaX1
namespace Go.AM
theorem leq_single {t : TmD} (hn : t.ls ≠ []) : ∀ {q : List TmD}, (∃ u ∈ q, u.star = true /\ witT t u = true) -> leqP [t] q = true
 | [], h => by obtain ⟨u, hu, _⟩ := h; cases hu
 | v :: q, h => by
  rw [leqP_cons, if_neg (by rw [nil_iff]; exact hn)]
  cases hw : witT t v with
  | false =>
   rw [if_pos (show (!false) = true from rfl)]
   obtain ⟨u, hu, hs⟩ := h
   rcases List.mem_cons.1 hu with rfl | hu
   ·rw [hs.2] at hw; cases hw
   ·exact leq_single hn ⟨u, hu, hs⟩
  | true =>
   rw [if_neg (by simp)]
   split <;> exact leqP_nil _
def altW : Nat -> Int -> List Int
 | 0, _ => []
 | n + 1, x => x :: altW n (1 - x)
theorem altW_len : ∀ (n : Nat) (x : Int), (altW n x).length = n
 | 0, _ => rfl
 | n + 1, x => by rw [altW, List.length_cons, altW_len n]
theorem altW_in : ∀ (n : Nat) (x : Int), x = 0 \/ x = 1 -> ∀ y ∈ altW n x, y = 0 \/ y = 1
 | 0, _, _, y, hy => by cases hy
 | n + 1, x, hx, y, hy => by
  rw [altW] at hy
  rcases List.mem_cons.1 hy with rfl | hy
  ·exact hx
  ·exact altW_in n (1 - x) (by omega) y hy
theorem alt_count : ∀ (q : List TmD) (k : Nat) (x : Int), (∀ u ∈ q, ¬ (u.star = true /\ x ∈ u.ls /\ (1 - x) ∈ u.ls)) -> memP q (altW k x) = true -> k <= q.length
 | _, 0, _, _, _ => Nat.zero_le _
 | [], k + 1, x, _, h => by rw [altW, memP_none] at h; cases h
 | u :: q, k + 1, x, hu, h => by
  have hq : ∀ v ∈ q, ¬ (v.star = true /\ x ∈ v.ls /\ (1 - x) ∈ v.ls) := fun v hv => hu v (by simp [hv])
  have hq2 : ∀ v ∈ q, ¬ (v.star = true /\ (1 - x) ∈ v.ls /\ (1 - (1 - x)) ∈ v.ls) := fun v hv ⟨a, b, c⟩ => hq v hv ⟨a, by rwa [show 1 - (1 - x) = x by omega] at c, b⟩
  rw [List.length_cons]
  rw [altW] at h
  by_cases hx : x ∈ u.ls
  ·by_cases hs : u.star = true
   ·rw [memP_in hx hs] at h
    have hx2 : (1 - x) ∉ u.ls := fun h2 => hu u (by simp) ⟨hs, hx, h2⟩
    cases k with
    | zero => omega
    | succ k =>
     have h2 := h
     rw [altW, memP_out hx2] at h2
     have := alt_count q (k + 1) (1 - x) hq2 (by rw [altW]; exact h2)
     omega
   ·rw [memP_one hx (by simpa using hs)] at h
    have := alt_count q k (1 - x) hq2 h
    omega
  ·rw [memP_out hx] at h
   have := alt_count q (k + 1) x hq (by rw [altW]; exact h)
   omega
theorem rep_count (x : Int) : ∀ (q : List TmD) (k : Nat), (∀ u ∈ q, ¬ (u.star = true /\ x ∈ u.ls)) -> memP q (List.replicate k x) = true -> k <= q.length
 | _, 0, _, _ => Nat.zero_le _
 | [], k + 1, _, h => by rw [List.replicate_succ, memP_none] at h; cases h
 | u :: q, k + 1, hu, h => by
  have hq : ∀ v ∈ q, ¬ (v.star = true /\ x ∈ v.ls) := fun v hv => hu v (by simp [hv])
  rw [List.length_cons]
  rw [List.replicate_succ] at h
  by_cases hx : x ∈ u.ls
  ·by_cases hs : u.star = true
   ·exact absurd ⟨hs, hx⟩ (hu u (by simp))
   ·rw [memP_one hx (by simpa using hs)] at h
    have := rep_count x q k hq h
    omega
  ·rw [memP_out hx] at h
   have := rep_count x q (k + 1) hq (by rw [List.replicate_succ]; exact h)
   omega
theorem mem_star_all {t : TmD} (hs : t.star = true) : ∀ (w : List Int), (∀ x ∈ w, x ∈ t.ls) -> memP [t] w = true
 | [], _ => memP_nil _
 | x :: w, h => by rw [memP_in (h x (by simp)) hs]; exact mem_star_all hs w fun y hy => h y (by simp [hy])
theorem short_leq {p q : List TmD} (hp : OkP p) (hq : OkP q) (hpl : p.length <= 1) (hql : q.length <= 4) (h2 : ∀ t ∈ p, ∀ x ∈ t.ls, x = 0 \/ x = 1)
  (h : ∀ w : List Int, w.length <= 6 -> (∀ x ∈ w, x = 0 \/ x = 1) -> memP p w = true -> memP q w = true) : leqP p q = true := by
 match p, hpl with
 | [], _ => exact leqP_nil q
 | [t], _ =>
  by_cases hn : t.ls = []
  ·refine (leq_iff hp hq).2 fun w hw => ?_
   rw [memP_empty hn] at hw
   cases w with
   | nil => exact memP_nil _
   | cons x w => rw [memP_none] at hw; cases hw
  cases hs : t.star with
  | false =>
   obtain ⟨x, hx⟩ := hp.head.one hs
   have e : [t] = ofW [x] := by cases t; simp_all [ofW]
   rw [e, leqP_of hq]
   refine h [x] (by simp) (fun y hy => h2 t (by simp) y (by rw [hx]; exact hy)) ?_
   rw [memP_one (by rw [hx]; simp) hs, memP_nil]
  | true =>
   refine Classical.byContradiction fun hc => hc (leq_single hn ?_)
   refine Classical.byContradiction fun hnu => ?_
   have hno : ∀ u ∈ q, u.star = true -> ∃ x ∈ t.ls, x ∉ u.ls := fun u hu hus => by
    refine Classical.byContradiction fun hh => hnu ⟨u, hu, hus, (wit_star hus).2 fun x hx => ?_⟩
    exact Classical.byContradiction fun hxu => hh ⟨x, hx, hxu⟩
   have ht := h2 t (by simp)
   obtain ⟨x, hx⟩ : ∃ x, x ∈ t.ls := by
    cases hl : t.ls with
    | nil => exact absurd hl hn
    | cons x l => exact ⟨x, by simp⟩
   by_cases hox : (1 - x) ∈ t.ls
   ·have hin : ∀ y ∈ altW 5 x, y ∈ t.ls := fun y hy => by
     have := altW_in 5 x (ht x hx) y hy
     have h3 := ht x hx
     by_cases hyx : y = x
     ·rw [hyx]; exact hx
     ·have : y = 1 - x := by omega
      rw [this]; exact hox
    have := alt_count q 5 x (fun u hu ⟨a, b, c⟩ => by
     obtain ⟨z, hz, hzu⟩ := hno u hu a
     have h3 := ht x hx
     have h4 := ht z hz
     by_cases hzx : z = x
     ·rw [hzx] at hzu; exact hzu b
     ·have : z = 1 - x := by omega
      rw [this] at hzu; exact hzu c) (h _ (by rw [altW_len]; omega) (altW_in 5 x (ht x hx)) (mem_star_all hs _ hin))
    omega
   ·have hin : ∀ y ∈ List.replicate 5 x, y ∈ t.ls := fun y hy => by rw [(List.mem_replicate.1 hy).2]; exact hx
    have := rep_count x q 5 (fun u hu ⟨a, b⟩ => by
     obtain ⟨z, hz, hzu⟩ := hno u hu a
     have h3 := ht x hx
     have h4 := ht z hz
     by_cases hzx : z = x
     ·rw [hzx] at hzu; exact hzu b
     ·have : z = 1 - x := by omega
      rw [this] at hz; exact hox hz) (h _ (by simp) (fun y hy => by rw [(List.mem_replicate.1 hy).2]; exact ht x hx) (mem_star_all hs _ hin))
    omega
end Go.AM
