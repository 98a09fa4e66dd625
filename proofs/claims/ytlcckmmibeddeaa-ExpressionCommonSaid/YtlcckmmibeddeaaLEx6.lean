/-
 Plain laws: what two short products over two letters have in common has at most twelve maximal products (chapter 9).
-/
import Derived.Test.YtlcckmmibeddeaaX1
namespace Go.AM
set_option maxRecDepth 100000
theorem insM_nodup {out : List (List TmD)} {p : List TmD} (h : out.Nodup) (hp : OkP p) : (insM out p).Nodup := by
 unfold insM
 split
 ·exact h
 ·rename_i hc
  rw [List.nodup_append]
  refine ⟨h.filter _, by simp, fun a ha b hb => ?_⟩
  rw [List.mem_singleton.1 hb]
  intro e
  subst e
  exact hc (List.any_eq_true.2 ⟨a, (List.mem_filter.1 ha).1, leq_refl hp⟩)
theorem maxL_nodup_from : ∀ (l out : List (List TmD)), out.Nodup -> (∀ p ∈ l, OkP p) -> (l.foldl (fun out p => insM out (normP p)) out).Nodup
 | [], _, h, _ => h
 | p :: l, out, h, hl => by
  rw [List.foldl_cons]
  exact maxL_nodup_from l _ (insM_nodup h (normP_ok (hl p (by simp)))) fun q hq => hl q (by simp [hq])
theorem maxL_nodup {l : List (List TmD)} (h : ∀ p ∈ l, OkP p) : (maxL l).Nodup := maxL_nodup_from l [] List.nodup_nil h
theorem maxL_len {a b : List (List TmD)} (ha : ∀ p ∈ a, OkP p) (hb : ∀ p ∈ b, OkP p) (h : ∀ w, anyP a w = anyP b w) : (maxL a).length <= (maxL b).length :=
 nodup_len (maxL_nodup ha) (max_sub (maxL_max ha) (maxL_max hb) fun w => by rw [maxL_any ha, maxL_any hb, h])
def meetN : Nat -> List TmD -> List TmD -> List (List TmD)
 | 0, _, _ => [[]]
 | _, [], _ => [[]]
 | _, _ :: _, [] => [[]]
 | n + 1, t :: p, u :: q =>
  if !t.star && !u.star && t.ls.head? == u.ls.head? then hdP t (meetN n p q)
  else if !t.star && u.star && witT t u then hdP t (meetN n p (u :: q))
  else if t.star && !u.star && witT u t then hdP u (meetN n (t :: p) q)
  else if !t.star || !u.star then meetN n p (u :: q) ++ meetN n (t :: p) q
  else hdP ⟨true, bothL t.ls u.ls⟩ (meetN n p (u :: q) ++ meetN n (t :: p) q)
theorem meetN_eq : ∀ (n : Nat) (p q : List TmD), p.length + q.length <= n -> meetN n p q = meetP p q
 | 0, [], q, _ => by rw [meetP]; rfl
 | _ + 1, [], q, _ => by rw [meetP]; rfl
 | 0, _ :: _, q, h => by simp only [List.length_cons] at h; omega
 | _ + 1, _ :: _, [], _ => by rw [meetP]; rfl
 | n + 1, t :: p, u :: q, h => by
  simp only [List.length_cons] at h
  rw [meetP, meetN, meetN_eq n p q (by omega), meetN_eq n p (u :: q) (by simp only [List.length_cons]; omega), meetN_eq n (t :: p) q (by simp only [List.length_cons]; omega)]
def terms5 : List TmD := [⟨false, [0]⟩, ⟨false, [1]⟩, ⟨true, [0]⟩, ⟨true, [1]⟩, ⟨true, [0, 1]⟩]
def prods5 : Nat -> List (List TmD)
 | 0 => [[]]
 | n + 1 => (prods5 n).flatMap fun p => terms5.map fun t => t :: p
def allR5 : List (List TmD) := ((List.range 5).flatMap prods5).filter fun p => normP p == p
theorem few_meet : (allR5.all fun p => allR5.all fun q => decide ((maxL (meetN 8 p q)).length <= 12)) = true := by decide +kernel
end Go.AM
