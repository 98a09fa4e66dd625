/-
 Walks: ref02.Embed, ref02.Leq, Meet of two valid products of at most ten terms (chapter 9).
-/
import Derived.Test.YtlcckmmibeddeaaExT
import Derived.Test.YtlcckmmibeddeaaExO
import Derived.Test.YtlcckmmibeddeaaLExA
namespace Go.AM
open Go Go.Proofs Go.RowKit
set_option maxRecDepth 100000
set_option maxHeartbeats 8000000
theorem con_r02Embed (a b : List Int) (hal : a.length <= 12) (hbl : b.length <= 12) (ha : ∀ x ∈ a, 0 <= x /\ x < 2) (hb : ∀ x ∈ b, 0 <= x /\ x < 2) :
  Con Try.prog 46 [vs 0 a, vs 0 b] [] fun r _ => r = .tup [.any, vb (subB a b)] := by
 refine Con.frozX ?_
 refine Con.intro Try.func46 rfl Try.ntmps46 Try.results46 (by kernel_rfl) (by simp) 0 (by simp) ?_
 have ca := con_r02Valid a hal ha
 have cb := con_r02Valid b hbl hb
 simp only [go_sem]
 refine CallU.free ca (by simp only [go_sem]) (by simp only [go_sem]) ?_
 rintro r bx rfl
 simp only [go_sem]
 refine CallU.free cb (by simp only [go_sem]) (by simp only [go_sem]) ?_
 rintro r bx rfl
 simp only [go_sem]
 refine LoopK.intro (fun x : Nat × List Int => ⟨49, [(0, vs 0 a), (1, vs 0 b), (6, vs 2752 x.2), (7, vi x.1)], []⟩)
  (fun x => b.length - x.1) (fun x => x.1 <= b.length /\ x.2.length = emb a (b.take x.1)) (0, []) ⟨Nat.zero_le _, by rw [List.take_zero, emb_nil]; rfl⟩ ?_ ?_
 ·simp only [go_sem, List.map_nil]
  all_goals first | exact leB_self _ | exact leV_nil _ _
 rintro ⟨i, L⟩ ⟨hi, hL⟩
 simp only at hi hL
 have hle := emb_le a (b.take i)
 by_cases h : i < b.length
 case neg =>
  have e : b.take i = b := List.take_of_length_le (by omega)
  rw [e] at hL
  have hs := emb_sub a b
  rw [<- hL] at hs
  by_cases h2 : L.length < a.length
  ·rw [decide_eq_true h2] at hs
   have hs' : subB a b = false := by simpa using hs
   simp only [go_sem, h, h2, hs', List.length_map]
   exact leV_tup ⟨leV_any _, leV_refl _, trivial⟩
  ·rw [decide_eq_false h2] at hs
   have hs' : subB a b = true := by simpa using hs
   simp only [go_sem, h, h2, hs', List.length_map]
   exact leV_tup ⟨leV_any _, leV_refl _, trivial⟩
 have hw : IntKind.i64.wrap (i + 1) = i + 1 := wrap_in (by omega) (by omega)
 have hg := getv h
 have hst := emb_step (w := a) h
 rw [<- hL] at hst
 simp only [go_sem, h, List.length_map]
 refine DrawK.walk 16 mixed (by kernel_rfl) ?_
 by_cases h2 : L.length < a.length
 ·have hg2 := getv h2
  by_cases he : a[L.length]! = b[i]!
  ·rw [if_pos ⟨h2, he⟩] at hst
   have heq : (a[L.length]! == b[i]!) = true := beq_iff_eq.2 he
   simp only [go_sem, h, h2, hg, hg2, heq, List.length_map, hw]
   refine ⟨by simp only [roomFor]; omega, ?_⟩
   refine roundK.intro (i + 1, L ++ [(i : Int)]) ⟨by show i + 1 <= _; omega, by show (L ++ [(i : Int)]).length = _; rw [hst, List.length_append]; rfl⟩ (by show b.length - (i + 1) < b.length - i; omega) ?_
   simp only [go_sem]
   exact leV_sl (by simp only [List.map_append, List.map_cons, List.map_nil]; rfl)
  ·rw [if_neg (fun hc => he hc.2)] at hst
   have heq : (a[L.length]! == b[i]!) = false := beq_eq_false_iff_ne.2 he
   simp only [go_sem, h, h2, hg, hg2, heq, List.length_map, hw]
   refine roundK.intro (i + 1, L) ⟨by show i + 1 <= _; omega, by show L.length = _; rw [hst]⟩ (by show b.length - (i + 1) < b.length - i; omega) ?_
   simp only [go_sem]
 ·rw [if_neg (fun hc => h2 hc.1)] at hst
  simp only [go_sem, h2, List.length_map, hw]
  refine roundK.intro (i + 1, L) ⟨by show i + 1 <= _; omega, by show L.length = _; rw [hst]⟩ (by show b.length - (i + 1) < b.length - i; omega) ?_
  simp only [go_sem]
theorem con_r02Leq (a b : List Int) (hal : a.length <= 12) (hbl : b.length <= 12) (ha : ∀ x ∈ a, 0 <= x /\ x < 2) (hb : ∀ x ∈ b, 0 <= x /\ x < 2) :
  Con Try.prog 21 [vs 0 a, vs 0 b] [] fun r _ => r = vb (subB a b) := by
 refine Con.intro Try.func21 rfl Try.ntmps21 Try.results21 (by kernel_rfl) (by simp) 0 (by simp) ?_
 simp only [go_sem]
 refine CallU.free (con_r02Embed a b hal hbl ha hb) (by simp only [go_sem]) (by simp only [go_sem]) ?_
 rintro r bx rfl
 simp only [go_sem]
theorem lenP_meet {p q : List TmD} (h10 : p.length + q.length <= 10) (hsh : ShortP p /\ ShortP q) : ∀ x ∈ meetP p q, LenP x := fun x hx =>
 ⟨Nat.le_trans (meet_short 10 p q h10 x hx) (by decide), fun t ht => Nat.le_trans (meet_letters 10 p q h10 hsh.1 hsh.2 x hx t ht) (by decide)⟩
theorem con_xMeet (n : Int) (p q : List TmD) (hp : ValidP n p) (hq : ValidP n q) (h10 : p.length + q.length <= 10) (h12 : (maxL (meetP p q)).length <= 12) (hsh : ShortP p /\ ShortP q) :
  Con Try.prog 17 [vi n, vPr p, vPr q] [] fun r _ => r = .tup [.sl 0 1 ((ascFP (maxL (meetP p q))).map vPr), vi 0] := by
 refine Con.intro Try.func17 rfl Try.ntmps17 Try.results17 (by kernel_rfl) (by simp) 0 (by simp) ?_
 have c1 := con_xCheckL n p hp.lenP
 have c2 := con_xCheckL n q hq.lenP
 rw [check_zero.2 hp] at c1
 rw [check_zero.2 hq] at c2
 have c3 := con_xmeet 18 p q (by omega) (by omega) hp.ok hq.ok hsh.1 hsh.2
 have hml := meet_len 10 p q h10
 have c4 := con_xmaximalS (meetP p q) (fun x hx => ⟨meetP_ok hp.ok hq.ok x hx, lenP_meet h10 hsh x hx⟩) (Nat.le_trans hml (by decide)) h12
 simp only [vPr] at c1 c2 c3 c4
 have h3 : ¬ (10 : Int) < (p.length : Int) + q.length := by omega
 have hw : IntKind.i64.wrap ((p.length : Int) + q.length) = (p.length : Int) + q.length := wrap_in (by omega) (by omega)
 simp only [go_sem, vPr]
 refine CallU.free c1 (by simp only [go_sem]) (by simp only [go_sem]) ?_
 rintro r bx rfl
 simp only [go_sem]
 refine CallU.free c2 (by simp only [go_sem]) (by simp only [go_sem]) ?_
 rintro r bx rfl
 simp only [go_sem, hw, h3, List.length_map]
 refine CallU.free c3 (by simp only [go_sem]) (by simp only [go_sem]) ?_
 rintro r bx rfl
 simp only [go_sem]
 refine CallU.free c4 (by simp only [go_sem]) (by simp only [go_sem]) ?_
 rintro r bx rfl
 simp only [go_sem]
end Go.AM
