/- ExG ExH ExJ ExK Am5 CmZ HA HB ExL ExM -/
import Derived.Test.Ytlcckmmibeddeaag10
import Derived.Test.Ytlcckmmibeddeaag7
import Derived.Test.Ytlcckmmibeddeaag8
namespace Go.AM
open Go Go.Proofs Go.RowKit
set_option maxRecDepth 100000
set_option maxHeartbeats 8000000
theorem con_xbegun (t : TmD) (l : List (List TmD)) (hl : l.length <= 1000000) (hp : ∀ p ∈ l, p.length <= 1000) : Con Try.prog 71 [vTm t, .sl 0 1 (l.map vPr)] [] fun r _ => r = .sl 0 1 ((hdP t l).map vPr) := by
 refine Con.frozX ?_
 refine Con.intro Try.func71 rfl Try.ntmps71 Try.results71 (by kernel_rfl) (by simp) 0 (by simp) ?_
 simp only [go_sem]
 refine LoopK.intro (fun i : Nat => ⟨24, [(2, .pb 0 0), (5, .sl 1408 1 ((hdP t (l.take i)).map vPr)), (8, .sl 0 1 (l.map vPr)), (9, vi l.length), (10, vi i)], [[vb t.star, vs 0 t.ls]]⟩)
  (fun i => l.length - i) (fun i => i <= l.length) 0 (Nat.zero_le _) ?_ ?_
 ·simp only [go_sem, List.take_zero, hdP, List.map_nil]
  all_goals exact leB_self _
 rintro i hi
 by_cases h : i < l.length
 case neg =>
  have e : l.take i = l := List.take_of_length_le (by omega)
  simp only [go_sem, h, e]
  exact leV_refl _
 have hg := getPr h
 have hw : IntKind.i64.wrap (i + 1) = i + 1 := wrap_in (by omega) (by omega)
 have hpl := hp _ (mem_bangI h)
 have hc : Con Try.prog 88 [.sl 0 1 [.sl 0 2 [vTm t], .sl 0 2 (l[i]!.map vTm)]] [] fun r _ => r = vPr (t :: l[i]!) :=
  Con.frozX ((con_xConcatTm [[t], l[i]!] (by simp) (by rw [show [[t], l[i]!].flatten = t :: l[i]! by simp, List.length_cons]; omega)).mono fun r _ e => by
   subst e
   have : [[t], l[i]!].flatten = t :: l[i]! := by simp
   rw [this]; exact leV_refl _)
 have e : (hdP t (l.take (i + 1))).map vPr = (hdP t (l.take i)).map vPr ++ [vPr (t :: l[i]!)] := by
  unfold hdP
  rw [List.take_succ_eq_append_getElem h, List.map_append, List.map_append, <- getElem!_pos l i h]; rfl
 have hlen : (hdP t (l.take i)).length = i := by unfold hdP; rw [List.length_map, List.length_take]; omega
 simp only [vPr, vTm] at hc
 simp only [go_sem] at hc
 simp only [go_sem, h, hg, List.length_map]
 refine CallU.freeze hc (by simp only [go_sem]) (by simp only [go_sem]) ?_
 rintro r bx rfl
 simp only [go_sem, hw]
 refine ⟨by simp only [roomFor, hlen]; omega, ?_⟩
 refine roundK.intro (i + 1) (by omega) (by omega) ?_
 simp only [go_sem, e, List.map_cons]
 all_goals exact leB_self _
theorem con_xmeet1 (u : TmD) (x : Int) (hl : u.ls.length <= 1000000) : Con Try.prog 75 [vi x, .pe 0 2 [vTm u] 0 0] [] fun r _ => r = .sc (.bool (!decide (x ∈ u.ls))) := by
 refine Con.intro Try.func75 rfl Try.ntmps75 Try.results75 (by kernel_rfl) (by simp) 0 (by simp) ?_
 have e : (u.ls.any fun y => x == y) = decide (x ∈ u.ls) := by
  rw [Bool.eq_iff_iff, List.any_eq_true, decide_eq_true_eq]
  constructor
  ·rintro ⟨y, hy, h⟩; rw [beq_iff_eq.1 h]; exact hy
  ·intro h; exact ⟨x, h, beq_self_eq_true _⟩
 have hc := con_mxContains u.ls x (by omega)
 rw [e] at hc
 simp only [go_sem]
 refine CallU.free hc (by simp only [go_sem]) (by simp only [go_sem]) ?_
 rintro r bx rfl
 simp only [go_sem]
def xmeetTree : Tr := .front 0 (.front 1 (.front 3 (.front 4 (.alt (.one 2 (.alt (.one 5 (.alt (.hd 6 (.hd 7 (.one 8 (.one 9 .done)))) (.hd 7 (.hd 6 (.one 8 (.one 9 .done)))))) (.alt (.hd 6 (.alt (.one 5 (.hd 7 (.one 8 (.one 9 .done)))) (.hd 7 (.alt (.one 5 (.one 8 (.one 9 .done))) (.one 8 (.one 5 (.one 9 .done))))))) (.hd 7 (.alt (.one 5 (.hd 6 (.one 8 (.one 9 .done)))) (.hd 6 (.alt (.one 5 (.one 8 (.one 9 .done))) (.one 8 (.one 5 (.one 9 .done)))))))))) (.alt (.one 5 (.alt (.one 2 (.alt (.hd 6 (.hd 7 (.one 8 (.one 9 .done)))) (.hd 7 (.hd 6 (.one 8 (.one 9 .done)))))) (.alt (.hd 6 (.alt (.one 2 (.hd 7 (.one 8 (.one 9 .done)))) (.hd 7 (.one 2 (.one 8 (.one 9 .done)))))) (.hd 7 (.alt (.one 2 (.hd 6 (.one 8 (.one 9 .done)))) (.hd 6 (.one 2 (.one 8 (.one 9 .done))))))))) (.alt (.hd 6 (.alt (.one 2 (.alt (.one 5 (.hd 7 (.one 8 (.one 9 .done)))) (.hd 7 (.alt (.one 5 (.one 8 (.one 9 .done))) (.one 8 (.one 5 (.one 9 .done))))))) (.alt (.one 5 (.alt (.one 2 (.hd 7 (.one 8 (.one 9 .done)))) (.hd 7 (.one 2 (.one 8 (.one 9 .done)))))) (.hd 7 (.alt (.one 2 (.alt (.one 5 (.one 8 (.one 9 .done))) (.one 8 (.one 5 (.one 9 .done))))) (.one 5 (.one 2 (.one 8 (.one 9 .done))))))))) (.hd 7 (.alt (.one 2 (.alt (.one 5 (.hd 6 (.one 8 (.one 9 .done)))) (.hd 6 (.alt (.one 5 (.one 8 (.one 9 .done))) (.one 8 (.one 5 (.one 9 .done))))))) (.alt (.one 5 (.alt (.one 2 (.hd 6 (.one 8 (.one 9 .done)))) (.hd 6 (.one 2 (.one 8 (.one 9 .done)))))) (.hd 6 (.alt (.one 2 (.alt (.one 5 (.one 8 (.one 9 .done))) (.one 8 (.one 5 (.one 9 .done))))) (.one 5 (.one 2 (.one 8 (.one 9 .done)))))))))))))))
theorem meet_len : ∀ (n : Nat) (p q : List TmD), p.length + q.length <= n -> (meetP p q).length <= 2 ^ n
 | n, [], q, _ => by rw [meetP]; exact Nat.one_le_two_pow
 | n, _ :: _, [], _ => by rw [meetP]; exact Nat.one_le_two_pow
 | 0, _ :: _, _ :: _, h => by simp only [List.length_cons] at h; omega
 | n + 1, t :: p, u :: q, h => by
  simp only [List.length_cons] at h
  have h1 := meet_len n p q (by omega)
  have h2 := meet_len n p (u :: q) (by simp only [List.length_cons]; omega)
  have h3 := meet_len n (t :: p) q (by simp only [List.length_cons]; omega)
  have e : 2 ^ (n + 1) = 2 ^ n + 2 ^ n := by rw [Nat.pow_succ]; omega
  rw [meetP]
  unfold hdP
  split
  ·rw [List.length_map]; omega
  ·split
   ·rw [List.length_map]; omega
   ·split
    ·rw [List.length_map]; omega
    ·split
     ·rw [List.length_append]; omega
     ·rw [List.length_map, List.length_append]; omega
theorem meet_short : ∀ (n : Nat) (p q : List TmD), p.length + q.length <= n -> ∀ x ∈ meetP p q, x.length <= n
 | n, [], q, _, x, hx => by rw [meetP, List.mem_singleton] at hx; rw [hx]; simp
 | n, _ :: _, [], _, x, hx => by rw [meetP, List.mem_singleton] at hx; rw [hx]; simp
 | 0, _ :: _, _ :: _, h, _, _ => by simp only [List.length_cons] at h; omega
 | n + 1, t :: p, u :: q, h, x, hx => by
  simp only [List.length_cons] at h
  have h1 := meet_short n p q (by omega)
  have h2 := meet_short n p (u :: q) (by simp only [List.length_cons]; omega)
  have h3 := meet_short n (t :: p) q (by simp only [List.length_cons]; omega)
  have key : ∀ (v : TmD) (l : List (List TmD)), (∀ y ∈ l, y.length <= n) -> x ∈ hdP v l -> x.length <= n + 1 := fun v l hl hx => by
   obtain ⟨y, hy, rfl⟩ := List.mem_map.1 hx
   have := hl y hy
   rw [List.length_cons]; omega
  have h4 : ∀ y ∈ meetP p (u :: q) ++ meetP (t :: p) q, y.length <= n := fun y hy => (List.mem_append.1 hy).elim (h2 y) (h3 y)
  rw [meetP] at hx
  split at hx
  ·exact key _ _ h1 hx
  ·split at hx
   ·exact key _ _ h2 hx
   ·split at hx
    ·exact key _ _ h3 hx
    ·split at hx
     ·have := h4 x hx; omega
     ·exact key _ _ h4 hx
def ShortP (p : List TmD) : Prop := ∀ t ∈ p, t.ls.length <= 1000
theorem meet_letters : ∀ (n : Nat) (p q : List TmD), p.length + q.length <= n -> ShortP p -> ShortP q -> ∀ x ∈ meetP p q, ShortP x
 | n, [], q, _, _, _, x, hx => by rw [meetP, List.mem_singleton] at hx; rw [hx]; intro t ht; cases ht
 | n, _ :: _, [], _, _, _, x, hx => by rw [meetP, List.mem_singleton] at hx; rw [hx]; intro t ht; cases ht
 | 0, _ :: _, _ :: _, h, _, _, _, _ => by simp only [List.length_cons] at h; omega
 | n + 1, t :: p, u :: q, h, hp, hq, x, hx => by
  simp only [List.length_cons] at h
  have hp' : ShortP p := fun x hx => hp x (by simp [hx])
  have hq' : ShortP q := fun x hx => hq x (by simp [hx])
  have h1 := meet_letters n p q (by omega) hp' hq'
  have h2 := meet_letters n p (u :: q) (by simp only [List.length_cons]; omega) hp' hq
  have h3 := meet_letters n (t :: p) q (by simp only [List.length_cons]; omega) hp hq'
  have key : ∀ (v : TmD) (l : List (List TmD)), v.ls.length <= 1000 -> (∀ y ∈ l, ShortP y) -> x ∈ hdP v l -> ShortP x := fun v l hv hl hx => by
   obtain ⟨y, hy, rfl⟩ := List.mem_map.1 hx
   intro w hw
   rcases List.mem_cons.1 hw with rfl | hw
   ·exact hv
   ·exact hl y hy w hw
  have h4 : ∀ y ∈ meetP p (u :: q) ++ meetP (t :: p) q, ShortP y := fun y hy => (List.mem_append.1 hy).elim (h2 y) (h3 y)
  have ht := hp t (by simp)
  have hu := hq u (by simp)
  have hb : (bothL t.ls u.ls).length <= 1000 := Nat.le_trans (List.length_filter_le _ _) ht
  rw [meetP] at hx
  split at hx
  ·exact key _ _ ht h1 hx
  ·split at hx
   ·exact key _ _ ht h2 hx
   ·split at hx
    ·exact key _ _ hu h3 hx
    ·split at hx
     ·exact h4 x hx
     ·exact key _ _ hb h4 hx
theorem shareD {P : Program} {ops : Array Oper} {K : St -> Prop} {T : St -> Prop} {A : Prop} (h : (∀ τ, T τ -> DrawK P ops τ K) -> A) (key : ∀ τ, T τ -> DrawK P ops τ K) : A := h key
theorem DrawK.leX {P : Program} {ops : Array Oper} {σ : St} {K : St -> Prop} (τ : St) (hl : σ.le τ) (h : DrawK P ops τ K) : DrawK P ops σ K :=
 fun G0 w0 G a w id Q h0 hs hK => h G0 w0 G a w id Q h0 (hs.le hl) hK
theorem nil_pr : leV (AV.freeze (fun _ => true) (.sl 2 1 [.nil])) (.sl 0 1 [vPr []]) :=
 leV_slE (t := 0) rfl (fun y hy => by rw [List.mem_singleton.1 hy]; rfl) (PW.cons (Sub.nil 2) (PW.nil _))
def restM (t u : TmD) (p q : List TmD) : List (List TmD) := if !t.star || !u.star then meetP p (u :: q) ++ meetP (t :: p) q else hdP ⟨true, bothL t.ls u.ls⟩ (meetP p (u :: q) ++ meetP (t :: p) q)
theorem con_xmeet : ∀ (n : Nat) (p q : List TmD), p.length + q.length <= n -> n <= 18 -> OkP p -> OkP q -> ShortP p -> ShortP q -> Con Try.prog 35 [vPr p, vPr q] [] fun r _ => r = .sl 0 1 ((meetP p q).map vPr) := by
 intro n
 induction n with
 | zero =>
  intro p q h _ _ _ _ _
  obtain rfl : p = [] := List.length_eq_zero_iff.1 (by omega)
  refine Con.frozX ?_
  refine Con.intro Try.func35 rfl Try.ntmps35 Try.results35 (by kernel_rfl) (by simp) 0 (by simp) ?_
  rw [meetP]
  simp only [go_sem, List.map_nil, List.length_nil]
  exact nil_pr
 | succ n ih =>
  intro p q h hn hp hq hps hqs
  have ih := fun p q h => ih p q h (by omega)
  refine Con.frozX ?_
  refine Con.intro Try.func35 rfl Try.ntmps35 Try.results35 (by kernel_rfl) (by simp) 0 (by simp) ?_
  match p, q, h, hp, hq, hps, hqs with
  | [], q, h, hp, hq, hps, hqs =>
   rw [meetP]
   simp only [go_sem, List.map_nil, List.length_nil]
   exact nil_pr
  | t :: p, [], h, hp, hq, hps, hqs =>
   rw [meetP]
   have h0 : ((p.length : Int) + 1 == 0) = false := beq_eq_false_iff_ne.2 (by omega)
   simp only [go_sem, h0, List.map_nil, List.map_cons, List.length_nil, List.length_cons, List.length_map]
   exact nil_pr
  | t :: p, u :: q, h, hp, hq, hps, hqs =>
   simp only [List.length_cons] at h
   have h0 : ((p.length : Int) + 1 == 0) = false := beq_eq_false_iff_ne.2 (by omega)
   have h1 : ((q.length : Int) + 1 == 0) = false := beq_eq_false_iff_ne.2 (by omega)
   have hpos : (0 : Int) < (p.length : Int) + 1 := by omega
   have hqos : (0 : Int) < (q.length : Int) + 1 := by omega
   have htk : ∀ l : List TmD, (l.map vTm).take l.length = l.map vTm := fun l => List.take_of_length_le (by simp)
   have htl := hps t (by simp)
   have hul := hqs u (by simp)
   have hps' : ShortP p := fun x hx => hps x (by simp [hx])
   have hqs' : ShortP q := fun x hx => hqs x (by simp [hx])
   have c1 := ih p q (by omega) hp.tail hq.tail hps' hqs'
   have c2 := ih p (u :: q) (by simp only [List.length_cons]; omega) hp.tail hq hps' hqs
   have c3 := ih (t :: p) q (by simp only [List.length_cons]; omega) hp hq.tail hps hqs'
   have hpow : 2 ^ n <= 262144 := Nat.le_trans (Nat.pow_le_pow_right (by omega) (show n <= 18 by omega)) (by decide)
   have l1 := meet_len n p q (by omega)
   have l2 := meet_len n p (u :: q) (by simp only [List.length_cons]; omega)
   have l3 := meet_len n (t :: p) q (by simp only [List.length_cons]; omega)
   have s1 := meet_short n p q (by omega)
   have s2 := meet_short n p (u :: q) (by simp only [List.length_cons]; omega)
   have s3 := meet_short n (t :: p) q (by simp only [List.length_cons]; omega)
   simp only [vPr, List.map_cons] at c1 c2 c3
   simp only [go_sem] at c1 c2 c3
   simp only [go_sem, h0, h1, List.map_cons, List.length_cons, List.length_map]
   refine DrawK.meet ⟨117, [(0, .sl 0 2 (vTm t :: p.map vTm)), (1, .sl 0 2 (vTm u :: q.map vTm)), (5, .pe 384 2 [vTm t] 0 0), (6, .pe 448 2 [vTm u] 0 0)], []⟩ ?_ ?_
   ·refine DrawK.tree xmeetTree mixed (by kernel_rfl) ?_
    unfold xmeetTree
    simp only [go_sem, hpos, hqos, List.map_cons, List.length_cons, List.length_map]
   refine DrawK.freeze (fun _ => true) ?_
   apply shareD (T := fun τ => meetP (t :: p) (u :: q) = restM t u p q /\ τ.le ⟨117, [(0, .sl 0 2 (vTm t :: p.map vTm)), (1, .sl 0 2 (vTm u :: q.map vTm)), (5, .pe 0 2 [vTm t] 0 0), (6, .pe 0 2 [vTm u] 0 0)], []⟩)
   case h =>
    intro hsh
    cases hts : t.star with
    | false =>
     obtain ⟨y, hy⟩ := hp.head.one hts
     cases hus : u.star with
     | false =>
      obtain ⟨z, hz⟩ := hq.head.one hus
      by_cases hyz : y = z
      ·subst hyz
       have e : meetP (t :: p) (u :: q) = hdP t (meetP p q) := by rw [meetP, hts, hus, hy, hz, if_pos (by simp)]
       have cb := con_xbegun t (meetP p q) (by omega) (fun x hx => by have := s1 x hx; omega)
       rw [e]
       simp only [go_sem, hts, hy] at cb
       simp only [go_sem, hts, hus, hy, hz]
       refine DrawK.walk 19 mixed (by kernel_rfl) ?_
       simp only [go_sem, beq_self_eq_true]
       refine DrawK.walk 7 mixed (by kernel_rfl) ?_
       simp only [go_sem, htk, List.length_cons, List.length_map, Nat.le_refl]
       refine CallY.mk c1 (by simp only [go_sem]) (by simp only [go_sem]) (.inl (by simp only [go_sem])) ?_
       simp only [go_sem]
       refine CallY.mk cb (by simp only [go_sem]) (by simp only [go_sem]) (.inl (by simp only [go_sem])) ?_
       simp only [go_sem]
       exact leV_refl _
      ·have hne : (y == z) = false := beq_eq_false_iff_ne.2 hyz
       simp only [go_sem, hts, hus, hy, hz]
       refine DrawK.walk 19 mixed (by kernel_rfl) ?_
       simp only [go_sem, hne]
       refine hsh _ ⟨?_, ?_⟩
       ·unfold restM
        rw [meetP, hts, hus, hy, hz, if_neg (by simp; exact hyz), if_neg (by simp), if_neg (by simp), if_pos (by simp)]
       ·simp only [go_sem, hts, hus, hy, hz]
     | true =>
      have hw := con_xWithin t u (by omega) (by omega) (fun h => by rw [hus] at h; cases h)
      simp only [go_sem, hts, hus] at hw
      cases hwt : witT t u with
      | true =>
       have e : meetP (t :: p) (u :: q) = hdP t (meetP p (u :: q)) := by rw [meetP, hts, hus, hwt, if_neg (by simp), if_pos (by simp)]
       have cb := con_xbegun t (meetP p (u :: q)) (by omega) (fun x hx => by have := s2 x hx; omega)
       rw [e]
       rw [hwt] at hw
       simp only [go_sem, hts] at cb
       simp only [go_sem, hts, hus]
       refine DrawK.walk 19 mixed (by kernel_rfl) ?_
       simp only [go_sem]
       refine CallU.free hw (by simp only [go_sem]) (by simp only [go_sem]) ?_
       rintro r bx rfl
       simp only [go_sem]
       refine DrawK.walk 6 mixed (by kernel_rfl) ?_
       simp only [go_sem, htk, List.length_cons, List.length_map, Nat.le_refl]
       simp only [hus] at c2
       refine CallY.mk c2 (by simp only [go_sem]) (by simp only [go_sem]) (.inl (by simp only [go_sem])) ?_
       simp only [go_sem]
       refine CallY.mk cb (by simp only [go_sem]) (by simp only [go_sem]) (.inl (by simp only [go_sem])) ?_
       simp only [go_sem]
       exact leV_refl _
      | false =>
       rw [hwt] at hw
       simp only [go_sem, hts, hus]
       refine DrawK.walk 19 mixed (by kernel_rfl) ?_
       simp only [go_sem]
       refine CallU.free hw (by simp only [go_sem]) (by simp only [go_sem]) ?_
       rintro r bx rfl
       simp only [go_sem]
       refine hsh _ ⟨?_, ?_⟩
       ·unfold restM
        rw [meetP, hts, hus, hwt, if_neg (by simp), if_neg (by simp), if_neg (by simp), if_pos (by simp)]
       ·simp only [go_sem, hts, hus]
    | true =>
     cases hus : u.star with
     | false =>
      have hw := con_xWithin u t (by omega) (by omega) (fun h => by rw [hts] at h; cases h)
      simp only [go_sem, hts, hus] at hw
      cases hwt : witT u t with
      | true =>
       have e : meetP (t :: p) (u :: q) = hdP u (meetP (t :: p) q) := by rw [meetP, hts, hus, hwt, if_neg (by simp), if_neg (by simp), if_pos (by simp)]
       have cb := con_xbegun u (meetP (t :: p) q) (by omega) (fun x hx => by have := s3 x hx; omega)
       rw [e]
       rw [hwt] at hw
       simp only [go_sem, hus] at cb
       simp only [go_sem, hts, hus]
       refine DrawK.walk 19 mixed (by kernel_rfl) ?_
       simp only [go_sem]
       refine CallU.free hw (by simp only [go_sem]) (by simp only [go_sem]) ?_
       rintro r bx rfl
       simp only [go_sem]
       refine DrawK.walk 6 mixed (by kernel_rfl) ?_
       simp only [go_sem, htk, List.length_cons, List.length_map, Nat.le_refl]
       simp only [hts] at c3
       refine CallY.mk c3 (by simp only [go_sem]) (by simp only [go_sem]) (.inl (by simp only [go_sem])) ?_
       simp only [go_sem]
       refine CallY.mk cb (by simp only [go_sem]) (by simp only [go_sem]) (.inl (by simp only [go_sem])) ?_
       simp only [go_sem]
       exact leV_refl _
      | false =>
       rw [hwt] at hw
       simp only [go_sem, hts, hus]
       refine DrawK.walk 19 mixed (by kernel_rfl) ?_
       simp only [go_sem]
       refine CallU.free hw (by simp only [go_sem]) (by simp only [go_sem]) ?_
       rintro r bx rfl
       simp only [go_sem]
       refine hsh _ ⟨?_, ?_⟩
       ·unfold restM
        rw [meetP, hts, hus, hwt, if_neg (by simp), if_neg (by simp), if_neg (by simp), if_pos (by simp)]
       ·simp only [go_sem, hts, hus]
     | true =>
      simp only [go_sem, hts, hus]
      refine DrawK.walk 19 mixed (by kernel_rfl) ?_
      simp only [go_sem]
      refine hsh _ ⟨?_, ?_⟩
      ·unfold restM
       rw [meetP, hts, hus, if_neg (by simp), if_neg (by simp), if_neg (by simp), if_neg (by simp)]
      ·simp only [go_sem, hts, hus]
   case key =>
    rintro τ ⟨hrest, hle⟩
    rw [hrest]
    refine DrawK.leX _ hle ?_
    clear hle
    refine DrawK.walk 9 mixed (by kernel_rfl) ?_
    simp only [go_sem, htk, List.length_cons, List.length_map, Nat.le_refl]
    have hcc : Con Try.prog 72 [.sl 0 1 [.sl 0 1 ((meetP p (u :: q)).map vPr), .sl 0 1 ((meetP (t :: p) q).map vPr)]] [] fun r _ => r = .sl 0 1 ((meetP p (u :: q) ++ meetP (t :: p) q).map vPr) :=
     Con.frozX ((con_xConcatPr [meetP p (u :: q), meetP (t :: p) q] (by simp) (by rw [show [meetP p (u :: q), meetP (t :: p) q].flatten = meetP p (u :: q) ++ meetP (t :: p) q by simp, List.length_append]; omega)).mono fun r _ e => by
      subst e
      have : [meetP p (u :: q), meetP (t :: p) q].flatten = meetP p (u :: q) ++ meetP (t :: p) q := by simp
      rw [this]; exact leV_refl _)
    refine CallY.mk c2 (by simp only [go_sem]) (by simp only [go_sem]) (.inl (by simp only [go_sem])) ?_
    simp only [go_sem, htk, List.length_cons, List.length_map, Nat.le_refl]
    refine CallY.mk c3 (by simp only [go_sem]) (by simp only [go_sem]) (.inl (by simp only [go_sem])) ?_
    simp only [go_sem]
    refine CallU.freeze hcc (by simp only [go_sem]) (by simp only [go_sem]) ?_
    rintro r bx rfl
    unfold restM
    cases hts : t.star with
    | false =>
     rw [if_pos (by simp)]
     simp only [go_sem]
     exact leV_refl _
    | true =>
     cases hus : u.star with
     | false =>
      rw [if_pos (by simp)]
      simp only [go_sem]
      exact leV_refl _
     | true =>
      rw [if_neg (by simp)]
      simp only [go_sem]
      refine CallU.free (con_mxClone t.ls (by omega)) (by simp only [go_sem]) (by simp only [go_sem]) ?_
      rintro r bx rfl
      have hm1 := con_delFuncF t.ls 75 [.pe 0 2 [vTm u] 0 0] (fun x => !decide (x ∈ u.ls)) (fun x _ => con_xmeet1 u x (by omega)) (fun bx => by simp only [go_sem]) (by omega)
      simp only [go_sem, hus] at hm1
      simp only [go_sem]
      refine CallU.lend hm1 (by simp only [go_sem]) (by simp only [go_sem]) ?_
      rintro r rfl
      have ef : (t.ls.filter fun x => !!decide (x ∈ u.ls)) = bothL t.ls u.ls := by unfold bothL; congr 1; funext x; rw [Bool.not_not]
      rw [ef]
      have hbl : (bothL t.ls u.ls).length <= t.ls.length := List.length_filter_le _ _
      have cb := con_xbegun ⟨true, bothL t.ls u.ls⟩ (meetP p (u :: q) ++ meetP (t :: p) q) (by rw [List.length_append]; omega) (fun x hx => by
       rcases List.mem_append.1 hx with hx | hx
       ·have := s2 x hx; omega
       ·have := s3 x hx; omega)
      simp only [go_sem] at cb
      simp only [go_sem]
      refine CallU.freeze cb (by simp only [go_sem]) (by simp only [go_sem]) ?_
      rintro r bx rfl
      simp only [go_sem]
      exact leV_refl _
theorem allL_step (b : Int) (i : Nat) : allL (i + 1) b = if (i : Int) = b then allL i b else allL i b ++ [(i : Int)] := by
 unfold allL
 rw [List.range_succ, List.map_append, List.filter_append]
 by_cases h : (i : Int) = b
 ·rw [if_pos h]; simp [h]
 ·rw [if_neg h]; simp [h]
theorem allL_len (n : Nat) (b : Int) : (allL n b).length <= n := by
 unfold allL
 exact Nat.le_trans (List.length_filter_le _ _) (by simp)
theorem con_xall (n : Nat) (b : Int) (hn : n <= 1000) : Con Try.prog 44 [vi n, vi b] [] fun r _ => r = .ag [vb true, .sl 2 1 ((allL n b).map vi)] := by
 refine Con.intro Try.func44 rfl Try.ntmps44 Try.results44 (by kernel_rfl) (by simp) 0 (by simp) ?_
 simp only [go_sem]
 refine LoopK.intro (fun i : Nat => ⟨23, [(1, vi b), (4, .pb 0 0), (5, .pb 1 0), (8, vi n), (9, vi i)], [[.any, .any], [vb true, .sl 1282 1 ((allL i b).map vi)]]⟩)
  (fun i => n - i) (fun i => i <= n) 0 (Nat.zero_le _) ?_ ?_
 ·simp only [go_sem, show allL 0 b = [] from rfl, List.map_nil]
 rintro i hi
 have e := allL_step b i
 have hll := allL_len i b
 have hw : IntKind.i64.wrap (i + 1) = i + 1 := wrap_in (by omega) (by omega)
 by_cases h : i < n
 case neg =>
  have h' : i = n := by omega
  subst h'
  simp only [go_sem, h]
 by_cases hb : (i : Int) = b
 ·rw [if_pos hb] at e
  have hbb : ((i : Int) != b) = false := by simp [hb]
  simp only [go_sem, h, hbb, hw]
  refine roundK.intro (i + 1) (by omega) (by omega) ?_
  simp only [go_sem, e]
 ·rw [if_neg hb] at e
  have hbb : ((i : Int) != b) = true := by simp [hb]
  simp only [go_sem, h, hbb, hw]
  refine ⟨by simp only [roomFor]; omega, ?_⟩
  refine roundK.intro (i + 1) (by omega) (by omega) ?_
  simp only [go_sem, e]
  all_goals exact leV_sl (by rw [List.map_append]; rfl)
theorem con_xbelow1 (w : List Int) (_hl : w.length <= 1000000) : Con Try.prog 40 [vs 0 w] [] fun r _ => r = .sc (.bool (decide (3 < w.length))) := by
 refine Con.intro Try.func40 rfl Try.ntmps40 Try.results40 (by kernel_rfl) (by simp) 0 (by simp) ?_
 simp only [go_sem, List.length_map]
theorem con_xbelow2 (n x : Int) : Con Try.prog 43 [vi x, .fp [vi n] 0] [] fun r _ => r = .sc (.bool (!decide (0 <= x /\ x < n))) := by
 refine Con.intro Try.func43 rfl Try.ntmps43 Try.results43 (by kernel_rfl) (by simp) 0 (by simp) ?_
 by_cases h : x < 0
 ·have h' : ¬ (0 <= x /\ x < n) := by omega
  simp only [go_sem, h, h', decide_true, decide_false]
 ·by_cases h2 : n <= x
  ·have h' : ¬ (0 <= x /\ x < n) := by omega
   simp only [go_sem, h, h2, h', decide_true, decide_false]
  ·have h' : (0 <= x /\ x < n) := by omega
   simp only [go_sem, h, h2, h', decide_true, decide_false]
theorem con_xallF (n : Nat) (b : Int) (hn : n <= 1000) : Con Try.prog 44 [vi n, vi b] [] fun r _ => r = vTm (allT n b) :=
 Con.frozX ((con_xall n b hn).mono fun r _ e => by subst e; exact leV_refl _)
theorem without_snoc (n : Nat) (x : Int) : ∀ w : List Int, withoutP n (w ++ [x]) = withoutP n w ++ (match w.getLast? with | none => [] | some y => [⟨false, [y]⟩]) ++ [allT n x]
 | [] => rfl
 | [b] => rfl
 | b :: c :: w => by
  have ih := without_snoc n x (c :: w)
  rw [List.cons_append, List.cons_append, withoutP, <- List.cons_append, ih, withoutP, List.getLast?_cons_cons]
  simp
theorem without_step (n : Nat) {w : List Int} {i : Nat} (h : i < w.length) : withoutP n (w.take (i + 1)) = withoutP n (w.take i) ++ (if 0 < i then [⟨false, [w[i - 1]!]⟩] else []) ++ [allT n w[i]!] := by
 rw [List.take_succ_eq_append_getElem h, without_snoc, <- getElem!_pos w i h]
 by_cases h0 : 0 < i
 ·rw [if_pos h0]
  have : (w.take i).getLast? = some w[i - 1]! := by
   rw [List.getLast?_eq_getElem?, List.length_take, Nat.min_eq_left (by omega), List.getElem?_take, if_pos (by omega), List.getElem?_eq_getElem (by omega), getElem!_pos w _ (by omega)]
  rw [this]
 ·obtain rfl : i = 0 := by omega
  rfl
theorem without_len (n : Nat) : ∀ w : List Int, (withoutP n w).length <= 2 * w.length
 | [] => by simp [withoutP]
 | [b] => by simp [withoutP]
 | b :: c :: w => by
  have := without_len n (c :: w)
  rw [withoutP]; simp only [List.length_cons] at this ⊢; omega
theorem con_xwithout (n : Nat) (w : List Int) (hn : n <= 1000) (hl : w.length <= 1000) : Con Try.prog 45 [vi n, vs 0 w] [] fun r _ => r = vPr (withoutP n w) := by
 refine Con.frozX ?_
 refine Con.intro Try.func45 rfl Try.ntmps45 Try.results45 (by kernel_rfl) (by simp) 0 (by simp) ?_
 simp only [go_sem]
 refine LoopK.intro (fun i : Nat => ⟨35, [(0, vi n), (1, vs 0 w), (5, .sl 2112 2 ((withoutP n (w.take i)).map vTm)), (8, vs 0 w), (9, vi w.length), (10, vi i)], []⟩)
  (fun i => w.length - i) (fun i => i <= w.length) 0 (Nat.zero_le _) ?_ ?_
 ·simp only [go_sem, List.take_zero, show withoutP n [] = [] from rfl, List.map_nil]
  all_goals exact leB_self _
 rintro i hi
 by_cases h : i < w.length
 case neg =>
  have e : w.take i = w := List.take_of_length_le (by omega)
  simp only [go_sem, h, e]
  exact leV_refl _
 have hg := getv h
 have hw : IntKind.i64.wrap (i + 1) = i + 1 := wrap_in (by omega) (by omega)
 have e := without_step n h
 have hL := without_len n (w.take i)
 rw [List.length_take] at hL
 have ca := con_xallF n w[i]! hn
 simp only [vTm] at ca
 simp only [go_sem] at ca
 by_cases h0 : 0 < i
 ·rw [if_pos h0] at e
  have hg2 := getv (l := w) (i := i - 1) (by omega)
  have hw2 : IntKind.i64.wrap ((i : Int) - 1) = ((i - 1 : Nat) : Int) := by rw [wrap_in (by omega) (by omega)]; omega
  have hi2 : i - 1 < w.length := by omega
  simp only [go_sem, h, h0, hg, hw2, hg2, hi2, List.length_map]
  refine ⟨by simp only [roomFor]; omega, ?_⟩
  refine CallU.free ca (by simp only [go_sem]) (by simp only [go_sem]) ?_
  rintro r bx rfl
  simp only [go_sem, hw]
  refine ⟨by simp only [roomFor, List.length_map, List.length_append, List.length_cons, List.length_nil]; omega, ?_⟩
  refine roundK.intro (i + 1) (by omega) (by omega) ?_
  simp only [go_sem, e]
  exact leV_sl (by simp only [List.map_append, List.map_cons, List.map_nil]; rfl)
 ·rw [if_neg h0] at e
  simp only [go_sem, h, h0, hg, List.length_map]
  refine CallU.free ca (by simp only [go_sem]) (by simp only [go_sem]) ?_
  rintro r bx rfl
  simp only [go_sem, hw]
  refine ⟨by simp only [roomFor]; omega, ?_⟩
  refine roundK.intro (i + 1) (by omega) (by omega) ?_
  simp only [go_sem, e]
  exact leV_sl (by simp only [List.map_append, List.map_cons, List.map_nil]; rfl)
def bel01 : List TmD := [⟨true, [1]⟩, ⟨true, [0]⟩]
theorem bel01_eq : maxL (meetP [allT 2 2] (withoutP 2 [0, 1])) = [bel01] := by decide +kernel
def TellsRw (f : FuncId) (caps : List AV) (l : List (List Int)) (p : List Int -> Bool) : Prop := ∀ x ∈ l, Con Try.prog f ([vs 0 x] ++ caps) [] fun r _ => r = .sc (.bool (p x))
theorem con_indexRows (l : List (List Int)) (f : FuncId) (caps : List AV) (p : List Int -> Bool) (hc : mapTops (viewV []) caps = caps) (hf : TellsRw f caps l p) (hl : l.length <= 9223372036854775806) : Con Try.prog 76 [vm 0 l, .fn f caps] [] fun r _ => r = vi (findI p l) := by
 refine Con.intro Try.func76 rfl Try.ntmps76 Try.results76 (by kernel_rfl) (by simp) 0 (by simp) ?_
 simp only [go_sem]
 refine LoopK.intro (fun i : Nat => ⟨19, [(0, vm 0 l), (1, .fn f caps), (7, vi l.length), (8, vi i)], []⟩)
  (fun i => l.length - i) (fun i => i <= l.length /\ ∀ j, j < i -> p l[j]! = false) 0 ⟨by omega, fun j hj => by omega⟩ ?_ ?_
 ·simp only [go_sem]
 ·rintro i ⟨hi, hb⟩
  by_cases h : i < l.length
  ·have hg := getm h
   have hw : IntKind.i64.wrap (i + 1) = i + 1 := wrap_in (by omega) (by omega)
   simp only [go_sem, h, hg]
   refine CallU.look (hf l[i]! (mem_bang h)) (by simp only [go_sem]) (by simp only [go_sem, hc]) ?_
   rintro r bx rfl
   cases hp : p l[i]!
   ·simp only [go_sem, hw]
    refine roundK.intro (i + 1) ⟨by omega, fun j hj => ?_⟩ (by omega) ?_
    ·by_cases hji : j = i
     ·subst hji; exact hp
     ·exact hb j (by omega)
    ·simp only [go_sem]
   ·simp only [go_sem]
    rw [findI_stop h hb hp]
  ·simp only [go_sem, h]
   rw [findI_none (fun j hj => hb j (by omega))]
theorem con_containsRows (l : List (List Int)) (f : FuncId) (caps : List AV) (p : List Int -> Bool) (hc : mapTops (viewV []) caps = caps) (hf : TellsRw f caps l p) (hl : l.length <= 9223372036854775806) : Con Try.prog 39 [vm 0 l, .fn f caps] [] fun r _ => r = .sc (.bool (l.any p)) := by
 refine Con.intro Try.func39 rfl Try.ntmps39 Try.results39 (by kernel_rfl) (by simp) 0 (by simp) ?_
 simp only [go_sem]
 refine CallU.look (con_indexRows l f caps p hc hf hl) (by simp only [go_sem]) (by simp only [go_sem]) ?_
 rintro r bx rfl
 simp only [go_sem, findI_ge]
theorem in_all {n : Int} {ws : List (List Int)} (h : ∀ w ∈ ws, ∀ x ∈ w, 0 <= x /\ x < n) : (ws.flatten.any fun x => !decide (0 <= x /\ x < n)) = false := by
 rw [List.any_eq_false]
 intro x hx
 obtain ⟨w, hw, hxw⟩ := List.mem_flatten.1 hx
 simp [h w hw x hxw]
theorem flat_len {ws : List (List Int)} {c : Nat} (h : ∀ w ∈ ws, w.length <= c) : ws.flatten.length <= ws.length * c := by
 induction ws with
 | nil => simp
 | cons w ws ih =>
  have h1 := h w (by simp)
  have h2 := ih fun x hx => h x (by simp [hx])
  rw [List.flatten_cons, List.length_append, List.length_cons, Nat.succ_mul]; omega
theorem flatMap_len {α β : Type} {f : α -> List β} {c : Nat} : ∀ (l : List α), (∀ x ∈ l, (f x).length <= c) -> (l.flatMap f).length <= l.length * c
 | [], _ => by simp
 | x :: l, h => by
  have h1 := h x (by simp)
  have h2 := flatMap_len l fun y hy => h y (by simp [hy])
  rw [List.flatMap_cons, List.length_append, List.length_cons, Nat.succ_mul]; omega
structure BelOk (n : Nat) (ws : List (List Int)) (B : Nat -> List (List TmD)) : Prop where
 zero : B 0 = [[allT n n]]
 ok : ∀ k, k <= ws.length -> ∀ p ∈ B k, OkP p /\ ShortP p /\ p.length <= 12
 few : ∀ k, k <= ws.length -> (B k).length <= 1000
 step : ∀ k, k < ws.length -> Con Try.prog 34 [.sl 0 1 ((belowStep n (B k) ws[k]!).map vPr)] [] fun r _ => r = .sl 0 1 ((B (k + 1)).map vPr)
theorem without_short (n : Nat) (hn : n <= 1000) : ∀ w : List Int, ShortP (withoutP n w)
 | [] => fun t ht => by cases ht
 | [b] => fun t ht => by rw [withoutP, List.mem_singleton] at ht; rw [ht]; exact Nat.le_trans (allL_len n b) hn
 | b :: c :: w => fun t ht => by
  rw [withoutP] at ht
  rcases List.mem_cons.1 ht with rfl | ht
  ·exact Nat.le_trans (allL_len n b) hn
  rcases List.mem_cons.1 ht with rfl | ht
  ·simp
  ·exact without_short n hn (c :: w) t ht
theorem con_xBelow (n : Nat) (ws : List (List Int)) (B : Nat -> List (List TmD)) (hB : BelOk n ws B) (hn : 1 <= n /\ n <= 6) (h3 : ws.length <= 3) (hw : ∀ w ∈ ws, w ≠ [] /\ w.length <= 3) (hx : ∀ w ∈ ws, ∀ x ∈ w, 0 <= x /\ x < n) :
  Con Try.prog 20 [vi n, vm 0 ws] [] fun r _ => r = .tup [.sl 0 1 ((B ws.length).map vPr), vi 0] := by
 refine Con.intro Try.func20 rfl Try.ntmps20 Try.results20 (by kernel_rfl) (by simp) 0 (by simp) ?_
 have c1 := con_containsRows ws 40 [] (fun w => decide (3 < w.length)) (by simp only [go_sem]) (fun w hh => con_xbelow1 w (by have := (hw w hh).2; omega)) (by omega)
 have e1 : (ws.any fun w => decide (3 < w.length)) = false := by
  rw [List.any_eq_false]; intro w hh; have := (hw w hh).2; simp; omega
 rw [e1] at c1
 have hfl := flat_len fun w hh => (hw w hh).2
 have c2 := con_containsInt ws.flatten 43 [.fp [vi n] 0] (fun x => !decide (0 <= x /\ x < (n : Int))) (by simp only [go_sem]) (fun x _ => con_xbelow2 n x) (by omega)
 rw [in_all hx] at c2
 have c3 : Con Try.prog 42 [vm 0 ws] [] fun r _ => r = vs 0 ws.flatten :=
  Con.frozX ((con_mxConcat ws ⟨by omega, fun w hh => by have := (hw w hh).2; omega⟩).mono fun r _ e => by subst e; exact leV_refl _)
 have c4 := con_xallF n n (by omega)
 simp only [vTm] at c4
 simp only [go_sem] at c1 c2 c3 c4
 have hnn : decide (1 <= (n : Int) /\ (n : Int) <= 6) = true := decide_eq_true (by omega)
 have h3' : ¬ (3 : Int) < ws.length := by omega
 have cn := con_xNumber n
 rw [hnn] at cn
 simp only [go_sem]
 refine CallU.free cn (by simp only [go_sem]) (by simp only [go_sem]) ?_
 rintro r bx rfl
 simp only [go_sem, h3', List.length_map]
 refine CallU.look c1 (by simp only [go_sem]) (by simp only [go_sem]) ?_
 rintro r bx rfl
 simp only [go_sem]
 refine CallU.free c3 (by simp only [go_sem]) (by simp only [go_sem]) ?_
 rintro r bx rfl
 simp only [go_sem]
 refine CallU.look c2 (by simp only [go_sem]) (by simp only [go_sem]) ?_
 rintro r bx rfl
 simp only [go_sem]
 refine CallU.free c4 (by simp only [go_sem]) (by simp only [go_sem]) ?_
 rintro r bx rfl
 simp only [go_sem]
 refine LoopK.freeze (fun _ => true) (fun k : Nat => ⟨61, [(1, vm 0 ws), (2, .pb 0 0), (6, .sl 0 1 ((B k).map vPr)), (34, vm 0 ws), (35, vi ws.length), (36, vi k)], [[vi n]]⟩)
  (fun k => ws.length - k) (fun k => k <= ws.length) 0 (Nat.zero_le _) ?_ ?_
 ·simp only [go_sem, hB.zero, List.map_cons, List.map_nil]
 rintro k hk
 by_cases h : k < ws.length
 case neg =>
  have e : k = ws.length := by omega
  subst e
  simp only [go_sem, h]
 have hg := getm h
 have hwk := hw _ (mem_bang h)
 have hw1 : IntKind.i64.wrap (k + 1) = k + 1 := wrap_in (by omega) (by omega)
 have hl0 : ((ws[k]!.length : Int) == 0) = false := by
  have := List.length_pos_iff.2 hwk.1
  exact beq_eq_false_iff_ne.2 (by omega)
 have cw := con_xwithout n ws[k]! (by omega) (by omega)
 simp only [vPr] at cw
 simp only [go_sem] at cw
 have hf := hB.few k hk
 have hwl := without_len n ws[k]!
 simp only [go_sem, h, hg, hl0, List.length_map]
 refine LoopK.intro (fun j : Nat => ⟨61, [(1, vm 0 ws), (2, .pb 0 0), (6, .sl 0 1 ((B k).map vPr)), (8, vs 0 ws[k]!), (9, .sl 3584 1 ((((B k).take j).flatMap fun p => meetP p (withoutP n ws[k]!)).map vPr)), (34, vm 0 ws), (35, vi ws.length), (36, vi k), (43, .sl 0 1 ((B k).map vPr)), (44, vi (B k).length), (45, vi j)], [[vi n]]⟩)
  (fun j => (B k).length - j) (fun j => j <= (B k).length) 0 (Nat.zero_le _) ?_ ?_
 ·simp only [go_sem, List.take_zero, List.flatMap_nil, List.map_nil]
  all_goals exact leB_self _
 rintro j hj
 by_cases h2 : j < (B k).length
 case neg =>
  have e : (B k).take j = B k := List.take_of_length_le (by omega)
  have cm := hB.step k h
  unfold belowStep at cm
  simp only [go_sem, h2, e]
  refine CallU.freeze cm (by simp only [go_sem]) (by simp only [go_sem]) ?_
  rintro r bx rfl
  simp only [go_sem, hw1]
  refine roundK.intro (k + 1) (by omega) (by omega) ?_
  simp only [go_sem]
 have hg2 := getPr h2
 have hw2 : IntKind.i64.wrap (j + 1) = j + 1 := wrap_in (by omega) (by omega)
 obtain ⟨p1, p2, p3⟩ := hB.ok k hk _ (mem_bangI h2)
 have cm := con_xmeet 18 (B k)[j]! (withoutP n ws[k]!) (by omega) (by omega) p1 (without_ok n _) p2 (without_short n (by omega) _)
 have hml := meet_len 18 (B k)[j]! (withoutP n ws[k]!) (by omega)
 simp only [vPr] at cm
 have hsz : (((B k).take j).flatMap fun p => meetP p (withoutP n ws[k]!)).length <= 1000 * 262144 := by
  refine Nat.le_trans (flatMap_len (c := 262144) _ fun p hp => ?_) (Nat.mul_le_mul_right _ (Nat.le_trans (by rw [List.length_take]; omega) hf))
  have := hB.ok k hk p (List.mem_of_mem_take hp)
  exact Nat.le_trans (meet_len 18 p _ (by omega)) (by decide)
 have e : (((B k).take (j + 1)).flatMap fun p => meetP p (withoutP n ws[k]!)).map vPr = (((B k).take j).flatMap fun p => meetP p (withoutP n ws[k]!)).map vPr ++ (meetP (B k)[j]! (withoutP n ws[k]!)).map vPr := by
  rw [List.take_succ_eq_append_getElem h2, List.flatMap_append, List.map_append, <- getElem!_pos (B k) j h2]; simp
 simp only [go_sem, h2, hg2, List.length_map]
 refine CallU.free cw (by simp only [go_sem]) (by simp only [go_sem]) ?_
 rintro r bx rfl
 simp only [go_sem]
 refine CallU.free cm (by simp only [go_sem]) (by simp only [go_sem]) ?_
 rintro r bx rfl
 simp only [go_sem, hw2]
 refine ⟨by simp only [roomFor]; omega, ?_⟩
 refine roundK.intro (j + 1) (by omega) (by omega) ?_
 simp only [go_sem, e]
def belB (k : Nat) : List (List TmD) := if k = 0 then [[allT 2 2]] else [bel01]
theorem bel_ok : BelOk 2 [[0, 1]] belB := by
 have h0 : (∀ p ∈ belB 0, OkP p /\ ShortP p /\ p.length <= 12) := fun p hp => by
  have : p = [allT 2 2] := List.mem_singleton.1 hp
  subst this
  exact ⟨fun t ht => by rw [List.mem_singleton.1 ht]; exact allT_ok 2 2, fun t ht => by rw [List.mem_singleton.1 ht]; exact Nat.le_trans (allL_len 2 2) (by decide), by decide⟩
 have h1 : (∀ p ∈ belB 1, OkP p /\ ShortP p /\ p.length <= 12) := fun p hp => by
  have : p = bel01 := List.mem_singleton.1 hp
  subst this
  refine ⟨fun t ht => ?_, fun t ht => ?_, by decide⟩
  ·simp only [bel01, List.mem_cons, List.not_mem_nil, or_false] at ht
   rcases ht with rfl | rfl
   ·exact ⟨fun h => Bool.noConfusion h, rfl⟩
   ·exact ⟨fun h => Bool.noConfusion h, rfl⟩
  ·simp only [bel01, List.mem_cons, List.not_mem_nil, or_false] at ht
   rcases ht with rfl | rfl <;> exact Nat.le_trans (Nat.le_of_eq rfl) (show 1 <= 1000 by decide)
 refine ⟨rfl, fun k hk => ?_, fun k hk => ?_, fun k hk => ?_⟩
 ·match k, hk with
  | 0, _ => exact h0
  | 1, _ => exact h1
 ·match k, hk with
  | 0, _ => decide
  | 1, _ => decide
 ·obtain rfl : k = 0 := by simp only [List.length_cons, List.length_nil] at hk; omega
  have e : maxL (belowStep 2 [[allT 2 2]] [0, 1]) = [bel01] := by
   unfold belowStep
   rw [List.flatMap_cons, List.flatMap_nil, List.append_nil]; exact bel01_eq
  have hw : ∀ p ∈ belowStep 2 [[allT 2 2]] [0, 1], OkP p /\ LenP p := fun p hp => by
   obtain ⟨q, hq, hp⟩ := List.mem_flatMap.1 hp
   obtain ⟨q1, q2, q3⟩ := h0 q hq
   have hl := without_len 2 [0, 1]
   simp only [List.length_cons, List.length_nil] at hl
   have a := meet_ok 16 q (withoutP 2 [0, 1]) (by omega) q1 (without_ok 2 _) p hp
   have b := meet_short 16 q (withoutP 2 [0, 1]) (by omega) p hp
   have c := meet_letters 16 q (withoutP 2 [0, 1]) (by omega) q2 (without_short 2 (by decide) _) p hp
   exact ⟨a, ⟨by omega, fun t ht => Nat.le_trans (c t ht) (by decide)⟩⟩
  have hl : (belowStep 2 [[allT 2 2]] [0, 1]).length <= 1000000 := by decide +kernel
  have := con_xmaximal (belowStep 2 [[allT 2 2]] [0, 1]) hw hl (by rw [e]; decide)
  rw [e] at this
  exact this
theorem con_xawake : Con Try.prog 6 [] [] fun r _ => r = .sc (.bool true) := by
 refine Con.intro Try.func6 rfl Try.ntmps6 Try.results6 (by kernel_rfl) (by simp) 0 (by simp) ?_
 have c1 := con_xBelow 2 [[0, 1]] belB bel_ok (by decide) (by decide) (by decide) (by decide)
 simp only [go_sem, show ([[0, 1]] : List (List Int)).length = 1 from rfl, show belB 1 = [bel01] from rfl, List.map_cons, List.map_nil] at c1
 have c2 : Con Try.prog 23 [vi 2, vPr [⟨false, [1]⟩, ⟨true, [0]⟩], vi 1] [] fun r _ => r = .tup [vPr [⟨true, [0]⟩], vb true, vi 0] := by
  have c := con_xBehind 2 [⟨false, [1]⟩, ⟨true, [0]⟩] 1 ⟨by decide, by decide⟩
  have e : behX 2 [⟨false, [1]⟩, ⟨true, [0]⟩] 1 = .tup [vPr [⟨true, [0]⟩], vb true, vi 0] := by
   have h1 : letX 2 [⟨false, [1]⟩, ⟨true, [0]⟩] 1 = 0 := by decide +kernel
   have h2 : behP 1 [⟨false, [1]⟩, ⟨true, [0]⟩] = some [⟨true, [0]⟩] := by decide +kernel
   have h3 : normP [⟨true, [0]⟩] = [⟨true, [0]⟩] := by decide +kernel
   unfold behX
   rw [h1, if_neg (by decide), h2]
   show AV.tup [vPr (normP [⟨true, [0]⟩]), vb true, vi 0] = _
   rw [h3]
  rwa [e] at c
 have lb : LenP bel01 := ⟨by decide, by decide⟩
 have c3 := con_xHas 2 bel01 [1, 1, 0] lb (by decide)
 have c4 := con_xHas 2 bel01 [0, 1] lb (by decide)
 have c5 := con_xCheckL 2 bel01 lb
 have c6 := con_xLeq 2 [⟨true, [0]⟩] bel01 ⟨by decide, by decide⟩ lb
 rw [show hasX 2 bel01 [1, 1, 0] = true by decide +kernel] at c3
 rw [show hasX 2 bel01 [0, 1] = false by decide +kernel] at c4
 rw [show checkX 2 bel01 = 0 by decide +kernel] at c5
 rw [show leqX 2 [⟨true, [0]⟩] bel01 = true by decide +kernel] at c6
 simp only [vPr, vTm, bel01, List.map_cons, List.map_nil] at c1 c2 c3 c4 c5 c6
 simp only [go_sem, List.map_cons, List.map_nil] at c1 c2 c3 c4 c5 c6
 simp only [go_sem]
 refine CallU.freeze c1 (by simp only [go_sem]) (by simp only [go_sem]) ?_
 rintro r bx rfl
 simp only [go_sem]
 refine CallU.freeze c2 (by simp only [go_sem]) (by simp only [go_sem]) ?_
 rintro r bx rfl
 simp only [go_sem]
 dsimp only [List.append]
 simp only [go_sem]
 refine CallU.freeze c3 (by simp only [go_sem]) (by simp only [go_sem]) ?_
 rintro r bx rfl
 simp only [go_sem]
 refine CallU.freeze c4 (by simp only [go_sem]) (by simp only [go_sem]) ?_
 rintro r bx rfl
 simp only [go_sem]
 refine CallU.freeze c5 (by simp only [go_sem]) (by simp only [go_sem]) ?_
 rintro r bx rfl
 simp only [go_sem]
 refine CallU.freeze c6 (by simp only [go_sem]) (by simp only [go_sem]) ?_
 rintro r bx rfl
 simp only [go_sem]
 all_goals trace_state
end Go.AM
namespace Go.AM
open Go.RowKit
def noPb (N : Nat) : AV -> Bool
 | .pb i _ => decide (i ≠ N)
 | .cl _ caps => caps.all fun c => match c with
  | .pb i _ => decide (i ≠ N)
  | _ => true
 | _ => true
def noPbT (N : Nat) : List (Nat × AV) -> Bool
 | [] => true
 | (_, v) :: r => v.allLeaf (noPb N) && noPbT N r
def noPbB (N : Nat) : List (List AV) -> Bool
 | [] => true
 | cs :: r => allLeafs (noPb N) cs && noPbB N r
def lookA : List (Nat × Nat) -> Nat -> Option Nat
 | [], _ => none
 | (i, N) :: r, k => if i = k then some N else lookA r k
def AllocP (P : Program) (bx : List (List AV)) (o : Oper) (N : Nat) (y : AV) : Prop :=
 o.guard = none /\ y = .pb N 0 /\ ∃ T q z, o.op = .alloc T /\ tinfo P T = some q /\ q.2.2 = some z /\ zeroOk q.1 z = true /\ bx[N]? = some (List.replicate q.1 .any)
section
variable {P : Program} {ops : Array Oper} {m : Nat} {vs : List (Nat × AV)} {E : List Nat} {A : List (Nat × Nat)} {C : Nat -> List AV} {i0 : Nat} {σ : St} {K : St -> Prop} {G0 : Orig} {w0 : World} {Q : Exit -> Act -> World -> Prop}
end
def noVar : AV -> Bool
 | .pb _ _ => false
 | .cl _ _ => false
 | _ => true
def AllocK (P : Program) (o : Oper) (N : Nat) (σ : St) (K : St -> Prop) : Prop :=
 ∃ d, o.dst = some d /\ d < σ.n /\ AllocP P σ.boxes o N (.pb N 0) /\ K (σ.put (some d) (.pb N 0))
section
variable {P : Program} {ops : Array Oper} {n0 i0 : Nat} {E LF : List Nat} {A : List (Nat × Nat)}
def pbBut (N d : Nat) : List (Nat × AV) -> Bool
 | [] => true
 | (s, v) :: r => (s == d || v.allLeaf (noPb N)) && pbBut N d r
def keptOk (ops : Array Oper) (l : List (Nat × AV)) : List (Nat × Nat) -> Bool
 | [] => true
 | (i, N) :: r => (match (ops[i]?).bind (·.dst) with
  | some d => pbBut N d l
  | none => false) && keptOk ops l r
def keptFree (σ : St) : List (Nat × Nat) -> Bool
 | [] => true
 | (_, N) :: r => (decide (σ.boxes.length <= N) && (noPbT N σ.tmps && noPbB N σ.boxes)) && keptFree σ r
def anyB (ph : List Nat) : List (List AV) := ph.map fun k => List.replicate k .any
def hasD (d s : Nat) : List (Nat × Nat) -> Bool
 | [] => false
 | (a, b) :: r => (a == d && b == s) || hasD d s r
def freeButD (D : List (Nat × Nat)) (d : Nat) : List (Nat × AV) -> Bool
 | [] => true
 | (s, v) :: r => (s == d || (hasD d s D || v.allLeaf (freeLeaf d))) && freeButD D d r
def freeOthersD (D : List (Nat × Nat)) (l : List (Nat × AV)) : List Nat -> Bool
 | [] => true
 | d :: r => freeButD D d l && freeOthersD D l r
end
def headZ (P : Program) (ops : Array Oper) (_n0 i0 : Nat) (_E _LF : List Nat) (A : List (Nat × Nat)) (D : List (Nat × Nat)) (ds : List Nat) (tr : Tr) (sg : Option (Nat × Tr)) (σ : St) (c : List AV) (K : St -> Prop) : Prop :=
 (freeOthersD D σ.tmps ds = true /\ keptOk ops σ.tmps A = true) /\ treeA P ops tr { σ with boxes := σ.boxes.set i0 c } K /\ sgA P ops sg { σ with boxes := σ.boxes.set i0 c } K
def headY (P : Program) (ops : Array Oper) (n0 i0 : Nat) (E LF : List Nat) (A : List (Nat × Nat)) (D : List (Nat × Nat)) (ds : List Nat) (tr : Tr) (sg : Option (Nat × Tr)) : Nat -> Nat -> List Oper -> St -> List AV -> (St -> Prop) -> Prop
 | _, 0, _, σ, c, K => headZ P ops n0 i0 E LF A D ds tr sg σ c K
 | _, _ + 1, [], σ, c, K => headZ P ops n0 i0 E LF A D ds tr sg σ c K
 | k, m + 1, o :: r, σ, c, K => if E.contains k = true then EffK P n0 i0 o σ c fun σ' c' => allLeafs noVar c' = true /\ headY P ops n0 i0 E LF A D ds tr sg (k + 1) m r σ' c' K else if LF.contains k = true then frB P o σ fun σ' => headY P ops n0 i0 E LF A D ds tr sg (k + 1) m r σ' c K else match lookA A k with
  | some N => AllocK P o N σ fun σ' => headY P ops n0 i0 E LF A D ds tr sg (k + 1) m r σ' c K
  | none => headG P ops o σ fun σ' => headY P ops n0 i0 E LF A D ds tr sg (k + 1) m r σ' c K
section
variable {P : Program} {n : Nat} {t : List (Nat × AV)} {b : List (List AV)} {ops : Array Oper} {n0 i0 k m : Nat} {E LF ds : List Nat} {A D : List (Nat × Nat)} {tr : Tr} {sg : Option (Nat × Tr)} {l : List Oper} {c : List AV} {K : St -> Prop}
variable {d : Nat} {T : TypeId} {pos : String} {af : Array Edge} {g : Option (Nat × Bool)}
@[congr] theorem headY_congr {n0' k' : Nat} {σ σ' : St} {c' : List AV} (h0 : n0 = n0') (h1 : k = k') (h : mkd σ = σ') (h2 : c = c') : headY P ops n0 i0 E LF A D ds tr sg k m l σ c K = headY P ops n0' i0 E LF A D ds tr sg k' m l σ' c' K := by subst_vars; rfl
def selN (o : Option Nat) (f : Nat -> Prop) (p : Prop) : Prop := match o with
 | some N => f N
 | none => p
@[congr] theorem selN_congr {o o' : Option Nat} {f : Nat -> Prop} {p : Prop} (h : o = o') : selN o f p = selN o' f p := by subst_vars; rfl
@[go_sem] theorem selN_some {N : Nat} {f : Nat -> Prop} {p : Prop} : selN (some N) f p = f N := rfl
@[go_sem] theorem selN_none {f : Nat -> Prop} {p : Prop} : selN none f p = p := rfl
@[congr] theorem AllocK_congr {o : Oper} {N : Nat} {σ σ' : St} {K : St -> Prop} (h : mkd σ = σ') : AllocK P o N σ K = AllocK P o N σ' K := by subst_vars; rfl
attribute [go_sem] freeOthersD freeButD hasD lookA keptOk pbBut keptFree noPbT noPbB noPb noVar anyB
end
end Go.AM
namespace Go.AM
open Go Go.Proofs Go.RowKit
theorem Con.freezeB {P : Program} {f : FuncId} {args : List AV} {bx : List (List AV)} {post : AV -> List (List AV) -> Prop} (p : Nat -> Bool) (h : Con P f args bx post) : Con P f args bx fun r' b' => ∃ r b, post r b /\ r' = r.freeze p /\ b' = b.map fun cs => cs.map (AV.freeze p) :=
 ⟨h.1, fun G w vs h1 h2 h3 h4 h5 => (h.2 G w vs h1 h2 h3 h4 h5).mono fun e w' ⟨v, r, bx', G', he, hq, hr, hg, hbx, hlt, e1, e2, e3, e4, e5, e6⟩ => by
  have hbox : ∀ k i, freezeG p G' k = .box i ↔ G' k = .box i := fun k i => by
   unfold freezeG; split
   ·rename_i t ht; split <;> simp [ht]
   ·exact Iff.rfl
  refine ⟨v, _, bx'.map (fun cs => cs.map (AV.freeze p)), freezeG p G', he, ⟨r, bx', hq, rfl, rfl⟩, hr.freeze, hg.freeze, ⟨fun i vs hv => by simp [noGh] at hv, fun i cs hi => ?_⟩, fun k i hk => by simpa using hlt k i ((hbox k i).1 hk), e1, e2, e3, e4, fun k hk => ?_, e6⟩
  ·rw [List.getElem?_map] at hi
   cases hc : bx'[i]? with
   | none => simp [hc] at hi
   | some cs' =>
    simp [hc] at hi; subst hi
    exact (hbx.cell i cs' hc).map (fun x v hr => hr.freeze) (fun k hk => ⟨(hbox k i).2 hk, rfl⟩) fun h0 k hk => h0 k ((hbox k i).1 hk)
  ·have := e5 k hk
   unfold freezeG
   split
   ·rename_i t ht; rw [this] at ht; exact absurd ht (h2 k t)
   ·exact this⟩
def kidN (n : Int) : AV := .ag [vi n, .nil]
def cfgN (t s : Nat) (v : List Int) : AV := .ag [vi 0, .sl t 2 (((s : Int) :: v).map kidN)]
attribute [go_sem] kidN cfgN
set_option maxRecDepth 100000
abbrev DS := Nat × Int
def deckA (l : List Int) (s : DS) : List AV := [.sl 0 1 (l.map vi), .sc (.int .i64 s.1), .sc (.int .u64 s.2)]
attribute [go_sem] deckA
def Dk (l : List Int) (s : DS) : Prop := s.1 <= l.length /\ l.length <= 1000
theorem con_dNew (l : List Int) : Con Try.prog 8 [vs 0 l] [] fun r b => r = .pb 0 0 /\ b = [deckA l (0, 11400714819323198485)] := by
 refine Con.intro Try.func8 rfl Try.ntmps8 Try.results8 (by kernel_rfl) (by simp) 1 (by simp) ?_
 simp only [go_sem]
theorem u64_range (x : Int) : 0 <= IntKind.u64.wrap x /\ IntKind.u64.wrap x < 18446744073709551616 := by
 rw [IntKind.wrap_u64]; omega
def longX (l : List Int) (s : DS) : Int := if s.1 < l.length then IntKind.u64.wrap l[s.1]! else 0
def longT (l : List Int) (s : DS) : Int := IntKind.u64.wrap (IntKind.u64.wrap (IntKind.u64.wrap (s.2 + longX l s) * 6364136223846793005) + 1442695040888963407)
def longS (l : List Int) (s : DS) : DS := (if s.1 < l.length then s.1 + 1 else s.1, longT l s)
def mixX (x : Int) (k : Nat) : Int := IntKind.u64.wrap (BitVec.ofInt 64 x ^^^ BitVec.ofInt 64 (x.fdiv (2 ^ min k 64))).toNat
def longV (l : List Int) (s : DS) : Int := mixX (IntKind.u64.wrap (mixX (longT l s) 33 * 18397679294719823053)) 29
theorem longV_range (l : List Int) (s : DS) : 0 <= longV l s /\ longV l s < 18446744073709551616 := u64_range _
theorem con_dLong (l : List Int) (s : DS) (h : Dk l s) : Con Try.prog 37 [.pb 0 0] [deckA l s]
  fun r b => r = .sc (.int .u64 (longV l s)) /\ b = [deckA l (longS l s)] := by
 refine Con.intro Try.func37 rfl Try.ntmps37 Try.results37 (by kernel_rfl) (by simp) 1 (by simp) ?_
 obtain ⟨at_, st⟩ := s
 obtain ⟨ha, hl⟩ := h
 simp only at ha
 by_cases h : at_ < l.length
 ·simp only [go_sem]
  refine DrawK.walk 10 mixed (by kernel_rfl) ?_
  have hg := getv h
  have hw : IntKind.i64.wrap (at_ + 1) = at_ + 1 := wrap_in (by omega) (by omega)
  simp only [go_sem, h]
  refine DrawK.walk 12 mixed (by kernel_rfl) ?_
  simp only [go_sem, h, hg, hw]
  refine DrawK.walk 11 mixed (by kernel_rfl) ?_
  simp only [go_sem, longV, mixX, longS, longT, longX, h]
  rfl
 ·simp only [go_sem]
  refine DrawK.walk 10 mixed (by kernel_rfl) ?_
  simp only [go_sem, h]
  refine DrawK.walk 11 mixed (by kernel_rfl) ?_
  simp only [go_sem, longV, mixX, longS, longT, longX, h]
  rfl
theorem longS_dk {l : List Int} {s : DS} (h : Dk l s) : Dk l (longS l s) := by
 obtain ⟨h1, h2⟩ := h
 refine ⟨?_, h2⟩
 unfold longS
 simp only
 split <;> omega
def nextV (l : List Int) (s : DS) (n : Int) : Int := if n < 1 then 0 else (longV l s / 2) % n
def nextS (l : List Int) (s : DS) (n : Int) : DS := if n < 1 then s else longS l s
theorem nextS_dk {l : List Int} {s : DS} {n : Int} (h : Dk l s) : Dk l (nextS l s n) := by
 unfold nextS; split
 ·exact h
 ·exact longS_dk h
theorem nextV_lt {l : List Int} {s : DS} {n : Int} (hn : 1 <= n) : 0 <= nextV l s n /\ nextV l s n < n := by
 unfold nextV
 rw [if_neg (by omega)]
 exact ⟨Int.emod_nonneg _ (by omega), Int.emod_lt_of_pos _ (by omega)⟩
theorem con_dNext (l : List Int) (s : DS) (n : Int) (h : Dk l s) : Con Try.prog 19 [.pb 0 0, vi n] [deckA l s]
  fun r b => r = vi (nextV l s n) /\ b = [deckA l (nextS l s n)] := by
 refine Con.intro Try.func19 rfl Try.ntmps19 Try.results19 (by kernel_rfl) (by simp) 1 (by simp) ?_
 by_cases h1 : n < 1
 ·simp only [go_sem, h1, nextV, nextS]
 ·have hr := longV_range l s
  simp only [go_sem, h1, nextV, nextS]
  refine CallU.boxes (i := 0) (is := []) (bx0 := [deckA l s]) (con_dLong l s h) (by simp only [go_sem]) (by simp only [go_sem]) (by simp only [go_sem]) (by simp only [go_sem]) (by simp only [go_sem]) ?_
  rintro r b ⟨rfl, rfl⟩
  simp only [go_sem]
  have hv : IntKind.i64.wrap ((longV l s).fdiv (2 ^ min 1 64)) = longV l s / 2 := by
   have e : (2 : Int) ^ min 1 64 = 2 := rfl
   rw [e, Int.fdiv_eq_ediv_of_nonneg _ (by omega)]
   exact wrap_in (by omega) (by omega)
  rw [hv, Int.tmod_eq_emod_of_nonneg (by omega)]
  exact ⟨by omega, rfl⟩
def oneV (l : List Int) (s : DS) (n : Int) : Bool := nextV l s n == 0
theorem con_dOne (l : List Int) (s : DS) (n : Int) (h : Dk l s) : Con Try.prog 25 [.pb 0 0, vi n] [deckA l s]
  fun r b => r = vb (oneV l s n) /\ b = [deckA l (nextS l s n)] := by
 refine Con.intro Try.func25 rfl Try.ntmps25 Try.results25 (by kernel_rfl) (by simp) 1 (by simp) ?_
 simp only [go_sem]
 refine CallU.boxes (i := 0) (is := []) (bx0 := [deckA l s]) (con_dNext l s n h) (by simp only [go_sem]) (by simp only [go_sem]) (by simp only [go_sem]) (by simp only [go_sem]) (by simp only [go_sem]) ?_
 rintro r b ⟨rfl, rfl⟩
 simp only [go_sem, oneV]
set_option maxHeartbeats 8000000
theorem ascI_snoc : ∀ {l : List Int} {x : Int}, ascI l = true -> (∀ y ∈ l, y < x) -> ascI (l ++ [x]) = true
 | [], _, _, _ => rfl
 | [a], x, _, h => by
  show (decide (a < x) && true) = true
  rw [decide_eq_true (h a (by simp))]; rfl
 | a :: b :: l, x, h, hx => by
  obtain ⟨h1, h2⟩ := asc_lt h
  have ih := ascI_snoc h2 fun y hy => hx y (by simp [List.mem_cons.1 hy])
  show (decide (a < b) && ascI (b :: (l ++ [x]))) = true
  rw [decide_eq_true (h1 b (by simp)), Bool.true_and]; exact ih
structure DealtP (n most : Nat) (p : List TmD) : Prop where
 ok : OkP p
 few : p.length <= most
 ls : ∀ t ∈ p, t.ls.length <= n /\ ∀ y ∈ t.ls, 0 <= y /\ y < n
structure StarL (x : Nat) (ls : List Int) : Prop where
 asc : ascI ls = true
 few : ls.length <= x
 lt : ∀ y ∈ ls, 0 <= y /\ y < x
theorem StarL.next {x : Nat} {ls : List Int} (h : StarL x ls) : StarL (x + 1) ls := ⟨h.asc, by have := h.few; omega, fun y hy => by have := h.lt y hy; omega⟩
theorem StarL.snoc {x : Nat} {ls : List Int} (h : StarL x ls) : StarL (x + 1) (ls ++ [(x : Int)]) :=
 ⟨ascI_snoc h.asc fun y hy => (h.lt y hy).2, by have := h.few; rw [List.length_append]; simp; omega, fun y hy => by
  rcases List.mem_append.1 hy with hy | hy
  ·have := h.lt y hy; omega
  ·rw [List.mem_singleton.1 hy]; omega⟩
theorem DealtP.snoc {n k : Nat} {p : List TmD} {t : TmD} (h : DealtP n k p) (ht : t.Ok) (hl : t.ls.length <= n) (hy : ∀ y ∈ t.ls, 0 <= y /\ y < n) : DealtP n (k + 1) (p ++ [t]) :=
  ⟨fun u hu => by
    rcases List.mem_append.1 hu with hu | hu
    · exact h.ok u hu
    · rw [List.mem_singleton.1 hu]; exact ht,
   by have := h.few; rw [List.length_append]; simp; omega,
   fun u hu => by
    rcases List.mem_append.1 hu with hu | hu
    · exact h.ls u hu
    · rw [List.mem_singleton.1 hu]; exact ⟨hl, hy⟩⟩
theorem con_dProduct (l : List Int) (s : DS) (n most : Nat) (h : Dk l s) (hn : 1 <= n /\ n <= 1000) (hm : most <= 1000) : Con Try.prog 9 [.pb 0 0, vi n, vi most] [deckA l s]
  fun r b => ∃ p s', DealtP n most p /\ Dk l s' /\ r = vPr p /\ b = [deckA l s'] := by
 have key : Con Try.prog 9 [.pb 0 0, vi n, vi most] [deckA l s]
  fun r b => ∃ p s', DealtP n most p /\ Dk l s' /\ r = .sl 2 2 (p.map vTm) /\ b = [deckA l s'] := by
  refine Con.intro Try.func9 rfl Try.ntmps9 Try.results9 (by kernel_rfl) (by simp) 1 (by simp) ?_
  have hw0 : IntKind.i64.wrap ((most : Int) + 1) = ((most + 1 : Nat) : Int) := by rw [wrap_in (by omega) (by omega)]; omega
  simp only [go_sem, hw0]
  refine CallU.boxes (i := 0) (is := []) (bx0 := [deckA l s]) (con_dNext l s ((most + 1 : Nat) : Int) h) (by simp only [go_sem]) (by simp only [go_sem]) (by simp only [go_sem]) (by simp only [go_sem]) (by simp only [go_sem]) ?_
  rintro r b ⟨rfl, rfl⟩
  have hn1 := nextV_lt (l := l) (s := s) (n := ((most + 1 : Nat) : Int)) (by omega)
  have hd1 : Dk l (nextS l s ((most + 1 : Nat) : Int)) := nextS_dk h
  obtain ⟨c, ec⟩ : ∃ c : Nat, nextV l s ((most + 1 : Nat) : Int) = c := ⟨_, (Int.toNat_of_nonneg hn1.1).symm⟩
  rw [ec] at hn1 ⊢
  generalize nextS l s ((most + 1 : Nat) : Int) = s1 at hd1
  simp only [go_sem]
  refine LoopK.intro (fun x : List TmD × DS × Nat × Nat => ⟨48, [(0, .pb 0 0), (1, vi n), (7, .sl 1856 2 (x.1.map vTm)), (8, vi x.2.2.1)], deckA l x.2.1 :: Rk 2 x.2.2.2⟩)
   (fun x => x.2.2.1) (fun x => x.2.2.1 <= c /\ DealtP n (c - x.2.2.1) x.1 /\ Dk l x.2.1) ([], s1, c, 0) ⟨Nat.le_refl _, ⟨fun t ht => absurd ht (by simp), Nat.zero_le _, fun t ht => absurd ht (by simp)⟩, hd1⟩ ?_ ?_
  ·simp only [go_sem, Rk, List.replicate, List.map_nil]
   all_goals exact leB_self _
  rintro ⟨p, s2, k, j⟩ ⟨hk, hp, hd2⟩
  simp only at hk hp hd2
  have hB := Rk_len 2 j
  have n0 := fun L : List (List AV) => app_at0 (L := L) hB
  have t0 := fun (L : List (List AV)) z => app_set0 (L := L) (z := z) hB
  have hpl := hp.few
  by_cases h0 : 0 < k
  case neg =>
   obtain rfl : k = 0 := by omega
   simp only [go_sem]
   refine ⟨p, s2, ⟨hp.ok, by omega, hp.ls⟩, hd2, rfl, rfl⟩
  have hwk : IntKind.i64.wrap ((k : Int) - 1) = ((k - 1 : Nat) : Int) := by rw [wrap_in (by omega) (by omega)]; omega
  simp only [go_sem, h0]
  refine CallU.boxes (i := 0) (is := []) (bx0 := [deckA l s2]) (con_dOne l s2 2 hd2) (by simp only [go_sem]) (by simp only [go_sem]) (by simp only [go_sem]) (by simp only [go_sem]) (by simp only [go_sem]) ?_
  rintro r b ⟨rfl, rfl⟩
  have hd3 : Dk l (nextS l s2 2) := nextS_dk hd2
  generalize nextS l s2 2 = s3 at hd3
  cases h1 : oneV l s2 2 with
  | true =>
   simp only [go_sem]
   refine CallU.boxes (i := 0) (is := []) (bx0 := [deckA l s3]) (con_dNext l s3 n hd3) (by simp only [go_sem]) (by simp only [go_sem]) (by simp only [go_sem]) (by simp only [go_sem]) (by simp only [go_sem]) ?_
   rintro r b ⟨rfl, rfl⟩
   have hn2 := nextV_lt (l := l) (s := s3) (n := n) (by omega)
   have hd4 : Dk l (nextS l s3 n) := nextS_dk hd3
   generalize nextV l s3 n = y at hn2
   generalize nextS l s3 n = s4 at hd4
   simp only [go_sem, hwk]
   refine ⟨by simp only [roomFor]; omega, ?_⟩
   refine roundK.intro (p ++ [⟨false, [y]⟩], s4, k - 1, j) ⟨by show k - 1 <= c; omega, by
    have := hp.snoc (t := ⟨false, [y]⟩) ⟨fun _ => ⟨y, rfl⟩, rfl⟩ (by simp; omega) (fun z hz => by rw [List.mem_singleton.1 hz]; exact hn2)
    rwa [show c - k + 1 = c - (k - 1) by omega] at this, hd4⟩ (by show k - 1 < k; omega) ?_
   simp only [go_sem, List.map_append, List.map_cons, List.map_nil]
  | false =>
   simp only [go_sem, hB, n0, t0]
   refine LoopK.intro (fun x : List Int × DS × Nat => ⟨48, [(0, .pb 0 0), (1, vi n), (7, .sl 1856 2 (p.map vTm)), (8, vi k), (9, .pb (j + 1) 0), (10, vi x.2.2)], deckA l x.2.1 :: (Rk 2 j ++ [[vb true, .sl 2688 1 (x.1.map vi)]])⟩)
    (fun x => n - x.2.2) (fun x => x.2.2 <= n /\ StarL x.2.2 x.1 /\ Dk l x.2.1) ([], s3, 0) ⟨Nat.zero_le _, ⟨rfl, Nat.le_refl _, fun y hy => absurd hy (by simp)⟩, hd3⟩ ?_ ?_
   ·simp only [go_sem, List.map_nil]
    all_goals exact leB_RkA (x := [[_, _]]) (y := [[_, _]]) ⟨⟨leV_refl _, leV_nil _ _, trivial⟩, trivial⟩
   rintro ⟨ls, s5, x⟩ ⟨hx, hL, hd5⟩
   simp only at hx hL hd5
   have hLf := hL.few
   by_cases h2 : x < n
   case neg =>
    have e : x = n := by omega
    subst e
    simp only [go_sem, h2, n0, hwk]
    refine ⟨by simp only [roomFor]; omega, ?_⟩
    refine roundK.intro (p ++ [⟨true, ls⟩], s5, k - 1, j + 1) ⟨by show k - 1 <= c; omega, by
     have := hp.snoc (t := ⟨true, ls⟩) ⟨fun h => Bool.noConfusion h, hL.asc⟩ hL.few hL.lt
     rwa [show c - k + 1 = c - (k - 1) by omega] at this, hd5⟩ (by show k - 1 < k; omega) ?_
    simp only [go_sem, List.map_append, List.map_cons, List.map_nil, Rk_succ]
    all_goals exact leB_RkA (x := [[_, _]]) (y := [List.replicate 2 .any]) ⟨⟨leV_any _, leV_any _, trivial⟩, trivial⟩
   have hwx : IntKind.i64.wrap (x + 1) = x + 1 := wrap_in (by omega) (by omega)
   simp only [go_sem, h2]
   refine CallU.boxes (i := 0) (is := []) (bx0 := [deckA l s5]) (con_dOne l s5 2 hd5) (by simp only [go_sem]) (by simp only [go_sem]) (by simp only [go_sem]) (by simp only [go_sem]) (by simp only [go_sem]) ?_
   rintro r b ⟨rfl, rfl⟩
   have hd6 : Dk l (nextS l s5 2) := nextS_dk hd5
   generalize nextS l s5 2 = s6 at hd6
   cases h3 : oneV l s5 2 with
   | false =>
    simp only [go_sem, hwx]
    refine roundK.intro (ls, s6, x + 1) ⟨by show x + 1 <= n; omega, hL.next, hd6⟩ (by show n - (x + 1) < n - x; omega) ?_
    simp only [go_sem]
   | true =>
    simp only [go_sem, n0, t0, hwx]
    refine ⟨by simp only [roomFor]; omega, ?_⟩
    refine roundK.intro (ls ++ [(x : Int)], s6, x + 1) ⟨by show x + 1 <= n; omega, hL.snoc, hd6⟩ (by show n - (x + 1) < n - x; omega) ?_
    simp only [go_sem, List.map_append, List.map_cons, List.map_nil]
 exact (key.freezeB fun _ => true).mono fun r b ⟨r1, b1, ⟨p, s', hp, hd, h1, h2⟩, h3, h4⟩ => by
  subst h1; subst h2; subst h3; subst h4
  exact ⟨p, s', hp, hd, rfl, rfl⟩
theorem con_xNewS (l : List Int) : Con Try.prog 8 [vs 0 l] [] fun r b => r = .pb 0 0 /\ b = [deckA l (0, 11400714819323198485)] := con_dNew l
theorem words5_in : ∀ w ∈ wordsW 5, w.length <= 6 /\ ∀ x ∈ w, 0 <= x /\ x < 2 := by decide +kernel
theorem valid_two {w : List Int} (h : w.length <= 12) (hx : ∀ x ∈ w, 0 <= x /\ x < 2) : validW w = true := by
 unfold validW
 rw [Bool.and_eq_true, decide_eq_true_eq, List.all_eq_true]
 exact ⟨h, fun x hh => decide_eq_true (by have := hx x hh; omega)⟩
theorem DealtP.valid {p : List TmD} {k : Nat} (h : DealtP 2 k p) (hk : k <= 24) : ValidP 2 p :=
 ⟨by omega, by have := h.few; omega, h.ok, fun t ht y hy => (h.ls t ht).2 y hy, fun t ht => by have := (h.ls t ht).1; omega⟩
theorem normN_sub : ∀ (n : Nat) (q : List TmD), ∀ t ∈ normN n q, t ∈ q
 | 0, _, _, ht => ht
 | n + 1, q, t, ht => by
  rw [normN] at ht
  split at ht
  ·exact ht
  ·exact List.mem_of_mem_eraseIdx (normN_sub n _ t ht)
theorem normP_sub {p : List TmD} : ∀ t ∈ normP p, t ∈ p := normN_sub _ p
theorem ValidP.norm {n : Int} {p : List TmD} (h : ValidP n p) : ValidP n (normP p) :=
 ⟨h.num, Nat.le_trans (normP_len p) h.few, normP_ok h.ok, fun t ht => h.letters t (normP_sub t ht), fun t ht => h.short t (normP_sub t ht)⟩
theorem ValidP.snoc {n : Int} {p : List TmD} {y : Int} (h : ValidP n p) (hl : p.length + 1 <= 24) (hy : 0 <= y /\ y < n) : ValidP n (snocP p y) :=
  ⟨h.num, by unfold snocP; rw [List.length_append]; simpa using hl, snoc_ok h.ok y,
   fun t ht => by
    rcases List.mem_append.1 ht with ht | ht
    · exact h.letters t ht
    · rw [List.mem_singleton.1 ht]; intro z hz; rw [List.mem_singleton.1 hz]; exact hy,
   fun t ht => by
    rcases List.mem_append.1 ht with ht | ht
    · exact h.short t ht
    · rw [List.mem_singleton.1 ht]; simp⟩
theorem beh_sub {x : Int} : ∀ {p q : List TmD}, behP x p = some q -> q.length <= p.length /\ ∀ t ∈ q, t ∈ p
 | [], _, h => by cases h
 | u :: p, q, h => by
  rw [behP] at h
  split at h
  ·injection h with h
   subst h
   split
   ·exact ⟨Nat.le_refl _, fun t ht => ht⟩
   ·exact ⟨by simp, fun t ht => by simp [ht]⟩
  ·obtain ⟨a, b⟩ := beh_sub h
   exact ⟨by simp; omega, fun t ht => by simp [b t ht]⟩
theorem ValidP.beh {n : Int} {p q : List TmD} {x : Int} (h : ValidP n p) (e : behP x p = some q) : ValidP n q := by
 obtain ⟨a, b⟩ := beh_sub e
 exact ⟨h.num, Nat.le_trans a h.few, beh_ok h.ok e, fun t ht => h.letters t (b t ht), fun t ht => h.short t (b t ht)⟩
theorem has_valid {p : List TmD} {w : List Int} (h : ValidP 2 p) (hl : w.length <= 12) (hx : ∀ x ∈ w, 0 <= x /\ x < 2) : hasX 2 p w = memP p w := by
 unfold hasX
 rw [check_zero.2 h, valid_two hl hx]; rfl
theorem let_valid {p : List TmD} {y : Int} (h : ValidP 2 p) (hy : 0 <= y /\ y < 2) : letX 2 p y = 0 := by
 unfold letX
 rw [check_zero.2 h, if_neg (by simp), if_neg (by omega)]
theorem mem_last (p : List TmD) (y : Int) (w : List Int) : memP (normP (snocP p y)) w = (memP p w || (decide (0 < w.length) && (w[w.length - 1]! == y) && memP p (w.take (w.length - 1)))) := by
 rw [<- normP_eq (snocP p y) w, Bool.eq_iff_iff]
 unfold snocP
 rw [mem_snoc y _ p w (Nat.le_refl _), Bool.or_eq_true]
 refine or_congr Iff.rfl ⟨?_, fun h => ?_⟩
 ·rintro ⟨v, rfl, hv⟩
  have e : (v ++ [y]).length - 1 = v.length := by simp
  rw [e, List.take_left' rfl, hv, getElem!_pos (v ++ [y]) v.length (by simp)]
  simp
 ·simp only [Bool.and_eq_true, decide_eq_true_eq, beq_iff_eq] at h
  obtain ⟨⟨h1, h2⟩, h3⟩ := h
  refine ⟨w.take (w.length - 1), ?_, h3⟩
  have hlt : w.length - 1 < w.length := by omega
  have := List.take_succ_eq_append_getElem hlt
  rw [show w.length - 1 + 1 = w.length by omega, List.take_length, <- getElem!_pos w _ hlt, h2] at this
  exact this
theorem leqX_snoc {p : List TmD} {y : Int} (h : ValidP 2 p) (hl : p.length + 1 <= 24) (hy : 0 <= y /\ y < 2) : leqX 2 p (normP (snocP p y)) = true := by
 have h2 := (h.snoc hl hy).norm
 unfold leqX
 rw [check_zero.2 h, check_zero.2 h2, (leq_iff h.ok h2.ok).2 fun w hw => by rw [mem_last, hw, Bool.true_or]]; rfl
theorem con_behOne {p : List TmD} {y : Int} (h : ValidP 2 p) (hy : 0 <= y /\ y < 2) : ∃ (q : List TmD) (ok : Bool), ValidP 2 q /\ (∀ w, memP p (y :: w) = (ok && memP q w)) /\
  Con Try.prog 23 [vi 2, vPr p, vi y] [] fun r _ => r = .tup [vPr q, vb ok, vi 0] := by
 have hc := con_xBehind 2 p y h.lenP
 unfold behX at hc
 rw [let_valid h hy, if_neg (by decide)] at hc
 cases e : behP y p with
 | none =>
  rw [e] at hc
  refine ⟨[], false, ⟨by decide, by decide, okP_nil, fun t ht => absurd ht (by simp), fun t ht => absurd ht (by simp)⟩, fun w => by rw [beh_mem, e]; rfl, ?_⟩
  exact Con.le hc (fun r b h => ⟨.tup [vPr [], vb false, vi 0], by subst h; exact leV_tup ⟨leV_nil _ _, leV_refl _, leV_refl _, trivial⟩, rfl⟩)
 | some q =>
  rw [e] at hc
  refine ⟨normP q, true, (h.beh e).norm, fun w => by rw [beh_mem, e, Bool.true_and]; exact normP_eq q w, hc⟩
theorem con_xLettersLaw (l : List Int) : Con Try.prog 5 [vs 0 l] [] fun r _ => r = vb true := by
 refine Con.intro Try.func5 rfl Try.ntmps5 Try.results5 (by kernel_rfl) (by simp) 0 (by simp) ?_
 simp only [go_sem]
 refine CallU.free con_xawake (by simp only [go_sem]) (by simp only [go_sem]) ?_
 rintro r bx rfl
 simp only [go_sem]
 refine CallU.free (con_few l 0 (by omega)) (by simp only [go_sem]) (by simp only [go_sem]) ?_
 rintro r bx rfl
 by_cases hf : (l.length : Int) <= 400
 case neg =>
  have hf' : ¬ l.length <= 400 := by omega
  simp only [go_sem, hf']
  refine CallU.free con_xawake (by simp only [go_sem]) (by simp only [go_sem]) ?_
  rintro r bx rfl
  simp only [go_sem]
 have hf' : l.length <= 400 := by omega
 simp only [go_sem, hf']
 refine CallU.news (bx0 := []) (con_xNewS l) (by simp only [go_sem]) (by simp only [go_sem]) (by simp only [go_sem]) (by simp only [go_sem]) (by simp only [go_sem]) ?_
 rintro r b ⟨rfl, rfl⟩
 have hd : Dk l (0, 11400714819323198485) := ⟨Nat.zero_le _, by omega⟩
 generalize ((0, 11400714819323198485) : DS) = s0 at hd
 simp only [go_sem]
 refine CallU.boxes (i := 0) (is := []) (bx0 := [deckA l s0]) (con_dProduct l s0 2 4 hd (by omega) (by omega)) (by simp only [go_sem]) (by simp only [go_sem]) (by simp only [go_sem]) (by simp only [go_sem]) (by simp only [go_sem]) ?_
 rintro r b ⟨p, s1, hp, hd1, rfl, rfl⟩
 have hV := hp.valid (by omega)
 have hfew := hp.few
 simp only [go_sem, vPr]
 refine CallU.boxes (i := 0) (is := []) (bx0 := [deckA l s1]) (con_dNext l s1 2 hd1) (by simp only [go_sem]) (by simp only [go_sem]) (by simp only [go_sem]) (by simp only [go_sem]) (by simp only [go_sem]) ?_
 rintro r b ⟨rfl, rfl⟩
 have hy := nextV_lt (l := l) (s := s1) (n := 2) (by omega)
 generalize nextV l s1 2 = y at hy
 generalize nextS l s1 2 = s2
 have hVe := (hV.snoc (by omega) hy).norm
 have ca := con_xAppend 2 p y hV.lenP
 have ea : appX 2 p y = .tup [vPr (normP (snocP p y)), vi 0] := by
  unfold appX
  rw [let_valid hV hy, if_neg (by decide), if_neg (by have := hVe.few; omega)]
 rw [ea] at ca
 obtain ⟨q, ok, hVq, hq, cb⟩ := con_behOne hV hy
 have cl := con_xLeq 2 p (normP (snocP p y)) hV.lenP hVe.lenP
 rw [leqX_snoc hV (by omega) hy] at cl
 have cw := con_xwords (wordsW 5) 5 31 words5
 have hmem := mem_last p y
 have hWl : (wordsW 5).length = 63 := words5.len
 have hWi := words5_in
 generalize wordsW 5 = W at cw hWl hWi
 generalize normP (snocP p y) = e at hVe ca cl hmem
 simp only [vPr] at ca cb cl
 simp only [go_sem]
 refine CallU.free ca (by simp only [go_sem]) (by simp only [go_sem]) ?_
 rintro r bx rfl
 simp only [go_sem]
 refine CallU.free cb (by simp only [go_sem]) (by simp only [go_sem]) ?_
 rintro r bx rfl
 simp only [go_sem]
 refine CallU.free cl (by simp only [go_sem]) (by simp only [go_sem]) ?_
 rintro r bx rfl
 simp only [go_sem]
 refine CallU.free cw (by simp only [go_sem]) (by simp only [go_sem]) ?_
 rintro r bx rfl
 simp only [go_sem]
 refine LoopK.intro (fun i : Nat => ⟨107, [(4, .sl 0 2 (p.map vTm)), (5, vi y), (6, .sl 0 2 (e.map vTm)), (8, .sl 0 2 (q.map vTm)), (9, vb ok), (54, vm 0 W), (55, vi W.length), (56, vi i)], [deckA l s2]⟩)
  (fun i => W.length - i) (fun i => i <= W.length) 0 (Nat.zero_le _) ?_ ?_
 ·simp only [go_sem]
 rintro i hi
 by_cases h : i < W.length
 case neg =>
  simp only [go_sem, h]
 have hg := getm h
 have hwi : IntKind.i64.wrap (i + 1) = i + 1 := wrap_in (by omega) (by omega)
 obtain ⟨k1, k2⟩ := hWi _ (mem_bang h)
 generalize W[i]! = w at hg k1 k2
 have cp := con_xHas 2 p w hV.lenP (by omega)
 have ce := con_xHas 2 e w hVe.lenP (by omega)
 have cq := con_xHas 2 q w hVq.lenP (by omega)
 have cy := con_xHas 2 p (y :: w) hV.lenP (by simp; omega)
 have ci := con_xHas 2 p (w.take (w.length - 1)) hV.lenP (by rw [List.length_take]; omega)
 rw [has_valid hV (by omega) k2] at cp
 rw [has_valid hVe (by omega) k2] at ce
 rw [has_valid hVq (by omega) k2] at cq
 rw [has_valid hV (by simp; omega) (fun x hx => by
  rcases List.mem_cons.1 hx with rfl | hx
  ·exact hy
  ·exact k2 x hx), hq] at cy
 rw [has_valid hV (by rw [List.length_take]; omega) (fun x hx => k2 x (List.mem_of_mem_take hx))] at ci
 have hm1 := hmem w
 simp only [vPr, vs, List.map_take, List.map_cons] at cp ce cq cy ci
 simp only [go_sem, h, hg]
 refine CallU.free cp (by simp only [go_sem]) (by simp only [go_sem]) ?_
 rintro r bx rfl
 have hroom' : roomFor (1 + w.length) 8 := by simp only [roomFor]; omega
 by_cases hm : memP p w = true
 case' pos =>
  rw [hm, Bool.true_or] at hm1
  rw [hm1] at ce
  simp only [go_sem, hm]
 case' neg =>
  rw [Bool.not_eq_true] at hm
  rw [hm, Bool.false_or] at hm1
  by_cases hk : 0 < w.length
  case' neg =>
   rw [decide_eq_false hk, Bool.false_and, Bool.false_and] at hm1
   rw [hm1] at ce
   have hk' : w.length = 0 := by omega
   simp only [go_sem, hm, hk', List.length_map]
  case' pos =>
   have hw1 : IntKind.i64.wrap ((w.length : Int) - 1) = ((w.length - 1 : Nat) : Int) := by rw [wrap_in (by omega) (by omega)]; omega
   have hgl := getv (l := w) (i := w.length - 1) (by omega)
   have hlt : w.length - 1 < w.length := by omega
   have hle : w.length - 1 <= w.length := by omega
   rw [decide_eq_true hk, Bool.true_and] at hm1
   by_cases hl : w[w.length - 1]! = y
   case' neg =>
    have hl' : (w[w.length - 1]! == y) = false := beq_eq_false_iff_ne.2 hl
    rw [hl', Bool.false_and] at hm1
    rw [hm1] at ce
    simp only [go_sem, hm, hk, hw1, hgl, hlt, hl', List.length_map]
   case' pos =>
    have hl' : (w[w.length - 1]! == y) = true := beq_iff_eq.2 hl
    rw [hl', Bool.true_and] at hm1
    simp only [go_sem, hm, hk, hw1, hgl, hlt, hle, hl', List.length_map]
    refine CallU.free ci (by simp only [go_sem]) (by simp only [go_sem]) ?_
    rintro r bx rfl
    rw [hm1] at ce
    simp only [go_sem]
 all_goals
  refine CallU.free ce (by simp only [go_sem]) (by simp only [go_sem]) ?_
  rintro r bx rfl
  simp only [go_sem, List.length_map]
  refine ⟨hroom', ?_⟩
  refine CallU.freeze cy (by simp only [go_sem]) (by simp only [go_sem]) ?_
  rintro r bx rfl
  clear ce cp ci hg k1 k2 hmem hm1 hm
  cases ok with
  | false =>
   simp only [go_sem, Bool.false_and, hwi]
   refine roundK.intro (i + 1) (by omega) (by omega) ?_
   simp only [go_sem]
  | true =>
   simp only [go_sem, Bool.true_and]
   refine CallU.free cq (by simp only [go_sem]) (by simp only [go_sem]) ?_
   rintro r bx rfl
   simp only [go_sem, hwi]
   refine roundK.intro (i + 1) (by omega) (by omega) ?_
   simp only [go_sem]
end Go.AM
