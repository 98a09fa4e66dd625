/- ExG EyB MxSort LBra LBra2 LBra5 LBra7 LBra8 LBra9 LEx5 LExC EyC Am5 Am7 CmO CmP GA MxB ExR CmQ CmR CmS CmT LEff LFlat FA FK MxC EyD EyE ExI ExH ExJ ExK CmZ -/
import Derived.Test.YtlcckmmibeddeaaGreatg10
import Derived.Test.YtlcckmmibeddeaaGreatg8
import Derived.Test.YtlcckmmibeddeaaGreatg9
namespace Go.AM
open Go Go.Proofs Go.RowKit
set_option maxRecDepth 100000
set_option maxHeartbeats 8000000
theorem con_xbegun (t : TmD) (l : List (List TmD)) (hl : l.length <= 1000000) (hp : ∀ p ∈ l, p.length <= 1000) : Con Tryz.prog 92 [vTm t, .sl 0 1 (l.map vPr)] [] fun r _ => r = .sl 0 1 ((hdP t l).map vPr) := by
 refine Con.frozX ?_
 refine Con.intro Tryz.func92 rfl Tryz.ntmps92 Tryz.results92 (by kernel_rfl) (by simp) 0 (by simp) ?_
 simp only [go_sem]
 refine LoopK.intro (fun i : Nat => ⟨24, [(2, .pb 0 0), (5, .sl 1408 1 ((hdP t (l.take i)).map vPr)), (8, .sl 0 1 (l.map vPr)), (9, vi l.length), (10, vi i)], [[vb t.star, vs 0 t.ls]]⟩)
  (fun i => l.length - i) (fun i => i <= l.length) 0 (Nat.zero_le _) ?_ ?_
 ·simp only [go_sem, List.take_zero, hdP, List.map_nil]
  all_goals exact leB_self _
 rintro i hi
 by_cases h : i < l.length
 case neg =>
  have e : l.take i = l := List.take_of_length_le (by omega)
  simp only [go_sem, h, e]
  exact leV_refl _
 have hg := getPr h
 have hw : IntKind.i64.wrap (i + 1) = i + 1 := wrap_in (by omega) (by omega)
 have hpl := hp _ (mem_bangI h)
 have hc : Con Tryz.prog 106 [.sl 0 1 [.sl 0 2 [vTm t], .sl 0 2 (l[i]!.map vTm)]] [] fun r _ => r = vPr (t :: l[i]!) :=
  Con.frozX ((con_xConcatTm [[t], l[i]!] (by simp) (by rw [show [[t], l[i]!].flatten = t :: l[i]! by simp, List.length_cons]; omega)).mono fun r _ e => by
   subst e
   have : [[t], l[i]!].flatten = t :: l[i]! := by simp
   rw [this]; exact leV_refl _)
 have e : (hdP t (l.take (i + 1))).map vPr = (hdP t (l.take i)).map vPr ++ [vPr (t :: l[i]!)] := by
  unfold hdP
  rw [List.take_succ_eq_append_getElem h, List.map_append, List.map_append, <- getElem!_pos l i h]; rfl
 have hlen : (hdP t (l.take i)).length = i := by unfold hdP; rw [List.length_map, List.length_take]; omega
 simp only [vPr, vTm] at hc
 simp only [go_sem] at hc
 simp only [go_sem, h, hg, List.length_map]
 refine CallU.freeze hc (by simp only [go_sem]) (by simp only [go_sem]) ?_
 rintro r bx rfl
 simp only [go_sem, hw]
 refine ⟨by simp only [roomFor, hlen]; omega, ?_⟩
 refine roundK.intro (i + 1) (by omega) (by omega) ?_
 simp only [go_sem, e, List.map_cons]
 all_goals exact leB_self _
theorem con_xmeet1 (u : TmD) (x : Int) (hl : u.ls.length <= 1000000) : Con Tryz.prog 96 [vi x, .pe 0 2 [vTm u] 0 0] [] fun r _ => r = .sc (.bool (!decide (x ∈ u.ls))) := by
 refine Con.intro Tryz.func96 rfl Tryz.ntmps96 Tryz.results96 (by kernel_rfl) (by simp) 0 (by simp) ?_
 have e : (u.ls.any fun y => x == y) = decide (x ∈ u.ls) := by
  rw [Bool.eq_iff_iff, List.any_eq_true, decide_eq_true_eq]
  constructor
  ·rintro ⟨y, hy, h⟩; rw [beq_iff_eq.1 h]; exact hy
  ·intro h; exact ⟨x, h, beq_self_eq_true _⟩
 have hc := con_mxContains u.ls x (by omega)
 rw [e] at hc
 simp only [go_sem]
 refine CallU.free hc (by simp only [go_sem]) (by simp only [go_sem]) ?_
 rintro r bx rfl
 simp only [go_sem]
def xmeetTree : Tr := .front 0 (.front 1 (.front 3 (.front 4 (.alt (.one 2 (.alt (.one 5 (.alt (.hd 6 (.hd 7 (.one 8 (.one 9 .done)))) (.hd 7 (.hd 6 (.one 8 (.one 9 .done)))))) (.alt (.hd 6 (.alt (.one 5 (.hd 7 (.one 8 (.one 9 .done)))) (.hd 7 (.alt (.one 5 (.one 8 (.one 9 .done))) (.one 8 (.one 5 (.one 9 .done))))))) (.hd 7 (.alt (.one 5 (.hd 6 (.one 8 (.one 9 .done)))) (.hd 6 (.alt (.one 5 (.one 8 (.one 9 .done))) (.one 8 (.one 5 (.one 9 .done)))))))))) (.alt (.one 5 (.alt (.one 2 (.alt (.hd 6 (.hd 7 (.one 8 (.one 9 .done)))) (.hd 7 (.hd 6 (.one 8 (.one 9 .done)))))) (.alt (.hd 6 (.alt (.one 2 (.hd 7 (.one 8 (.one 9 .done)))) (.hd 7 (.one 2 (.one 8 (.one 9 .done)))))) (.hd 7 (.alt (.one 2 (.hd 6 (.one 8 (.one 9 .done)))) (.hd 6 (.one 2 (.one 8 (.one 9 .done))))))))) (.alt (.hd 6 (.alt (.one 2 (.alt (.one 5 (.hd 7 (.one 8 (.one 9 .done)))) (.hd 7 (.alt (.one 5 (.one 8 (.one 9 .done))) (.one 8 (.one 5 (.one 9 .done))))))) (.alt (.one 5 (.alt (.one 2 (.hd 7 (.one 8 (.one 9 .done)))) (.hd 7 (.one 2 (.one 8 (.one 9 .done)))))) (.hd 7 (.alt (.one 2 (.alt (.one 5 (.one 8 (.one 9 .done))) (.one 8 (.one 5 (.one 9 .done))))) (.one 5 (.one 2 (.one 8 (.one 9 .done))))))))) (.hd 7 (.alt (.one 2 (.alt (.one 5 (.hd 6 (.one 8 (.one 9 .done)))) (.hd 6 (.alt (.one 5 (.one 8 (.one 9 .done))) (.one 8 (.one 5 (.one 9 .done))))))) (.alt (.one 5 (.alt (.one 2 (.hd 6 (.one 8 (.one 9 .done)))) (.hd 6 (.one 2 (.one 8 (.one 9 .done)))))) (.hd 6 (.alt (.one 2 (.alt (.one 5 (.one 8 (.one 9 .done))) (.one 8 (.one 5 (.one 9 .done))))) (.one 5 (.one 2 (.one 8 (.one 9 .done)))))))))))))))
theorem meet_len : ∀ (n : Nat) (p q : List TmD), p.length + q.length <= n -> (meetP p q).length <= 2 ^ n
 | n, [], q, _ => by rw [meetP]; exact Nat.one_le_two_pow
 | n, _ :: _, [], _ => by rw [meetP]; exact Nat.one_le_two_pow
 | 0, _ :: _, _ :: _, h => by simp only [List.length_cons] at h; omega
 | n + 1, t :: p, u :: q, h => by
  simp only [List.length_cons] at h
  have h1 := meet_len n p q (by omega)
  have h2 := meet_len n p (u :: q) (by simp only [List.length_cons]; omega)
  have h3 := meet_len n (t :: p) q (by simp only [List.length_cons]; omega)
  have e : 2 ^ (n + 1) = 2 ^ n + 2 ^ n := by rw [Nat.pow_succ]; omega
  rw [meetP]
  unfold hdP
  split
  ·rw [List.length_map]; omega
  ·split
   ·rw [List.length_map]; omega
   ·split
    ·rw [List.length_map]; omega
    ·split
     ·rw [List.length_append]; omega
     ·rw [List.length_map, List.length_append]; omega
theorem meet_short : ∀ (n : Nat) (p q : List TmD), p.length + q.length <= n -> ∀ x ∈ meetP p q, x.length <= n
 | n, [], q, _, x, hx => by rw [meetP, List.mem_singleton] at hx; rw [hx]; simp
 | n, _ :: _, [], _, x, hx => by rw [meetP, List.mem_singleton] at hx; rw [hx]; simp
 | 0, _ :: _, _ :: _, h, _, _ => by simp only [List.length_cons] at h; omega
 | n + 1, t :: p, u :: q, h, x, hx => by
  simp only [List.length_cons] at h
  have h1 := meet_short n p q (by omega)
  have h2 := meet_short n p (u :: q) (by simp only [List.length_cons]; omega)
  have h3 := meet_short n (t :: p) q (by simp only [List.length_cons]; omega)
  have key : ∀ (v : TmD) (l : List (List TmD)), (∀ y ∈ l, y.length <= n) -> x ∈ hdP v l -> x.length <= n + 1 := fun v l hl hx => by
   obtain ⟨y, hy, rfl⟩ := List.mem_map.1 hx
   have := hl y hy
   rw [List.length_cons]; omega
  have h4 : ∀ y ∈ meetP p (u :: q) ++ meetP (t :: p) q, y.length <= n := fun y hy => (List.mem_append.1 hy).elim (h2 y) (h3 y)
  rw [meetP] at hx
  split at hx
  ·exact key _ _ h1 hx
  ·split at hx
   ·exact key _ _ h2 hx
   ·split at hx
    ·exact key _ _ h3 hx
    ·split at hx
     ·have := h4 x hx; omega
     ·exact key _ _ h4 hx
def ShortP (p : List TmD) : Prop := ∀ t ∈ p, t.ls.length <= 1000
theorem meet_letters : ∀ (n : Nat) (p q : List TmD), p.length + q.length <= n -> ShortP p -> ShortP q -> ∀ x ∈ meetP p q, ShortP x
 | n, [], q, _, _, _, x, hx => by rw [meetP, List.mem_singleton] at hx; rw [hx]; intro t ht; cases ht
 | n, _ :: _, [], _, _, _, x, hx => by rw [meetP, List.mem_singleton] at hx; rw [hx]; intro t ht; cases ht
 | 0, _ :: _, _ :: _, h, _, _, _, _ => by simp only [List.length_cons] at h; omega
 | n + 1, t :: p, u :: q, h, hp, hq, x, hx => by
  simp only [List.length_cons] at h
  have hp' : ShortP p := fun x hx => hp x (by simp [hx])
  have hq' : ShortP q := fun x hx => hq x (by simp [hx])
  have h1 := meet_letters n p q (by omega) hp' hq'
  have h2 := meet_letters n p (u :: q) (by simp only [List.length_cons]; omega) hp' hq
  have h3 := meet_letters n (t :: p) q (by simp only [List.length_cons]; omega) hp hq'
  have key : ∀ (v : TmD) (l : List (List TmD)), v.ls.length <= 1000 -> (∀ y ∈ l, ShortP y) -> x ∈ hdP v l -> ShortP x := fun v l hv hl hx => by
   obtain ⟨y, hy, rfl⟩ := List.mem_map.1 hx
   intro w hw
   rcases List.mem_cons.1 hw with rfl | hw
   ·exact hv
   ·exact hl y hy w hw
  have h4 : ∀ y ∈ meetP p (u :: q) ++ meetP (t :: p) q, ShortP y := fun y hy => (List.mem_append.1 hy).elim (h2 y) (h3 y)
  have ht := hp t (by simp)
  have hu := hq u (by simp)
  have hb : (bothL t.ls u.ls).length <= 1000 := Nat.le_trans (List.length_filter_le _ _) ht
  rw [meetP] at hx
  split at hx
  ·exact key _ _ ht h1 hx
  ·split at hx
   ·exact key _ _ ht h2 hx
   ·split at hx
    ·exact key _ _ hu h3 hx
    ·split at hx
     ·exact h4 x hx
     ·exact key _ _ hb h4 hx
theorem shareD {P : Program} {ops : Array Oper} {K : St -> Prop} {T : St -> Prop} {A : Prop} (h : (∀ τ, T τ -> DrawK P ops τ K) -> A) (key : ∀ τ, T τ -> DrawK P ops τ K) : A := h key
theorem DrawK.leX {P : Program} {ops : Array Oper} {σ : St} {K : St -> Prop} (τ : St) (hl : σ.le τ) (h : DrawK P ops τ K) : DrawK P ops σ K :=
 fun G0 w0 G a w id Q h0 hs hK => h G0 w0 G a w id Q h0 (hs.le hl) hK
theorem nil_pr : leV (AV.freeze (fun _ => true) (.sl 2 1 [.nil])) (.sl 0 1 [vPr []]) :=
 leV_slE (t := 0) rfl (fun y hy => by rw [List.mem_singleton.1 hy]; rfl) (PW.cons (Sub.nil 2) (PW.nil _))
def restM (t u : TmD) (p q : List TmD) : List (List TmD) := if !t.star || !u.star then meetP p (u :: q) ++ meetP (t :: p) q else hdP ⟨true, bothL t.ls u.ls⟩ (meetP p (u :: q) ++ meetP (t :: p) q)
theorem con_xmeet : ∀ (n : Nat) (p q : List TmD), p.length + q.length <= n -> n <= 18 -> OkP p -> OkP q -> ShortP p -> ShortP q -> Con Tryz.prog 64 [vPr p, vPr q] [] fun r _ => r = .sl 0 1 ((meetP p q).map vPr) := by
 intro n
 induction n with
 | zero =>
  intro p q h _ _ _ _ _
  obtain rfl : p = [] := List.length_eq_zero_iff.1 (by omega)
  refine Con.frozX ?_
  refine Con.intro Tryz.func64 rfl Tryz.ntmps64 Tryz.results64 (by kernel_rfl) (by simp) 0 (by simp) ?_
  rw [meetP]
  simp only [go_sem, List.map_nil, List.length_nil]
  exact nil_pr
 | succ n ih =>
  intro p q h hn hp hq hps hqs
  have ih := fun p q h => ih p q h (by omega)
  refine Con.frozX ?_
  refine Con.intro Tryz.func64 rfl Tryz.ntmps64 Tryz.results64 (by kernel_rfl) (by simp) 0 (by simp) ?_
  match p, q, h, hp, hq, hps, hqs with
  | [], q, h, hp, hq, hps, hqs =>
   rw [meetP]
   simp only [go_sem, List.map_nil, List.length_nil]
   exact nil_pr
  | t :: p, [], h, hp, hq, hps, hqs =>
   rw [meetP]
   have h0 : ((p.length : Int) + 1 == 0) = false := beq_eq_false_iff_ne.2 (by omega)
   simp only [go_sem, h0, List.map_nil, List.map_cons, List.length_nil, List.length_cons, List.length_map]
   exact nil_pr
  | t :: p, u :: q, h, hp, hq, hps, hqs =>
   simp only [List.length_cons] at h
   have h0 : ((p.length : Int) + 1 == 0) = false := beq_eq_false_iff_ne.2 (by omega)
   have h1 : ((q.length : Int) + 1 == 0) = false := beq_eq_false_iff_ne.2 (by omega)
   have hpos : (0 : Int) < (p.length : Int) + 1 := by omega
   have hqos : (0 : Int) < (q.length : Int) + 1 := by omega
   have htk : ∀ l : List TmD, (l.map vTm).take l.length = l.map vTm := fun l => List.take_of_length_le (by simp)
   have htl := hps t (by simp)
   have hul := hqs u (by simp)
   have hps' : ShortP p := fun x hx => hps x (by simp [hx])
   have hqs' : ShortP q := fun x hx => hqs x (by simp [hx])
   have c1 := ih p q (by omega) hp.tail hq.tail hps' hqs'
   have c2 := ih p (u :: q) (by simp only [List.length_cons]; omega) hp.tail hq hps' hqs
   have c3 := ih (t :: p) q (by simp only [List.length_cons]; omega) hp hq.tail hps hqs'
   have hpow : 2 ^ n <= 262144 := Nat.le_trans (Nat.pow_le_pow_right (by omega) (show n <= 18 by omega)) (by decide)
   have l1 := meet_len n p q (by omega)
   have l2 := meet_len n p (u :: q) (by simp only [List.length_cons]; omega)
   have l3 := meet_len n (t :: p) q (by simp only [List.length_cons]; omega)
   have s1 := meet_short n p q (by omega)
   have s2 := meet_short n p (u :: q) (by simp only [List.length_cons]; omega)
   have s3 := meet_short n (t :: p) q (by simp only [List.length_cons]; omega)
   simp only [vPr, List.map_cons] at c1 c2 c3
   simp only [go_sem] at c1 c2 c3
   simp only [go_sem, h0, h1, List.map_cons, List.length_cons, List.length_map]
   refine DrawK.meet ⟨117, [(0, .sl 0 2 (vTm t :: p.map vTm)), (1, .sl 0 2 (vTm u :: q.map vTm)), (5, .pe 384 2 [vTm t] 0 0), (6, .pe 448 2 [vTm u] 0 0)], []⟩ ?_ ?_
   ·refine DrawK.tree xmeetTree mixed (by kernel_rfl) ?_
    unfold xmeetTree
    simp only [go_sem, hpos, hqos, List.map_cons, List.length_cons, List.length_map]
   refine DrawK.freeze (fun _ => true) ?_
   apply shareD (T := fun τ => meetP (t :: p) (u :: q) = restM t u p q /\ τ.le ⟨117, [(0, .sl 0 2 (vTm t :: p.map vTm)), (1, .sl 0 2 (vTm u :: q.map vTm)), (5, .pe 0 2 [vTm t] 0 0), (6, .pe 0 2 [vTm u] 0 0)], []⟩)
   case h =>
    intro hsh
    cases hts : t.star with
    | false =>
     obtain ⟨y, hy⟩ := hp.head.one hts
     cases hus : u.star with
     | false =>
      obtain ⟨z, hz⟩ := hq.head.one hus
      by_cases hyz : y = z
      ·subst hyz
       have e : meetP (t :: p) (u :: q) = hdP t (meetP p q) := by rw [meetP, hts, hus, hy, hz, if_pos (by simp)]
       have cb := con_xbegun t (meetP p q) (by omega) (fun x hx => by have := s1 x hx; omega)
       rw [e]
       simp only [go_sem, hts, hy] at cb
       simp only [go_sem, hts, hus, hy, hz]
       refine DrawK.walk 19 mixed (by kernel_rfl) ?_
       simp only [go_sem, beq_self_eq_true]
       refine DrawK.walk 7 mixed (by kernel_rfl) ?_
       simp only [go_sem, htk, List.length_cons, List.length_map, Nat.le_refl]
       refine CallY.mk c1 (by simp only [go_sem]) (by simp only [go_sem]) (.inl (by simp only [go_sem])) ?_
       simp only [go_sem]
       refine CallY.mk cb (by simp only [go_sem]) (by simp only [go_sem]) (.inl (by simp only [go_sem])) ?_
       simp only [go_sem]
       exact leV_refl _
      ·have hne : (y == z) = false := beq_eq_false_iff_ne.2 hyz
       simp only [go_sem, hts, hus, hy, hz]
       refine DrawK.walk 19 mixed (by kernel_rfl) ?_
       simp only [go_sem, hne]
       refine hsh _ ⟨?_, ?_⟩
       ·unfold restM
        rw [meetP, hts, hus, hy, hz, if_neg (by simp; exact hyz), if_neg (by simp), if_neg (by simp), if_pos (by simp)]
       ·simp only [go_sem, hts, hus, hy, hz]
     | true =>
      have hw := con_xWithin t u (by omega) (by omega) (fun h => by rw [hus] at h; cases h)
      simp only [go_sem, hts, hus] at hw
      cases hwt : witT t u with
      | true =>
       have e : meetP (t :: p) (u :: q) = hdP t (meetP p (u :: q)) := by rw [meetP, hts, hus, hwt, if_neg (by simp), if_pos (by simp)]
       have cb := con_xbegun t (meetP p (u :: q)) (by omega) (fun x hx => by have := s2 x hx; omega)
       rw [e]
       rw [hwt] at hw
       simp only [go_sem, hts] at cb
       simp only [go_sem, hts, hus]
       refine DrawK.walk 19 mixed (by kernel_rfl) ?_
       simp only [go_sem]
       refine CallU.free hw (by simp only [go_sem]) (by simp only [go_sem]) ?_
       rintro r bx rfl
       simp only [go_sem]
       refine DrawK.walk 6 mixed (by kernel_rfl) ?_
       simp only [go_sem, htk, List.length_cons, List.length_map, Nat.le_refl]
       simp only [hus] at c2
       refine CallY.mk c2 (by simp only [go_sem]) (by simp only [go_sem]) (.inl (by simp only [go_sem])) ?_
       simp only [go_sem]
       refine CallY.mk cb (by simp only [go_sem]) (by simp only [go_sem]) (.inl (by simp only [go_sem])) ?_
       simp only [go_sem]
       exact leV_refl _
      | false =>
       rw [hwt] at hw
       simp only [go_sem, hts, hus]
       refine DrawK.walk 19 mixed (by kernel_rfl) ?_
       simp only [go_sem]
       refine CallU.free hw (by simp only [go_sem]) (by simp only [go_sem]) ?_
       rintro r bx rfl
       simp only [go_sem]
       refine hsh _ ⟨?_, ?_⟩
       ·unfold restM
        rw [meetP, hts, hus, hwt, if_neg (by simp), if_neg (by simp), if_neg (by simp), if_pos (by simp)]
       ·simp only [go_sem, hts, hus]
    | true =>
     cases hus : u.star with
     | false =>
      have hw := con_xWithin u t (by omega) (by omega) (fun h => by rw [hts] at h; cases h)
      simp only [go_sem, hts, hus] at hw
      cases hwt : witT u t with
      | true =>
       have e : meetP (t :: p) (u :: q) = hdP u (meetP (t :: p) q) := by rw [meetP, hts, hus, hwt, if_neg (by simp), if_neg (by simp), if_pos (by simp)]
       have cb := con_xbegun u (meetP (t :: p) q) (by omega) (fun x hx => by have := s3 x hx; omega)
       rw [e]
       rw [hwt] at hw
       simp only [go_sem, hus] at cb
       simp only [go_sem, hts, hus]
       refine DrawK.walk 19 mixed (by kernel_rfl) ?_
       simp only [go_sem]
       refine CallU.free hw (by simp only [go_sem]) (by simp only [go_sem]) ?_
       rintro r bx rfl
       simp only [go_sem]
       refine DrawK.walk 6 mixed (by kernel_rfl) ?_
       simp only [go_sem, htk, List.length_cons, List.length_map, Nat.le_refl]
       simp only [hts] at c3
       refine CallY.mk c3 (by simp only [go_sem]) (by simp only [go_sem]) (.inl (by simp only [go_sem])) ?_
       simp only [go_sem]
       refine CallY.mk cb (by simp only [go_sem]) (by simp only [go_sem]) (.inl (by simp only [go_sem])) ?_
       simp only [go_sem]
       exact leV_refl _
      | false =>
       rw [hwt] at hw
       simp only [go_sem, hts, hus]
       refine DrawK.walk 19 mixed (by kernel_rfl) ?_
       simp only [go_sem]
       refine CallU.free hw (by simp only [go_sem]) (by simp only [go_sem]) ?_
       rintro r bx rfl
       simp only [go_sem]
       refine hsh _ ⟨?_, ?_⟩
       ·unfold restM
        rw [meetP, hts, hus, hwt, if_neg (by simp), if_neg (by simp), if_neg (by simp), if_pos (by simp)]
       ·simp only [go_sem, hts, hus]
     | true =>
      simp only [go_sem, hts, hus]
      refine DrawK.walk 19 mixed (by kernel_rfl) ?_
      simp only [go_sem]
      refine hsh _ ⟨?_, ?_⟩
      ·unfold restM
       rw [meetP, hts, hus, if_neg (by simp), if_neg (by simp), if_neg (by simp), if_neg (by simp)]
      ·simp only [go_sem, hts, hus]
   case key =>
    rintro τ ⟨hrest, hle⟩
    rw [hrest]
    refine DrawK.leX _ hle ?_
    clear hle
    refine DrawK.walk 9 mixed (by kernel_rfl) ?_
    simp only [go_sem, htk, List.length_cons, List.length_map, Nat.le_refl]
    have hcc : Con Tryz.prog 93 [.sl 0 1 [.sl 0 1 ((meetP p (u :: q)).map vPr), .sl 0 1 ((meetP (t :: p) q).map vPr)]] [] fun r _ => r = .sl 0 1 ((meetP p (u :: q) ++ meetP (t :: p) q).map vPr) :=
     Con.frozX ((con_xConcatPr [meetP p (u :: q), meetP (t :: p) q] (by simp) (by rw [show [meetP p (u :: q), meetP (t :: p) q].flatten = meetP p (u :: q) ++ meetP (t :: p) q by simp, List.length_append]; omega)).mono fun r _ e => by
      subst e
      have : [meetP p (u :: q), meetP (t :: p) q].flatten = meetP p (u :: q) ++ meetP (t :: p) q := by simp
      rw [this]; exact leV_refl _)
    refine CallY.mk c2 (by simp only [go_sem]) (by simp only [go_sem]) (.inl (by simp only [go_sem])) ?_
    simp only [go_sem, htk, List.length_cons, List.length_map, Nat.le_refl]
    refine CallY.mk c3 (by simp only [go_sem]) (by simp only [go_sem]) (.inl (by simp only [go_sem])) ?_
    simp only [go_sem]
    refine CallU.freeze hcc (by simp only [go_sem]) (by simp only [go_sem]) ?_
    rintro r bx rfl
    unfold restM
    cases hts : t.star with
    | false =>
     rw [if_pos (by simp)]
     simp only [go_sem]
     exact leV_refl _
    | true =>
     cases hus : u.star with
     | false =>
      rw [if_pos (by simp)]
      simp only [go_sem]
      exact leV_refl _
     | true =>
      rw [if_neg (by simp)]
      simp only [go_sem]
      refine CallU.free (con_mxClone t.ls (by omega)) (by simp only [go_sem]) (by simp only [go_sem]) ?_
      rintro r bx rfl
      have hm1 := con_delFuncF t.ls 96 [.pe 0 2 [vTm u] 0 0] (fun x => !decide (x ∈ u.ls)) (fun x _ => con_xmeet1 u x (by omega)) (fun bx => by simp only [go_sem]) (by omega)
      simp only [go_sem, hus] at hm1
      simp only [go_sem]
      refine CallU.lend hm1 (by simp only [go_sem]) (by simp only [go_sem]) ?_
      rintro r rfl
      have ef : (t.ls.filter fun x => !!decide (x ∈ u.ls)) = bothL t.ls u.ls := by unfold bothL; congr 1; funext x; rw [Bool.not_not]
      rw [ef]
      have hbl : (bothL t.ls u.ls).length <= t.ls.length := List.length_filter_le _ _
      have cb := con_xbegun ⟨true, bothL t.ls u.ls⟩ (meetP p (u :: q) ++ meetP (t :: p) q) (by rw [List.length_append]; omega) (fun x hx => by
       rcases List.mem_append.1 hx with hx | hx
       ·have := s2 x hx; omega
       ·have := s3 x hx; omega)
      simp only [go_sem] at cb
      simp only [go_sem]
      refine CallU.freeze cb (by simp only [go_sem]) (by simp only [go_sem]) ?_
      rintro r bx rfl
      simp only [go_sem]
      exact leV_refl _
theorem con_r09Check (n : Int) (p : List TmD) (hp : LenP p) : Con Tryz.prog 12 [vi n, vPr p] [] fun r _ => r = vi (checkX n p) := by
 refine Con.intro Tryz.func12 rfl Tryz.ntmps12 Tryz.results12 (by kernel_rfl) (by simp) 0 (by simp) ?_
 have hpl := hp.len
 by_cases hn : 1 <= n /\ n <= 6
 case neg =>
  have e : checkX n p = 2 := by unfold checkX; rw [if_pos hn]
  rw [e]
  by_cases h1 : n < 1
  ·simp only [go_sem, h1]
  ·have h2 : 6 < n := by omega
   simp only [go_sem, h1, h2]
 have h1 : ¬ n < 1 := by omega
 have h2 : ¬ 6 < n := by omega
 by_cases h3 : 24 < p.length
 ·have e : checkX n p = 1 := by unfold checkX; rw [if_neg (by simpa using hn), if_pos h3]
  rw [e]
  simp only [go_sem, h1, h2, h3, List.length_map]
 have ebad : ∀ i, i < p.length -> termB n p[i]! = false -> checkX n p = 8 := fun i hi hb => by
  unfold checkX
  rw [if_neg (by simpa using hn), if_neg h3, if_pos]
  exact List.any_eq_true.2 ⟨_, mem_bangI hi, by rw [hb]; rfl⟩
 have egood : (∀ j, j < p.length -> termB n p[j]! = true) -> checkX n p = 0 := fun hg => by
  unfold checkX
  rw [if_neg (by simpa using hn), if_neg h3, if_neg]
  intro hc
  obtain ⟨t, ht, hb⟩ := List.any_eq_true.1 hc
  obtain ⟨j, hj, rfl⟩ := List.getElem_of_mem ht
  have := hg j hj
  rw [getElem!_pos p j hj] at this
  rw [this] at hb
  cases hb
 simp only [go_sem, h1, h2, h3, List.length_map]
 refine LoopK.intro (fun i : Nat => ⟨80, [(0, vi n), (1, vPr p), (5, vi i)], []⟩)
  (fun i => p.length - i) (fun i => i <= p.length /\ ∀ j, j < i -> termB n p[j]! = true) 0 ⟨Nat.zero_le _, fun j hj => by omega⟩ ?_ ?_
 ·simp only [go_sem]
 rintro i ⟨hi, hall⟩
 by_cases h : i < p.length
 case neg =>
  have e := egood fun j hj => hall j (by omega)
  rw [e]
  simp only [go_sem, h, List.length_map]
 have hg := getTm h
 have hwi : IntKind.i64.wrap (i + 1) = i + 1 := wrap_in (by omega) (by omega)
 have htl := hp.terms _ (mem_bangI h)
 have ebad := ebad i h
 generalize hti : p[i]! = t at hg htl ebad
 by_cases hlen : t.star = true \/ t.ls.length = 1
 case neg =>
  have hs : t.star = false := by cases hs : t.star with
   | true => exact absurd (.inl hs) hlen
   | false => rfl
  have hl1 : ((t.ls.length : Int) != 1) = true := by simp only [bne_iff_ne, ne_eq]; intro hc; exact hlen (.inr (by omega))
  have e := ebad (by
   unfold termB
   rw [hs, decide_eq_false (fun hc => hlen (.inr hc))]; simp)
  rw [e]
  simp only [go_sem, h, hg, hs, hl1, List.length_map]
 have hcont : (t.star = false -> ((t.ls.length : Int) != 1) = false) := fun hs => by
  rcases hlen with hc | hc
  ·rw [hs] at hc; cases hc
  ·rw [hc]; rfl
 have hsl : (t.star || decide (t.ls.length = 1)) = true := by
  rcases hlen with hc | hc
  ·rw [hc]; rfl
  ·rw [hc]; simp
 apply share9b (T := fun τ => τ.le ⟨80, [(0, vi n), (1, vPr p), (5, vi i), (6, vi (0 : Nat))], []⟩)
 case h =>
  intro hsh
  cases hs : t.star with
  | true =>
   simp only [go_sem, h, hg, hs, List.length_map]
   refine hsh _ ?_
   simp only [go_sem]
  | false =>
   simp only [go_sem, h, hg, hs, hcont hs, List.length_map]
   refine hsh _ ?_
   simp only [go_sem]
 case key =>
  rintro τ hle
  refine LoopK.intro (fun k : Nat => ⟨80, [(0, vi n), (1, vPr p), (5, vi i), (6, vi k)], []⟩)
   (fun k => t.ls.length - k) (fun k => k <= t.ls.length /\ ∀ j, j < k -> ascAt n t.ls j) 0 ⟨Nat.zero_le _, fun j hj => by omega⟩ hle ?_
  clear hle
  rintro k ⟨hk, ha⟩
  by_cases h4 : k < t.ls.length
  case neg =>
   have ea : ascN n t.ls = true := ascN_iff.2 fun j hj => ha j (by omega)
   simp only [go_sem, h, hg, h4, hwi, List.length_map]
   refine roundK.intro (i + 1) ⟨by omega, fun j hj => ?_⟩ (by omega) ?_
   ·by_cases hji : j = i
    ·rw [hji, hti]; unfold termB; rw [ea, hsl]; rfl
    ·exact hall j (by omega)
   simp only [go_sem]
  have hg2 := getv h4
  have hwk : IntKind.i64.wrap (k + 1) = k + 1 := wrap_in (by omega) (by omega)
  have hbad : ¬ ascAt n t.ls k -> checkX n p = 8 := fun hb => ebad (by
   unfold termB
   rw [Bool.and_eq_false_iff]
   exact .inl (Bool.eq_false_iff.2 fun hc => hb (ascN_iff.1 hc k h4)))
  by_cases e1 : t.ls[k]! < 0
  ·rw [hbad fun hc => by have := hc.1; omega]
   simp only [go_sem, h, hg, h4, hg2, e1, List.length_map]
  by_cases e2 : n <= t.ls[k]!
  ·rw [hbad fun hc => by have := hc.1; omega]
   simp only [go_sem, h, hg, h4, hg2, e1, e2, List.length_map]
  by_cases h0 : 0 < k
  case neg =>
   simp only [go_sem, h, hg, h4, hg2, e1, e2, h0, hwk, List.length_map]
   refine roundK.intro (k + 1) ⟨by omega, fun j hj => ?_⟩ (by omega) ?_
   ·by_cases hjk : j = k
    ·subst hjk; exact ⟨by omega, fun hc => absurd hc h0⟩
    ·exact ha j (by omega)
   simp only [go_sem]
  have hg3 := getv (l := t.ls) (i := k - 1) (by omega)
  have hw2 : IntKind.i64.wrap ((k : Int) - 1) = ((k - 1 : Nat) : Int) := by rw [wrap_in (by omega) (by omega)]; omega
  have hk2 : k - 1 < t.ls.length := by omega
  by_cases e3 : t.ls[k]! <= t.ls[k - 1]!
  ·rw [hbad fun hc => by have := hc.2 h0; omega]
   simp only [go_sem, h, hg, h4, hg2, e1, e2, h0, hg3, hw2, hk2, e3, List.length_map]
  ·simp only [go_sem, h, hg, h4, hg2, e1, e2, h0, hg3, hw2, hk2, e3, hwk, List.length_map]
   refine roundK.intro (k + 1) ⟨by omega, fun j hj => ?_⟩ (by omega) ?_
   ·by_cases hjk : j = k
    ·subst hjk; exact ⟨by omega, fun _ => by omega⟩
    ·exact ha j (by omega)
   simp only [go_sem]
theorem con_r09within (t u : TmD) (ht : t.Ok) (hu : u.Ok) (htl : t.ls.length <= 1000000) (hul : u.ls.length <= 1000000) : Con Tryz.prog 76 [vTm t, vTm u] [] fun r _ => r = vb (witT t u) := by
 refine Con.intro Tryz.func76 rfl Tryz.ntmps76 Tryz.results76 (by kernel_rfl) (by simp) 0 (by simp) ?_
 have hc := con_r09subset t.ls u.ls htl hul
 unfold witT
 cases h1 : u.star with
 | true =>
  rw [if_pos rfl]
  unfold subL at hc
  simp only [go_sem, h1]
  refine CallU.free hc (by simp only [go_sem]) (by simp only [go_sem]) ?_
  rintro r bx rfl
  simp only [go_sem]
 | false =>
  rw [if_neg (by simp)]
  obtain ⟨y, hy⟩ := hu.one h1
  cases h2 : t.star with
  | true =>
   cases htl : t.ls with
   | nil =>
    simp only [go_sem, h1, h2, htl, List.isEmpty_nil, Bool.true_or]
   | cons x tl =>
    have h0 : ((tl.length : Int) + 1 == 0) = false := beq_eq_false_iff_ne.2 (by omega)
    simp only [go_sem, h1, h2, htl, h0, List.length_map, List.isEmpty_cons, Bool.not_true, Bool.false_and, Bool.or_false]
  | false =>
   obtain ⟨x, hx⟩ := ht.one h2
   have hz : (some x == some y) = (x == y) := rfl
   simp only [go_sem, h1, h2, hx, hy]
   refine DrawK.walk 9 mixed (by kernel_rfl) ?_
   simp only [go_sem, hx, hy, List.isEmpty_cons, Bool.not_false, Bool.true_and, Bool.false_or, List.head?_cons, hz]
theorem con_r09leq : ∀ (n : Nat) (p q : List TmD), p.length + q.length <= n -> OkP p -> OkP q -> LenP p -> LenP q -> Con Tryz.prog 41 [vPr p, vPr q] [] fun r _ => r = vb (leqP p q) := by
 intro n
 induction n with
 | zero =>
  intro p q h _ _ _ _
  obtain rfl : p = [] := List.length_eq_zero_iff.1 (by omega)
  refine Con.intro Tryz.func41 rfl Tryz.ntmps41 Tryz.results41 (by kernel_rfl) (by simp) 0 (by simp) ?_
  rw [leqP_nil]
  simp only [go_sem, List.map_nil, List.length_nil]
 | succ n ih =>
  intro p q h hp hq hpl hql
  refine Con.intro Tryz.func41 rfl Tryz.ntmps41 Tryz.results41 (by kernel_rfl) (by simp) 0 (by simp) ?_
  match p, h, hp, hpl with
  | [], h, hp, hpl =>
   rw [leqP_nil]
   simp only [go_sem, List.map_nil, List.length_nil]
  | t :: p, h, hp, hpl =>
   simp only [List.length_cons] at h
   have h0 : ((p.length : Int) + 1 == 0) = false := beq_eq_false_iff_ne.2 (by omega)
   have hpos : (0 : Int) < (p.length : Int) + 1 := by omega
   have htk : ∀ l : List TmD, (l.map vTm).take l.length = l.map vTm := fun l => List.take_of_length_le (by simp)
   have hpl' : LenP p := ⟨by have := hpl.len; simp only [List.length_cons] at this; omega, fun x hx => hpl.terms x (by simp [hx])⟩
   have c1 := ih p q (by omega) hp.tail hq hpl' hql
   simp only [vPr] at c1
   by_cases he : t.ls = []
   ·have hs : t.star = true := by
     cases hs : t.star with
     | true => rfl
     | false => obtain ⟨x, hx⟩ := hp.head.one hs; rw [he] at hx; cases hx
    have e : leqP (t :: p) q = leqP p q := by
     match q with
     | [] => rw [leqP_none, he]; simp
     | u :: q => rw [leqP_cons, he]; simp
    rw [e]
    simp only [go_sem, h0, hpos, hs, he, List.map_cons, List.length_cons, List.length_map, List.map_nil, List.length_nil, htk, Nat.le_refl]
    refine CallU.free c1 (by simp only [go_sem]) (by simp only [go_sem]) ?_
    rintro r bx rfl
    simp only [go_sem]
   have hne : ((t.ls.length : Int) == 0) = false := beq_eq_false_iff_ne.2 (by have := List.length_pos_iff.2 he; omega)
   have hie : t.ls.isEmpty = false := by
    cases htl : t.ls with
    | nil => exact absurd htl he
    | cons x l => rfl
   match q, h, hq, hql, c1 with
   | [], h, hq, hql, c1 =>
    rw [leqP_none, hie, Bool.false_and]
    cases hs : t.star <;> simp only [go_sem, h0, hpos, hs, hne, List.map_cons, List.length_cons, List.length_map, List.map_nil, List.length_nil]
   | u :: q, h, hq, hql, c1 =>
    simp only [List.length_cons] at h
    have hq0 : ((q.length : Int) + 1 == 0) = false := beq_eq_false_iff_ne.2 (by omega)
    have hqos : (0 : Int) < (q.length : Int) + 1 := by omega
    have hql' : LenP q := ⟨by have := hql.len; simp only [List.length_cons] at this; omega, fun x hx => hql.terms x (by simp [hx])⟩
    have c2 := ih (t :: p) q (by simp only [List.length_cons]; omega) hp hq.tail hpl hql'
    have c3 := ih p q (by omega) hp.tail hq.tail hpl' hql'
    have cw := con_r09within t u hp.head hq.head (hpl.terms t (by simp)) (hql.terms u (by simp))
    simp only [vPr, vTm, List.map_cons] at c1 c2 c3 cw
    simp only [go_sem] at c1 c2 c3 cw
    rw [leqP_cons, hie, if_neg (by simp)]
    cases hs : t.star <;> (
     rw [hs] at c2 cw
     simp only [go_sem, h0, hpos, hq0, hs, hne, List.map_cons, List.length_cons, List.length_map]
     refine DrawK.walk 7 mixed (by kernel_rfl) ?_
     simp only [go_sem, hpos, hqos, List.length_cons, List.length_map, Nat.le_refl]
     refine CallY.mk cw (by simp only [go_sem]) (by simp only [go_sem]) (.inl (by simp only [go_sem])) ?_
     cases hwit : witT t u with
     | false =>
      rw [if_pos (by rfl)]
      simp only [go_sem, List.length_cons, List.length_map, htk, Nat.le_refl]
      refine CallU.free c2 (by simp only [go_sem]) (by simp only [go_sem]) ?_
      rintro r bx rfl
      simp only [go_sem]
     | true =>
      rw [if_neg (by simp)]
      cases hus : u.star with
      | true =>
       rw [if_pos rfl]
       rw [hus] at c1
       simp only [go_sem, hqos, List.length_cons, List.length_map, htk, Nat.le_refl]
       refine CallU.free c1 (by simp only [go_sem]) (by simp only [go_sem]) ?_
       rintro r bx rfl
       simp only [go_sem]
      | false =>
       rw [if_neg (by simp)]
       simp only [go_sem, hqos, List.length_cons, List.length_map]
       refine DrawK.walk 5 mixed (by kernel_rfl) ?_
       simp only [go_sem, List.length_cons, List.length_map, htk, Nat.le_refl]
       refine CallY.mk c3 (by simp only [go_sem]) (by simp only [go_sem]) (.inl (by simp only [go_sem])) ?_
       simp only [go_sem])
def lexC : List Int -> List Int -> Int
 | [], [] => 0
 | [], _ :: _ => -1
 | _ :: _, [] => 1
 | x :: xs, y :: ys => if ordI x y ≠ 0 then ordI x y else lexC xs ys
theorem ordI_anti (a b : Int) : ordI b a = - ordI a b := by unfold ordI; split <;> split <;> (try split) <;> omega
theorem ordI_lt {a b c : Int} (h1 : ordI a b <= 0) (h2 : ordI b c <= 0) (h3 : ordI a b ≠ 0 \/ ordI b c ≠ 0) : ordI a c < 0 := by
 unfold ordI at *
 have k1 : a <= b := by
  rcases Int.lt_or_le b a with h | h
  ·rw [if_neg (by omega), if_pos h] at h1; omega
  ·exact h
 have k2 : b <= c := by
  rcases Int.lt_or_le c b with h | h
  ·rw [if_neg (by omega), if_pos h] at h2; omega
  ·exact h
 have k3 : a < c := by
  rcases h3 with h | h
  ·have : a ≠ b := fun e => h (by subst e; simp)
   omega
  ·have : b ≠ c := fun e => h (by subst e; simp)
   omega
 rw [if_pos k3]; omega
theorem lexC_anti : ∀ a b : List Int, lexC b a = - lexC a b
 | [], [] => rfl
 | [], _ :: _ => rfl
 | _ :: _, [] => rfl
 | x :: xs, y :: ys => by
  rw [lexC, lexC, ordI_anti x y, lexC_anti xs ys]
  by_cases h : ordI x y = 0
  ·rw [if_neg (by omega), if_neg (by omega)]
  ·rw [if_pos (by omega), if_pos (by omega)]
theorem lexC_zero : ∀ {a b : List Int}, lexC a b = 0 ↔ a = b
 | [], [] => by simp [lexC]
 | [], _ :: _ => by simp [lexC]
 | _ :: _, [] => by simp [lexC]
 | x :: xs, y :: ys => by
  rw [lexC]
  by_cases h : ordI x y = 0
  ·rw [if_neg (fun h' => h' h), lexC_zero, ordI_zero.1 h]; simp
  ·rw [if_pos h]
   exact ⟨fun e => absurd e h, fun e => absurd (ordI_zero.2 (by injection e)) h⟩
theorem lexC_trans : ∀ {a b c : List Int}, lexC a b <= 0 -> lexC b c <= 0 -> lexC a c <= 0
 | [], _, [], _, _ => by simp [lexC]
 | [], _, _ :: _, _, _ => by simp [lexC]
 | _ :: _, [], _, h, _ => by simp [lexC] at h
 | _ :: _, _ :: _, [], _, h => by simp [lexC] at h
 | x :: xs, y :: ys, z :: zs, h1, h2 => by
  rw [lexC] at h1 h2 ⊢
  by_cases e1 : ordI x y = 0
  ·rw [if_neg (fun h' => h' e1)] at h1
   obtain rfl := ordI_zero.1 e1
   by_cases e2 : ordI x z = 0
   ·rw [if_neg (fun h' => h' e2)] at h2 ⊢
    exact lexC_trans h1 h2
   ·rw [if_pos e2] at h2 ⊢
    exact h2
  ·rw [if_pos e1] at h1
   by_cases e2 : ordI y z = 0
   ·obtain rfl := ordI_zero.1 e2
    rw [if_pos e1]; exact h1
   ·rw [if_pos e2] at h2
    have := ordI_lt h1 h2 (.inl e1)
    rw [if_pos (by omega)]; omega
theorem lexC_drop {a b : List Int} {i : Nat} (hi : i < a.length) (hj : i < b.length) : lexC (a.drop i) (b.drop i) = if ordI a[i]! b[i]! ≠ 0 then ordI a[i]! b[i]! else lexC (a.drop (i + 1)) (b.drop (i + 1)) := by
 rw [List.drop_eq_getElem_cons hi, List.drop_eq_getElem_cons hj, lexC, getElem!_pos a i hi, getElem!_pos b i hj]
end Go.AM


namespace Go.AM
structure OrdB {β : Type} (cmp : β -> β -> Int) : Prop where
 zero : ∀ a b, cmp a b = 0 ↔ a = b
 anti : ∀ a b, cmp a b = - cmp b a
 trans : ∀ a b c, cmp a b < 0 -> cmp b c < 0 -> cmp a c < 0
section
variable {β : Type} {cmp : β -> β -> Int}
end
end Go.AM



namespace Go.AM
open Go Go.Proofs Go.RowKit
theorem ord_lexC : OrdB lexC := ⟨fun _ _ => lexC_zero, fun a b => lexC_anti b a, fun a b c h1 h2 => by
 have h3 := lexC_trans (Int.le_of_lt h1) (Int.le_of_lt h2)
 by_cases h : lexC a c = 0
 ·have e := lexC_zero.1 h
  subst e
  have := lexC_anti a b
  omega
 ·omega⟩
section
variable {β γ : Type}
theorem OrdB.comap {cmp : γ -> γ -> Int} (ho : OrdB cmp) {k : β -> γ} (hk : ∀ a b, k a = k b -> a = b) : OrdB fun a b => cmp (k a) (k b) :=
 ⟨fun a b => ⟨fun h => hk a b ((ho.zero _ _).1 h), fun h => by rw [h]; exact (ho.zero _ _).2 rfl⟩, fun a b => ho.anti _ _, fun a b c h1 h2 => ho.trans _ _ _ h1 h2⟩
def lexBy (cmp : β -> β -> Int) : List β -> List β -> Int
 | [], [] => 0
 | [], _ :: _ => -1
 | _ :: _, [] => 1
 | x :: xs, y :: ys => if cmp x y ≠ 0 then cmp x y else lexBy cmp xs ys
theorem lexBy_zero {cmp : β -> β -> Int} (ho : OrdB cmp) : ∀ a b : List β, lexBy cmp a b = 0 ↔ a = b
 | [], [] => by simp [lexBy]
 | [], _ :: _ => by simp [lexBy]
 | _ :: _, [] => by simp [lexBy]
 | x :: xs, y :: ys => by
  rw [lexBy]
  by_cases h : cmp x y = 0
  ·rw [if_neg (fun h' => h' h), lexBy_zero ho xs ys, (ho.zero x y).1 h]; simp
  ·rw [if_pos h]
   exact ⟨fun e => absurd e h, fun e => absurd ((ho.zero x y).2 (by injection e)) h⟩
theorem lexBy_anti {cmp : β -> β -> Int} (ho : OrdB cmp) : ∀ a b : List β, lexBy cmp a b = - lexBy cmp b a
 | [], [] => rfl
 | [], _ :: _ => rfl
 | _ :: _, [] => rfl
 | x :: xs, y :: ys => by
  have := ho.anti x y
  rw [lexBy, lexBy, lexBy_anti ho xs ys]
  by_cases h : cmp x y = 0
  ·rw [if_neg (by omega), if_neg (by omega)]
  ·rw [if_pos (by omega), if_pos (by omega), this]
theorem lexBy_trans {cmp : β -> β -> Int} (ho : OrdB cmp) : ∀ a b c : List β, lexBy cmp a b < 0 -> lexBy cmp b c < 0 -> lexBy cmp a c < 0
 | [], [], _, h, _ => by simp [lexBy] at h
 | [], _ :: _, [], _, h => by simp [lexBy] at h
 | [], _ :: _, _ :: _, _, _ => by simp [lexBy]
 | _ :: _, [], _, h, _ => by simp [lexBy] at h
 | _ :: _, _ :: _, [], _, h => by simp [lexBy] at h
 | x :: xs, y :: ys, z :: zs, h1, h2 => by
  rw [lexBy] at h1 h2 ⊢
  by_cases e1 : cmp x y = 0
  ·rw [if_neg (fun h' => h' e1)] at h1
   have e1 := (ho.zero _ _).1 e1
   subst e1
   by_cases e2 : cmp x z = 0
   ·rw [if_neg (fun h' => h' e2)] at h2 ⊢
    exact lexBy_trans ho xs ys zs h1 h2
   ·rw [if_pos e2] at h2 ⊢; exact h2
  ·rw [if_pos e1] at h1
   by_cases e2 : cmp y z = 0
   ·have e2 := (ho.zero _ _).1 e2
    subst e2
    rw [if_pos e1]; exact h1
   ·rw [if_pos e2] at h2
    have h3 := ho.trans _ _ _ h1 h2
    rw [if_pos (by omega)]; exact h3
theorem ord_lexBy {cmp : β -> β -> Int} (ho : OrdB cmp) : OrdB (lexBy cmp) := ⟨lexBy_zero ho, lexBy_anti ho, lexBy_trans ho⟩
def thenC (f : β -> Int) (cmp : β -> β -> Int) (a b : β) : Int := if ordI (f a) (f b) ≠ 0 then ordI (f a) (f b) else cmp a b
theorem ord_thenC {cmp : β -> β -> Int} (ho : OrdB cmp) (f : β -> Int) : OrdB (thenC f cmp) := by
 have z : ∀ x y : Int, ordI x y = 0 ↔ x = y := fun x y => ordI_zero
 refine ⟨fun a b => ?_, fun a b => ?_, fun a b c h1 h2 => ?_⟩
 ·unfold thenC
  by_cases h : ordI (f a) (f b) = 0
  ·rw [if_neg (fun h' => h' h)]; exact ho.zero a b
  ·rw [if_pos h]
   exact ⟨fun e => absurd e h, fun e => absurd ((z _ _).2 (by rw [e])) h⟩
 ·unfold thenC
  have := ordI_anti (f b) (f a)
  by_cases h : ordI (f a) (f b) = 0
  ·rw [if_neg (fun h' => h' h), if_neg (by omega)]; exact ho.anti a b
  ·rw [if_pos h, if_pos (by omega)]; exact this
 ·unfold thenC at *
  have l1 : ∀ x y : Int, ordI x y < 0 ↔ x < y := fun x y => by unfold ordI; split <;> (try split) <;> omega
  by_cases e1 : ordI (f a) (f b) = 0
  ·rw [if_neg (fun h' => h' e1)] at h1
   rw [(z _ _).1 e1]
   by_cases e2 : ordI (f b) (f c) = 0
   ·rw [if_neg (fun h' => h' e2)] at h2 ⊢; exact ho.trans _ _ _ h1 h2
   ·rw [if_pos e2] at h2 ⊢; exact h2
  ·rw [if_pos e1] at h1
   by_cases e2 : ordI (f b) (f c) = 0
   ·rw [<- (z _ _).1 e2, if_pos e1]; exact h1
   ·rw [if_pos e2] at h2
    have a1 := (l1 _ _).1 h1; have a2 := (l1 _ _).1 h2
    have : ordI (f a) (f c) < 0 := (l1 _ _).2 (by omega)
    rw [if_pos (by omega)]; exact this
end
def keyT (t : TmD) : List Int := (if t.star then 1 else 0) :: (t.ls.length : Int) :: t.ls
def cmpTm (a b : TmD) : Int := lexC (keyT a) (keyT b)
theorem ord_Tm : OrdB cmpTm := ord_lexC.comap fun a b h => by
 unfold keyT at h
 injection h with h1 h2
 injection h2 with h2 h3
 cases a with | mk s l => cases b with | mk s' l' =>
 simp only at h1 h3
 subst h3
 have : s = s' := by cases s <;> cases s' <;> simp_all
 rw [this]
def cmpPr (p q : List TmD) : Int := thenC (fun p : List TmD => (p.length : Int)) (lexBy cmpTm) p q
theorem ord_Pr : OrdB cmpPr := ord_thenC (ord_lexBy ord_Tm) _
end Go.AM
namespace Go.AM
structure NrP (p : List TmD) (i : Nat) (out : List TmD) : Prop where
 red : redP out
 eq : EqP (out ++ p.drop i) p
 sub : ∀ t ∈ out, t ∈ p
 len : out.length <= i
theorem NrP.start (p : List TmD) : NrP p 0 [] := ⟨trivial, EqP.refl p, fun _ ht => absurd ht (by simp), Nat.zero_le _⟩
theorem NrP.done {p out : List TmD} (hp : OkP p) (h : NrP p p.length out) : out = normP p := by
 have he := h.eq
 rw [List.drop_length, List.append_nil] at he
 exact red_eq (fun t ht => hp t (h.sub t ht)) (normP_ok hp) h.red (normP_red p) (he.trans (normP_eq p))
theorem drop_bang {p : List TmD} {i : Nat} (h : i < p.length) : p.drop i = p[i]! :: p.drop (i + 1) := by
 rw [List.drop_eq_getElem_cons h, getElem!_pos p i h]
theorem NrP.empty {p out : List TmD} {i : Nat} (h : NrP p i out) (hi : i < p.length) (he : p[i]!.ls = []) : NrP p (i + 1) out :=
 ⟨h.red, by have := h.eq; rw [drop_bang hi] at this; exact ((eq_empty he _).app out).symm.trans this, h.sub, by have := h.len; omega⟩
theorem snoc_last {out : List TmD} (h : 0 < out.length) : out = out.take (out.length - 1) ++ [out[out.length - 1]!] := by
 have := List.take_succ_eq_append_getElem (l := out) (i := out.length - 1) (by omega)
 rw [show out.length - 1 + 1 = out.length by omega, List.take_length, <- getElem!_pos out _ (by omega)] at this
 exact this
theorem NrP.pop {p out : List TmD} {i : Nat} (h : NrP p i out) (hi : i < p.length) (h0 : 0 < out.length) (hs : p[i]!.star = true) (hw : witT out[out.length - 1]! p[i]! = true) : NrP p i (out.take (out.length - 1)) := by
 have e := snoc_last h0
 generalize out[out.length - 1]! = u at hw e
 have hl := h.len
 generalize ha : out.take (out.length - 1) = a at e
 have hal : a.length = out.length - 1 := by rw [<- ha, List.length_take]; omega
 subst e
 refine ⟨red_init h.red, ?_, fun t ht => h.sub t (by simp [ht]), by omega⟩
 have he := h.eq
 rw [drop_bang hi, List.append_assoc] at he
 rw [drop_bang hi]
 exact ((eq_next hs hw _).app a).symm.trans he
theorem NrP.skip {p out : List TmD} {i : Nat} (h : NrP p i out) (hi : i < p.length) (h0 : 0 < out.length) (hs : out[out.length - 1]!.star = true) (hw : witT p[i]! out[out.length - 1]! = true) : NrP p (i + 1) out := by
 have e := snoc_last h0
 generalize out[out.length - 1]! = u at hs hw e
 generalize out.take (out.length - 1) = a at e
 refine ⟨h.red, ?_, h.sub, by have := h.len; omega⟩
 have he := h.eq
 rw [drop_bang hi] at he
 rw [e, List.append_assoc] at he ⊢
 exact ((eq_prev hs hw _).app a).symm.trans he
theorem NrP.push {p out : List TmD} {i : Nat} (h : NrP p i out) (hi : i < p.length) (hn : p[i]!.ls ≠ [])
  (ha : 0 < out.length -> ¬ (p[i]!.star = true /\ witT out[out.length - 1]! p[i]! = true) /\ ¬ (out[out.length - 1]!.star = true /\ witT p[i]! out[out.length - 1]! = true)) : NrP p (i + 1) (out ++ [p[i]!]) := by
 refine ⟨?_, ?_, fun t ht => ?_, by have := h.len; rw [List.length_append]; simp; omega⟩
 ·by_cases h0 : 0 < out.length
  ·have e := snoc_last h0
   obtain ⟨h1, h2⟩ := ha h0
   have hr := h.red
   generalize out[out.length - 1]! = u at h1 h2 e
   generalize out.take (out.length - 1) = a at e
   subst e
   have := red_snoc hr ⟨h1, h2⟩ hn
   simpa using this
  ·rw [List.length_eq_zero_iff.1 (by omega : out.length = 0)]; exact red_one hn
 ·have he := h.eq
  rw [drop_bang hi] at he
  rw [List.append_assoc]; exact he
 ·rcases List.mem_append.1 ht with ht | ht
  ·exact h.sub t ht
  ·rw [List.mem_singleton.1 ht, getElem!_pos p i hi]; exact List.getElem_mem _
end Go.AM
namespace Go.AM
open Go Go.Proofs Go.RowKit
set_option maxRecDepth 100000
set_option maxHeartbeats 8000000
def termTree : Tr := .front 0 (.front 2 (.alt (.one 1 (.one 3 (.one 4 (.one 5 (.one 6 .done))))) (.one 3 (.alt (.one 1 (.one 4 (.one 5 (.one 6 .done)))) (.one 4 (.one 1 (.one 5 (.one 6 .done))))))))
theorem con_r09term (t : TmD) (hl : t.ls.length <= 1000000) : Con Tryz.prog 85 [vTm t] [] fun r _ => r = vTm t := by
 refine Con.frozX ?_
 refine Con.intro Tryz.func85 rfl Tryz.ntmps85 Tryz.results85 (by kernel_rfl) (by simp) 0 (by simp) ?_
 have hr : roomFor t.ls.length 8 := by simp only [roomFor]; omega
 simp only [go_sem]
 refine DrawK.tree termTree mixed (by kernel_rfl) ?_
 unfold termTree
 simp only [go_sem, hr, List.length_map]
 repeat' (first | with_reducible apply andK_mk | exact trivial | exact leV_refl _ | simp only [go_sem, hr, List.length_map])
theorem con_r09normal (p : List TmD) (hp : OkP p) (hl : LenP p) : Con Tryz.prog 54 [vPr p] [] fun r _ => r = vPr (normP p) := by
 refine Con.frozX ?_
 refine Con.intro Tryz.func54 rfl Tryz.ntmps54 Tryz.results54 (by kernel_rfl) (by simp) 0 (by simp) ?_
 have hpl := hl.len
 simp only [go_sem]
 refine LoopK.intro (fun x : Nat × List TmD => ⟨91, [(0, vPr p), (3, .sl 5760 2 (x.2.map vTm)), (4, vi x.1)], []⟩)
  (fun x => p.length - x.1) (fun x => x.1 <= p.length /\ NrP p x.1 x.2) (0, []) ⟨Nat.zero_le _, NrP.start p⟩ ?_ ?_
 ·simp only [go_sem, List.map_nil]
  all_goals exact leB_self _
 rintro ⟨i, out⟩ ⟨hi, hN⟩
 simp only at hi hN
 by_cases h : i < p.length
 case neg =>
  obtain rfl : i = p.length := by omega
  have e := hN.done hp
  simp only [go_sem, h, <- e, List.length_map]
  exact leV_refl _
 have hg := getTm h
 have hwi : IntKind.i64.wrap (i + 1) = i + 1 := wrap_in (by omega) (by omega)
 have htl := hl.terms _ (mem_bangI h)
 have hto := hp _ (mem_bangI h)
 by_cases he : p[i]!.ls = []
 ·have hs : p[i]!.star = true := by
   cases hs : p[i]!.star with
   | true => rfl
   | false => obtain ⟨x, hx⟩ := hto.one hs; rw [he] at hx; cases hx
  simp only [go_sem, h, hg, hs, he, hwi, List.length_map, List.map_nil, List.length_nil]
  refine roundK.intro (i + 1, out) ⟨by show i + 1 <= _; omega, hN.empty h he⟩ (by show p.length - (i + 1) < p.length - i; omega) ?_
  simp only [go_sem]
 have hne : ((p[i]!.ls.length : Int) == 0) = false := beq_eq_false_iff_ne.2 (by have := List.length_pos_iff.2 he; omega)
 apply share9b (T := fun τ => τ.le ⟨91, [(0, vPr p), (3, .sl 5760 2 (out.map vTm)), (4, vi i)], []⟩)
 case h =>
  intro hsh
  cases hs : p[i]!.star with
  | true =>
   simp only [go_sem, h, hg, hs, hne, List.length_map]
   refine hsh _ ?_
   simp only [go_sem]
  | false =>
   simp only [go_sem, h, hg, hs, List.length_map]
   refine hsh _ ?_
   simp only [go_sem]
 case key =>
  rintro τ hle
  refine LoopK.intro (fun out : List TmD => ⟨91, [(0, vPr p), (3, .sl 5760 2 (out.map vTm)), (4, vi i)], []⟩)
   (fun out => out.length) (fun out => NrP p i out) out hN hle ?_
  clear hle hN
  rintro out hN
  have hol := hN.len
  have hgo : ∀ {k}, k < out.length -> (out.map vTm)[k]? = some (vTm out[k]!) := fun h => getTm h
  have hst : 0 < out.length -> out[out.length - 1]!.ls.length <= 1000000 := fun h0 => hl.terms _ (hN.sub _ (mem_bangI (by omega)))
  apply shareD (T := fun τ => ∃ out, NrP p i out /\ (0 < out.length -> ¬ (p[i]!.star = true /\ witT out[out.length - 1]! p[i]! = true)) /\ τ.le ⟨91, [(0, vPr p), (3, .sl 5760 2 (out.map vTm)), (4, vi i)], []⟩)
  case h =>
   intro hsh
   by_cases h0 : 0 < out.length
   case neg =>
    simp only [go_sem]
    refine DrawK.walk 24 mixed (by kernel_rfl) ?_
    simp only [go_sem, h0, List.length_map]
    refine hsh _ ⟨out, hN, fun hc => absurd hc h0, ?_⟩
    simp only [go_sem]
   have hgl := hgo (k := out.length - 1) (by omega)
   have hw1 : IntKind.i64.wrap ((out.length : Int) - 1) = ((out.length - 1 : Nat) : Int) := by rw [wrap_in (by omega) (by omega)]; omega
   have hlt : out.length - 1 < out.length := by omega
   have hle1 : out.length - 1 <= out.length := by omega
   cases hs : p[i]!.star with
   | false =>
    simp only [go_sem]
    refine DrawK.walk 24 mixed (by kernel_rfl) ?_
    simp only [go_sem, h0, h, hg, hs, List.length_map]
    refine hsh _ ⟨out, hN, fun _ hc => by rw [hs] at hc; exact absurd hc.1 (by simp), ?_⟩
    simp only [go_sem]
   | true =>
    have hc := con_r09subset out[out.length - 1]!.ls p[i]!.ls (hst h0) htl
    have hwt : subL out[out.length - 1]!.ls p[i]!.ls = witT out[out.length - 1]! p[i]! := by unfold witT subL; rw [if_pos hs]
    rw [hwt] at hc
    simp only [go_sem]
    refine DrawK.walk 24 mixed (by kernel_rfl) ?_
    simp only [go_sem, h0, h, hg, hs, hgl, hw1, hlt, List.length_map]
    refine CallY.mk hc (by simp only [go_sem]) (by simp only [go_sem]) (.inl (by simp only [go_sem])) ?_
    cases hwit : witT out[out.length - 1]! p[i]! with
    | true =>
     simp only [go_sem, hw1, hle1, List.length_map]
     refine roundK.intro (out.take (out.length - 1)) (hN.pop h h0 hs hwit) (by rw [List.length_take]; omega) ?_
     simp only [go_sem, List.map_take]
    | false =>
     simp only [go_sem]
     refine hsh _ ⟨out, hN, fun _ hc => by rw [hwit] at hc; exact absurd hc.2 (by simp), ?_⟩
     simp only [go_sem]
  case key =>
   rintro τ ⟨out, hN, hnp, hle⟩
   refine DrawK.leX _ hle ?_
   clear hle
   have hol := hN.len
   have hct := con_r09term p[i]! htl
   have hroom : roomFor (out.length + 1) 32 := by simp only [roomFor]; omega
   simp only [vTm] at hct
   simp only [go_sem] at hct
   by_cases h0 : 0 < out.length
   case neg =>
    refine DrawK.walk 26 mixed (by kernel_rfl) ?_
    simp only [go_sem, h0, h, hg, List.length_map]
    refine CallU.free hct (by simp only [go_sem]) (by simp only [go_sem]) ?_
    rintro r bx rfl
    simp only [go_sem, hwi]
    refine ⟨by simp only [roomFor]; omega, ?_⟩
    refine roundK.intro (i + 1, out ++ [p[i]!]) ⟨by show i + 1 <= _; omega, hN.push h he fun hc => absurd hc h0⟩ (by show p.length - (i + 1) < p.length - i; omega) ?_
    simp only [go_sem, List.map_append, List.map_cons, List.map_nil]
   have hgl : (out.map vTm)[out.length - 1]? = some (vTm out[out.length - 1]!) := getTm (by omega)
   have hw1 : IntKind.i64.wrap ((out.length : Int) - 1) = ((out.length - 1 : Nat) : Int) := by rw [wrap_in (by omega) (by omega)]; omega
   have hlt : out.length - 1 < out.length := by omega
   have hul := hl.terms _ (hN.sub _ (mem_bangI hlt))
   generalize hu : out[out.length - 1]! = u at hgl hul hnp
   cases hs : u.star with
   | false =>
    refine DrawK.walk 26 mixed (by kernel_rfl) ?_
    simp only [go_sem, h0, h, hg, hgl, hw1, hlt, hs, List.length_map]
    refine CallU.free hct (by simp only [go_sem]) (by simp only [go_sem]) ?_
    rintro r bx rfl
    simp only [go_sem, hwi]
    refine ⟨by simp only [roomFor]; omega, ?_⟩
    refine roundK.intro (i + 1, out ++ [p[i]!]) ⟨by show i + 1 <= _; omega, hN.push h he fun hc => by rw [hu]; exact ⟨hnp hc, fun h2 => by rw [hs] at h2; exact absurd h2.1 (by simp)⟩⟩ (by show p.length - (i + 1) < p.length - i; omega) ?_
    simp only [go_sem, List.map_append, List.map_cons, List.map_nil]
   | true =>
    have hc := con_r09subset p[i]!.ls u.ls htl hul
    have hwt : subL p[i]!.ls u.ls = witT p[i]! u := by unfold witT subL; rw [if_pos hs]
    rw [hwt] at hc
    refine DrawK.walk 26 mixed (by kernel_rfl) ?_
    simp only [go_sem, h0, h, hg, hgl, hw1, hlt, hs, List.length_map]
    refine CallY.mk hc (by simp only [go_sem]) (by simp only [go_sem]) (.inl (by simp only [go_sem])) ?_
    cases hwit : witT p[i]! u with
    | true =>
     simp only [go_sem, hwi]
     refine roundK.intro (i + 1, out) ⟨by show i + 1 <= _; omega, hN.skip h h0 (by rw [hu]; exact hs) (by rw [hu]; exact hwit)⟩ (by show p.length - (i + 1) < p.length - i; omega) ?_
     simp only [go_sem]
    | false =>
     simp only [go_sem, h, hg, List.length_map]
     refine CallU.free hct (by simp only [go_sem]) (by simp only [go_sem]) ?_
     rintro r bx rfl
     simp only [go_sem, hwi]
     refine ⟨by simp only [roomFor]; omega, ?_⟩
     refine roundK.intro (i + 1, out ++ [p[i]!]) ⟨by show i + 1 <= _; omega, hN.push h he fun hc => by rw [hu]; exact ⟨hnp hc, fun h2 => by rw [hwit] at h2; exact absurd h2.2 (by simp)⟩⟩ (by show p.length - (i + 1) < p.length - i; omega) ?_
     simp only [go_sem, List.map_append, List.map_cons, List.map_nil]
end Go.AM
namespace Go.AM
open Go.RowKit
def noPb (N : Nat) : AV -> Bool
 | .pb i _ => decide (i ≠ N)
 | .cl _ caps => caps.all fun c => match c with
  | .pb i _ => decide (i ≠ N)
  | _ => true
 | _ => true
def noPbT (N : Nat) : List (Nat × AV) -> Bool
 | [] => true
 | (_, v) :: r => v.allLeaf (noPb N) && noPbT N r
def noPbB (N : Nat) : List (List AV) -> Bool
 | [] => true
 | cs :: r => allLeafs (noPb N) cs && noPbB N r
def lookA : List (Nat × Nat) -> Nat -> Option Nat
 | [], _ => none
 | (i, N) :: r, k => if i = k then some N else lookA r k
def AllocP (P : Program) (bx : List (List AV)) (o : Oper) (N : Nat) (y : AV) : Prop :=
 o.guard = none /\ y = .pb N 0 /\ ∃ T q z, o.op = .alloc T /\ tinfo P T = some q /\ q.2.2 = some z /\ zeroOk q.1 z = true /\ bx[N]? = some (List.replicate q.1 .any)
section
variable {P : Program} {ops : Array Oper} {m : Nat} {vs : List (Nat × AV)} {E : List Nat} {A : List (Nat × Nat)} {C : Nat -> List AV} {i0 : Nat} {σ : St} {K : St -> Prop} {G0 : Orig} {w0 : World} {Q : Exit -> Act -> World -> Prop}
end
def noVar : AV -> Bool
 | .pb _ _ => false
 | .cl _ _ => false
 | _ => true
def AllocK (P : Program) (o : Oper) (N : Nat) (σ : St) (K : St -> Prop) : Prop :=
 ∃ d, o.dst = some d /\ d < σ.n /\ AllocP P σ.boxes o N (.pb N 0) /\ K (σ.put (some d) (.pb N 0))
section
variable {P : Program} {ops : Array Oper} {n0 i0 : Nat} {E LF : List Nat} {A : List (Nat × Nat)}
def pbBut (N d : Nat) : List (Nat × AV) -> Bool
 | [] => true
 | (s, v) :: r => (s == d || v.allLeaf (noPb N)) && pbBut N d r
def keptOk (ops : Array Oper) (l : List (Nat × AV)) : List (Nat × Nat) -> Bool
 | [] => true
 | (i, N) :: r => (match (ops[i]?).bind (·.dst) with
  | some d => pbBut N d l
  | none => false) && keptOk ops l r
def keptFree (σ : St) : List (Nat × Nat) -> Bool
 | [] => true
 | (_, N) :: r => (decide (σ.boxes.length <= N) && (noPbT N σ.tmps && noPbB N σ.boxes)) && keptFree σ r
def anyB (ph : List Nat) : List (List AV) := ph.map fun k => List.replicate k .any
def hasD (d s : Nat) : List (Nat × Nat) -> Bool
 | [] => false
 | (a, b) :: r => (a == d && b == s) || hasD d s r
def freeButD (D : List (Nat × Nat)) (d : Nat) : List (Nat × AV) -> Bool
 | [] => true
 | (s, v) :: r => (s == d || (hasD d s D || v.allLeaf (freeLeaf d))) && freeButD D d r
def freeOthersD (D : List (Nat × Nat)) (l : List (Nat × AV)) : List Nat -> Bool
 | [] => true
 | d :: r => freeButD D d l && freeOthersD D l r
end
def headZ (P : Program) (ops : Array Oper) (_n0 i0 : Nat) (_E _LF : List Nat) (A : List (Nat × Nat)) (D : List (Nat × Nat)) (ds : List Nat) (tr : Tr) (sg : Option (Nat × Tr)) (σ : St) (c : List AV) (K : St -> Prop) : Prop :=
 (freeOthersD D σ.tmps ds = true /\ keptOk ops σ.tmps A = true) /\ treeA P ops tr { σ with boxes := σ.boxes.set i0 c } K /\ sgA P ops sg { σ with boxes := σ.boxes.set i0 c } K
def headY (P : Program) (ops : Array Oper) (n0 i0 : Nat) (E LF : List Nat) (A : List (Nat × Nat)) (D : List (Nat × Nat)) (ds : List Nat) (tr : Tr) (sg : Option (Nat × Tr)) : Nat -> Nat -> List Oper -> St -> List AV -> (St -> Prop) -> Prop
 | _, 0, _, σ, c, K => headZ P ops n0 i0 E LF A D ds tr sg σ c K
 | _, _ + 1, [], σ, c, K => headZ P ops n0 i0 E LF A D ds tr sg σ c K
 | k, m + 1, o :: r, σ, c, K => if E.contains k = true then EffK P n0 i0 o σ c fun σ' c' => allLeafs noVar c' = true /\ headY P ops n0 i0 E LF A D ds tr sg (k + 1) m r σ' c' K else if LF.contains k = true then frB P o σ fun σ' => headY P ops n0 i0 E LF A D ds tr sg (k + 1) m r σ' c K else match lookA A k with
  | some N => AllocK P o N σ fun σ' => headY P ops n0 i0 E LF A D ds tr sg (k + 1) m r σ' c K
  | none => headG P ops o σ fun σ' => headY P ops n0 i0 E LF A D ds tr sg (k + 1) m r σ' c K
section
variable {P : Program} {n : Nat} {t : List (Nat × AV)} {b : List (List AV)} {ops : Array Oper} {n0 i0 k m : Nat} {E LF ds : List Nat} {A D : List (Nat × Nat)} {tr : Tr} {sg : Option (Nat × Tr)} {l : List Oper} {c : List AV} {K : St -> Prop}
variable {d : Nat} {T : TypeId} {pos : String} {af : Array Edge} {g : Option (Nat × Bool)}
@[congr] theorem headY_congr {n0' k' : Nat} {σ σ' : St} {c' : List AV} (h0 : n0 = n0') (h1 : k = k') (h : mkd σ = σ') (h2 : c = c') : headY P ops n0 i0 E LF A D ds tr sg k m l σ c K = headY P ops n0' i0 E LF A D ds tr sg k' m l σ' c' K := by subst_vars; rfl
def selN (o : Option Nat) (f : Nat -> Prop) (p : Prop) : Prop := match o with
 | some N => f N
 | none => p
@[congr] theorem selN_congr {o o' : Option Nat} {f : Nat -> Prop} {p : Prop} (h : o = o') : selN o f p = selN o' f p := by subst_vars; rfl
@[go_sem] theorem selN_some {N : Nat} {f : Nat -> Prop} {p : Prop} : selN (some N) f p = f N := rfl
@[go_sem] theorem selN_none {f : Nat -> Prop} {p : Prop} : selN none f p = p := rfl
@[congr] theorem AllocK_congr {o : Oper} {N : Nat} {σ σ' : St} {K : St -> Prop} (h : mkd σ = σ') : AllocK P o N σ K = AllocK P o N σ' K := by subst_vars; rfl
attribute [go_sem] freeOthersD freeButD hasD lookA keptOk pbBut keptFree noPbT noPbB noPb noVar anyB
end
end Go.AM
namespace Go.AM
open Go.RowKit
variable {P : Program}
def CallYF (P : Program) (f : AV) (args : List AV) (d : Nat) (σ : St) (K : St -> Prop) : Prop :=
 match f with
 | .fn fid caps => CallY P fid (args ++ caps) d σ K
 | _ => False
@[congr] theorem CallYF_congr {f f' : AV} {args args' : List AV} {d : Nat} {K : St -> Prop} {σ σ' : St} (h0 : mkd f = f') (h1 : args = args') (h : σ = σ') : CallYF P f args d σ K = CallYF P f' args' d σ' K := by subst_vars; rfl
@[go_sem] theorem CallYF_fn {f : FuncId} {caps args : List AV} {d : Nat} {σ : St} {K : St -> Prop} : CallYF P (.fn f caps) args d σ K = CallY P f (args ++ caps) d σ K := rfl
end Go.AM
namespace Go.AM
open Go Go.Proofs Go.RowKit
def vPT (p : Int × Int) : AV := .ag [vi p.1, vi p.2, .nil, .nil]
def flatT (t : Nat) (ps : List (Int × Int)) : AV := .ag [vi 3, vi 0, .nil, .sl t 4 (ps.map vPT)]
attribute [go_sem] vPT flatT
end Go.AM

namespace Go.AM
open Go Go.Proofs Go.RowKit
set_option maxRecDepth 100000
theorem con_nan (x : Int) : Con Tryz.prog 77 [vi x] [] fun r _ => r = .sc (.bool false) := by
 refine Con.intro Tryz.func77 rfl Tryz.ntmps77 Tryz.results77 (by kernel_rfl) (by simp) 0 (by simp) ?_
 simp only [go_sem]
theorem con_cmpI (x y : Int) : Con Tryz.prog 43 [vi x, vi y] [] fun r _ => r = vi (ordI x y) := by
 refine Con.intro Tryz.func43 rfl Tryz.ntmps43 Tryz.results43 (by kernel_rfl) (by simp) 0 (by simp) ?_
 simp only [go_sem]
 refine CallU.free (con_nan x) (by simp only [go_sem]) (by simp only [go_sem]) ?_
 rintro r bx rfl
 simp only [go_sem]
 refine CallU.free (con_nan y) (by simp only [go_sem]) (by simp only [go_sem]) ?_
 rintro r bx rfl
 by_cases h1 : x < y
 ·have e : ordI x y = -1 := by unfold ordI; rw [if_pos h1]
  simp only [go_sem, h1, e]
 by_cases h2 : y < x
 ·have e : ordI x y = 1 := by unfold ordI; rw [if_neg h1, if_pos h2]
  simp only [go_sem, h1, h2, e]
 ·have e : ordI x y = 0 := by unfold ordI; rw [if_neg h1, if_neg h2]
  simp only [go_sem, h1, h2, e]
theorem con_or (l : List Int) (hl : l.length <= 9223372036854775807) : Con Tryz.prog 42 [vs 0 l] [] fun r _ => r = vi (orF l) := by
 refine Con.intro Tryz.func42 rfl Tryz.ntmps42 Tryz.results42 (by kernel_rfl) (by simp) 0 (by simp) ?_
 simp only [go_sem]
 refine LoopK.intro (fun i : Nat => ⟨18, [(3, vi 0), (6, vs 0 l), (7, vi l.length), (8, vi i)], []⟩)
  (fun i => l.length - i) (fun i => i <= l.length /\ orF (l.drop i) = orF l) 0 ⟨by omega, rfl⟩ ?_ ?_
 ·simp only [go_sem]
 rintro i ⟨hi, he⟩
 by_cases h : i < l.length
 ·have g1 := getv h
  have hw : IntKind.i64.wrap (i + 1) = i + 1 := wrap_in (by omega) (by omega)
  have hd : l.drop i = l[i]! :: l.drop (i + 1) := by rw [<- List.getElem_cons_drop h, <- getElem!_pos l i h]
  rw [hd] at he
  by_cases h0 : l[i]! = 0
  ·have hb : (l[i]! != 0) = false := by simp [h0]
   simp only [go_sem, h, g1, hb, hw]
   refine roundK.intro (i + 1) ⟨by omega, ?_⟩ (by omega) ?_
   ·rw [<- he]; unfold orF; rw [List.find?_cons_of_neg (by rw [hb]; simp)]
   ·simp only [go_sem]
  ·have hb : (l[i]! != 0) = true := bne_iff_ne.2 h0
   have e : orF l = l[i]! := by rw [<- he]; unfold orF; rw [List.find?_cons_of_pos (by exact hb)]; rfl
   simp only [go_sem, h, g1, hb, e]
 ·have e : orF l = 0 := by rw [<- he, List.drop_of_length_le (by omega)]; rfl
  simp only [go_sem, h, e]
theorem con_lexC (a b : List Int) (ha : a.length <= 1000000) : Con Tryz.prog 78 [vs 0 a, vs 0 b] [] fun r _ => r = vi (lexC a b) := by
 refine Con.intro Tryz.func78 rfl Tryz.ntmps78 Tryz.results78 (by kernel_rfl) (by simp) 0 (by simp) ?_
 simp only [go_sem]
 refine LoopK.intro (fun i : Nat => ⟨36, [(0, vs 0 a), (1, vs 0 b), (9, vs 0 a), (10, vi a.length), (11, vi i)], []⟩)
  (fun i => a.length - i) (fun i => i <= a.length /\ i <= b.length /\ lexC (a.drop i) (b.drop i) = lexC a b) 0 ⟨by omega, by omega, rfl⟩ ?_ ?_
 ·simp only [go_sem]
 rintro i ⟨hi, hj, hd⟩
 by_cases h : i < a.length
 ·have hg := getv h
  have hw : IntKind.i64.wrap (i + 1) = i + 1 := wrap_in (by omega) (by omega)
  by_cases h2 : i < b.length
  ·have hg2 := getv h2
   have h3 : ¬ (b.length : Int) <= i := by omega
   rw [lexC_drop h h2] at hd
   simp only [go_sem, h, h2, hg, hg2, h3]
   refine CallU.free (con_cmpI a[i]! b[i]!) (by simp only [go_sem]) (by simp only [go_sem]) ?_
   rintro r bx rfl
   by_cases h4 : ordI a[i]! b[i]! = 0
   ·have h5 : (ordI a[i]! b[i]! != 0) = false := by rw [h4]; rfl
    rw [if_neg (fun h' => h' h4)] at hd
    simp only [go_sem, h5, hw]
    refine roundK.intro (i + 1) ⟨by omega, by omega, hd⟩ (by omega) ?_
    simp only [go_sem]
   ·have h5 : (ordI a[i]! b[i]! != 0) = true := bne_iff_ne.2 h4
    rw [if_pos h4] at hd
    rw [hd] at h5
    simp only [go_sem, h5, hd]
  ·have h3 : (b.length : Int) <= i := by omega
   have e : lexC a b = 1 := by
    rw [<- hd, show b.drop i = [] from List.drop_of_length_le (by omega), List.drop_eq_getElem_cons h]; rfl
   simp only [go_sem, h, hg, h3, e]
 ·have hil : i = a.length := by omega
  subst hil
  rw [List.drop_length] at hd
  by_cases h2 : a.length < b.length
  ·have e : lexC a b = -1 := by rw [<- hd, List.drop_eq_getElem_cons h2]; rfl
   simp only [go_sem, h, h2, e]
  ·have e : lexC a b = 0 := by rw [<- hd, List.drop_of_length_le (by omega)]; rfl
   simp only [go_sem, h, h2, e]
set_option maxHeartbeats 8000000
section
variable {P : Program}
theorem evLookup_bi {T' : TypeId} {K : AV -> Prop} {t' : Nat} {k e : TypeId} {D : DataW Unit} {s : Bool} {q : Nat × Nat × Option Value} (hT : P.underlying T' = some (.map k e)) (hk : P.underlying k = some .bool) (he : P.underlying e = some (.int .i64))
  (hq : tinfo P e = some q) (hz : q.2.2 = some (.int .i64 0)) (h : K (.sc (.int .i64 (intAt .i64 D (.bool s))))) : evLookup P T' (.mp t' P k e D) (.sc (.bool s)) K := by
 unfold evLookup
 refine ⟨rfl, hT, by rw [hk]; rfl, _, Go.Maps.keyOf_bool_mk hk s, q, hq, ?_⟩
 rw [he]; exact ⟨hz, h⟩
theorem evMapPut_bi {T' : TypeId} {σ : St} {K : St -> Prop} {t' : Nat} {k e : TypeId} {D : DataW Unit} {s : Bool} {x : Int} (hT : P.underlying T' = some (.map k e)) (hk : P.underlying k = some .bool) (he : P.underlying e = some (.int .i64))
  (hx : (Lit.int .i64 x).wf = true) (hl : mapLen D < 9223372036854775807) (h : K (σ.map (putMap t' P k e (D.put (.bool s) (.lit (.int .i64 x)))))) : evMapPut P T' σ (.mp t' P k e D) (.sc (.bool s)) (.sc (.int .i64 x)) K := by
 unfold evMapPut
 exact ⟨rfl, hT, by rw [hk]; rfl, hl, _, _, Go.Maps.keyOf_bool_mk hk s, plainElem_int he hx, h⟩
end
theorem con_xorder (t u : TmD) (ht : t.ls.length <= 1000000) (_hu : u.ls.length <= 1000000) : Con Tryz.prog 45 [vTm t, vTm u] [] fun r _ => r = vi (cmpTm t u) := by
 refine Con.intro Tryz.func45 rfl Tryz.ntmps45 Tryz.results45 (by kernel_rfl) (by simp) 0 (by simp) ?_
 simp only [go_sem]
 refine evMapPut_bi (k := 4) (e := 3) Tryz.underlying86 Tryz.underlying4 Tryz.underlying3 (by decide) (by decide) ?_
 simp only [go_sem]
 refine DrawK.walk 21 mixed (by kernel_rfl) ?_
 simp only [go_sem]
 have hat : ∀ s : Bool, intAt .i64 ((DataW.map []).put (Lit.bool true) (DataW.lit (Lit.int IntKind.i64 1))) (.bool s) = if s then 1 else 0 := by decide
 refine evLookup_bi (k := 4) (e := 3) Tryz.underlying86 Tryz.underlying4 Tryz.underlying3 tinfo_3 rfl ?_
 refine evLookup_bi (k := 4) (e := 3) Tryz.underlying86 Tryz.underlying4 Tryz.underlying3 tinfo_3 rfl ?_
 rw [hat, hat]
 refine CallY.mk (con_cmpI (if t.star then 1 else 0) (if u.star then 1 else 0)) (by simp only [go_sem]) (by simp only [go_sem]) (.inl (by simp only [go_sem])) ?_
 simp only [go_sem]
 refine CallY.mk (con_cmpI t.ls.length u.ls.length) (by simp only [go_sem]) (by simp only [go_sem]) (.inl (by simp only [go_sem])) ?_
 simp only [go_sem]
 refine CallY.mk (con_lexC t.ls u.ls ht) (by simp only [go_sem]) (by simp only [go_sem]) (.inl (by simp only [go_sem])) ?_
 simp only [go_sem]
 have co := con_or [ordI (if t.star then 1 else 0) (if u.star then 1 else 0), ordI t.ls.length u.ls.length, lexC t.ls u.ls] (by simp)
 simp only [vs, List.map_cons, List.map_nil] at co
 refine CallU.freeze co (by simp only [go_sem]) (by simp only [go_sem]) ?_
 rintro r bx rfl
 simp only [go_sem]
 congr 2
 unfold cmpTm keyT
 rw [lexC, lexC]
 unfold orF
 by_cases h1 : ordI (if t.star then 1 else 0) (if u.star then 1 else 0) = 0
 ·by_cases h2 : ordI t.ls.length u.ls.length = 0
  ·by_cases h3 : lexC t.ls u.ls = 0
   ·simp [h1, h2, h3]
   ·simp [h1, h2, h3]
  ·simp [h1, h2]
 ·simp [h1]
theorem lexBy_drop (l m : List TmD) (i : Nat) (h : i < l.length) (h2 : i < m.length) (e : cmpTm l[i]! m[i]! = 0) : lexBy cmpTm (l.drop i) (m.drop i) = lexBy cmpTm (l.drop (i + 1)) (m.drop (i + 1)) := by
 rw [List.drop_eq_getElem_cons h, List.drop_eq_getElem_cons h2, lexBy, <- getElem!_pos l i h, <- getElem!_pos m i h2]
 rw [if_neg (by rw [e]; simp)]
theorem con_xcompareFunc (p q : List TmD) (hp : LenP p) (hq : LenP q) : Con Tryz.prog 44 [vPr p, vPr q, .fn 45 []] [] fun r _ => r = vi (lexBy cmpTm p q) := by
 refine Con.intro Tryz.func44 rfl Tryz.ntmps44 Tryz.results44 (by kernel_rfl) (by simp) 0 (by simp) ?_
 have hpl := hp.len
 have hql := hq.len
 simp only [go_sem]
 refine LoopK.intro (fun i : Nat => ⟨39, [(0, vPr p), (1, vPr q), (2, .fn 45 []), (11, vPr p), (12, vi p.length), (13, vi i)], Rk 2 (2 * i)⟩)
  (fun i => p.length - i) (fun i => i <= p.length /\ i <= q.length /\ lexBy cmpTm p q = lexBy cmpTm (p.drop i) (q.drop i)) 0 ⟨Nat.zero_le _, Nat.zero_le _, rfl⟩ ?_ ?_
 ·simp only [go_sem, Rk, List.replicate]
 rintro i ⟨hi, hi2, he⟩
 have hB := Rk_len 2 (2 * i)
 have n0 := fun L : List (List AV) => app_at0 (L := L) hB
 have n1 := fun L : List (List AV) => app_at1 (L := L) hB
 have s0 := fun (L : List (List AV)) z => app_set0 (L := L) (z := z) hB
 have s1 := fun (L : List (List AV)) z => app_set1 (L := L) (z := z) hB
 have e2 : Rk 2 (2 * (i + 1)) = Rk 2 (2 * i) ++ [List.replicate 2 .any, List.replicate 2 .any] := Rk_succ2 2 (2 * i)
 have hwi : IntKind.i64.wrap (i + 1) = i + 1 := wrap_in (by omega) (by omega)
 by_cases h : i < p.length
 case neg =>
  have ep : p.drop i = [] := List.drop_eq_nil_of_le (by omega)
  rw [ep] at he
  by_cases hlt : p.length < q.length
  ·rw [List.drop_eq_getElem_cons (show i < q.length by omega)] at he
   simp only [go_sem, h, hlt, List.length_map]
   rw [he]; rfl
  ·rw [List.drop_eq_nil_of_le (show q.length <= i by omega)] at he
   simp only [go_sem, h, hlt, List.length_map]
   rw [he]; rfl
 have hg := getTm h
 by_cases h2 : i < q.length
 case neg =>
  have h2' : q.length <= i := by omega
  rw [List.drop_eq_getElem_cons h, List.drop_eq_nil_of_le h2'] at he
  simp only [go_sem, h, hg, hB, n0, s0, h2', List.length_map]
  rw [he]; rfl
 have h2' : ¬ q.length <= i := by omega
 have hg2 := getTm h2
 have co := con_xorder p[i]! q[i]! (hp.terms _ (mem_bangI h)) (hq.terms _ (mem_bangI h2))
 simp only [vTm] at co
 simp only [go_sem] at co
 simp only [go_sem, h, hg, hB, n0, s0, n1, s1, h2, h2', hg2, List.length_map, List.append_assoc, List.cons_append, List.nil_append, List.length_append, List.length_cons, List.length_nil, Nat.zero_add]
 refine CallU.free co (by simp only [go_sem]) (by simp only [go_sem]) ?_
 rintro r bx rfl
 by_cases hz : cmpTm p[i]! q[i]! = 0
 ·have hz' : (cmpTm p[i]! q[i]! != 0) = false := by rw [hz]; rfl
  simp only [go_sem, hz', hwi]
  refine roundK.intro (i + 1) ⟨by omega, by omega, by rw [he, lexBy_drop p q i h h2 hz]⟩ (by omega) ?_
  simp only [go_sem, e2]
  all_goals trace_state
 ·have hz' : (cmpTm p[i]! q[i]! != 0) = true := bne_iff_ne.2 hz
  rw [List.drop_eq_getElem_cons h, List.drop_eq_getElem_cons h2, lexBy, <- getElem!_pos p i h, <- getElem!_pos q i h2, if_pos hz] at he
  simp only [go_sem, hz', he]
theorem con_xCompare (p q : List TmD) (hp : LenP p) (hq : LenP q) : Con Tryz.prog 15 [vPr p, vPr q] [] fun r _ => r = vi (cmpPr p q) := by
 refine Con.intro Tryz.func15 rfl Tryz.ntmps15 Tryz.results15 (by kernel_rfl) (by simp) 0 (by simp) ?_
 have hc := con_xcompareFunc p q hp hq
 simp only [vPr] at hc
 have co := con_or [ordI p.length q.length, lexBy cmpTm p q] (by simp)
 simp only [vs, List.map_cons, List.map_nil] at co
 simp only [go_sem]
 refine CallU.free (con_cmpI p.length q.length) (by simp only [go_sem]) (by simp only [go_sem]) ?_
 rintro r bx rfl
 simp only [go_sem]
 refine CallU.free hc (by simp only [go_sem]) (by simp only [go_sem]) ?_
 rintro r bx rfl
 simp only [go_sem]
 refine CallU.freeze co (by simp only [go_sem]) (by simp only [go_sem]) ?_
 rintro r bx rfl
 simp only [go_sem]
 congr 2
 unfold cmpPr thenC orF
 by_cases h1 : ordI p.length q.length = 0
 ·by_cases h2 : lexBy cmpTm p q = 0
  ·simp [h1, h2]
  ·simp [h1, h2]
 ·simp [h1]
end Go.AM







namespace Go.AM
open Go Go.Proofs Go.RowKit
set_option maxRecDepth 100000
set_option maxHeartbeats 8000000
def ordL (a b : Int) : Int := if a < b then -1 else if b < a then 1 else 0
def lexI : List Int -> List Int -> Int
 | x :: xs, y :: ys => if x = y then lexI xs ys else ordL x y
 | _, _ => 0
def cmpI (a b : List Int) : Int := if a.length = b.length then lexI a b else ordL a.length b.length
theorem ord_zero {a b : Int} : ordL a b = 0 ↔ a = b := by unfold ordL; split <;> (try split) <;> omega
theorem lex_drop {a b : List Int} (hl : a.length = b.length) : ∀ i, i <= a.length -> (∀ j, j < i -> a[j]! = b[j]!) -> lexI a b = lexI (a.drop i) (b.drop i)
 | 0, _, _ => rfl
 | i + 1, hi, h => by
  rw [lex_drop hl i (by omega) fun j hj => h j (by omega)]
  have h1 : i < a.length := by omega
  have h2 : i < b.length := by omega
  have e := h i (by omega)
  rw [getElem!_pos a i h1, getElem!_pos b i h2] at e
  rw [List.drop_eq_getElem_cons h1, List.drop_eq_getElem_cons h2, lexI, if_pos e]
theorem lex_stop {a b : List Int} (hl : a.length = b.length) {i : Nat} (hi : i < a.length) (h : ∀ j, j < i -> a[j]! = b[j]!) (hn : a[i]! ≠ b[i]!) : lexI a b = ordL a[i]! b[i]! := by
 have h2 : i < b.length := by omega
 rw [lex_drop hl i (by omega) h]
 rw [getElem!_pos a i hi, getElem!_pos b i h2] at *
 rw [List.drop_eq_getElem_cons hi, List.drop_eq_getElem_cons h2, lexI, if_neg hn]
theorem lex_same {a b : List Int} (hl : a.length = b.length) (h : ∀ j, j < a.length -> a[j]! = b[j]!) : lexI a b = 0 := by
 rw [lex_drop hl a.length (Nat.le_refl _) h, List.drop_eq_nil_of_le (Nat.le_refl _)]
 unfold lexI; rfl
theorem con_rorder (a b : Int) : Con Tryz.prog 46 [vi a, vi b] [] fun r _ => r = vi (ordL a b) := by
 refine Con.intro Tryz.func46 rfl Tryz.ntmps46 Tryz.results46 (by kernel_rfl) (by simp) 0 (by simp) ?_
 unfold ordL
 by_cases h1 : a < b
 ·simp only [go_sem, h1, if_true]
 ·by_cases h2 : b < a
  ·simp only [go_sem, h1, h2, if_true, if_false]
  ·simp only [go_sem, h1, h2, if_true, if_false]
theorem con_rcompareI (a b : List Int) (ha : a.length <= 1000000) : Con Tryz.prog 79 [vs 0 a, vs 0 b] [] fun r _ => r = vi (cmpI a b) := by
 refine Con.intro Tryz.func79 rfl Tryz.ntmps79 Tryz.results79 (by kernel_rfl) (by simp) 0 (by simp) ?_
 by_cases hl : a.length = b.length
 case neg =>
  have hl' : ((a.length : Int) != (b.length : Int)) = true := bne_iff_ne.2 (by omega)
  have e : cmpI a b = ordL a.length b.length := by unfold cmpI; rw [if_neg hl]
  simp only [go_sem, hl', List.length_map]
  refine CallU.free (con_rorder a.length b.length) (by simp only [go_sem]) (by simp only [go_sem]) ?_
  rintro x bx rfl
  simp only [go_sem, e]
 have e : cmpI a b = lexI a b := by unfold cmpI; rw [if_pos hl]
 have hl' : ((a.length : Int) != (b.length : Int)) = false := by rw [hl]; simp
 rw [e]
 simp only [go_sem, hl', List.length_map]
 refine LoopK.intro (fun i : Nat => ⟨40, [(0, vs 0 a), (1, vs 0 b), (5, vi i)], []⟩)
  (fun i => a.length - i) (fun i => i <= a.length /\ ∀ j, j < i -> a[j]! = b[j]!) 0 ⟨by omega, fun j hj => by omega⟩ ?_ ?_
 ·simp only [go_sem]
  all_goals exact leV_refl _
 rintro i ⟨hi, hb⟩
 by_cases h : i < a.length
 ·have h2 : i < b.length := by omega
  have g1 := getv h
  have g2 := getv h2
  have hw : IntKind.i64.wrap (i + 1) = i + 1 := wrap_in (by omega) (by omega)
  simp only [go_sem, h]
  refine DrawK.walk 9 mixed (by kernel_rfl) ?_
  by_cases hp : a[i]! = b[i]!
  ·have hp' : (a[i]! != b[i]!) = false := by rw [hp]; simp
   simp only [go_sem, h, h2, g1, g2, hp', hw]
   refine roundK.intro (i + 1) ⟨by omega, fun j hj => ?_⟩ (by omega) ?_
   ·by_cases hji : j = i
    ·subst hji; exact hp
    ·exact hb j (by omega)
   ·simp only [go_sem]
  ·have hp' : (a[i]! != b[i]!) = true := bne_iff_ne.2 hp
   have e2 := lex_stop hl h hb hp
   simp only [go_sem, h, h2, g1, g2, hp']
   refine DrawK.walk 10 mixed (by kernel_rfl) ?_
   simp only [go_sem, h, h2, g1, g2]
   refine CallY.mk (con_rorder a[i]! b[i]!) (by simp only [go_sem]) (by simp only [go_sem]) (.inl (by simp only [go_sem])) ?_
   simp only [go_sem, e2]
 ·have e2 := lex_same hl fun j hj => hb j (by omega)
  simp only [go_sem, h, e2]
end Go.AM

namespace Go.AM
open Go Go.Proofs Go.RowKit
set_option maxRecDepth 100000
set_option maxHeartbeats 8000000
theorem ordL_ordI (a b : Int) : ordL a b = ordI a b := by unfold ordL ordI; split <;> (try split) <;> (try split) <;> omega
theorem lexI_lexC : ∀ {a b : List Int}, a.length = b.length -> lexI a b = lexC a b
 | [], [], _ => by simp [lexI, lexC]
 | x :: xs, y :: ys, h => by
  unfold lexI lexC
  have hl : xs.length = ys.length := by simpa using h
  rw [lexI_lexC hl]
  by_cases e : x = y
  ·subst e
   have : ordI x x = 0 := by unfold ordI; simp
   simp [this]
  ·have : ordI x y ≠ 0 := by rw [<- ordL_ordI, Ne, ord_zero]; exact e
   simp [this, e, ordL_ordI]
theorem ordI_ne {a b : Int} : ordI a b ≠ 0 ↔ a ≠ b := by rw [<- ordL_ordI, Ne, ord_zero]
theorem cmpTm_star {t u : TmD} (h : t.star ≠ u.star) : cmpTm t u = if u.star then -1 else 1 := by
 unfold cmpTm keyT
 rw [lexC]
 cases ht : t.star <;> cases hu : u.star
 ·exact absurd (ht.trans hu.symm) h
 ·rfl
 ·rfl
 ·exact absurd (ht.trans hu.symm) h
theorem cmpTm_same {t u : TmD} (h : t.star = u.star) : cmpTm t u = cmpI t.ls u.ls := by
 unfold cmpTm keyT
 rw [h, lexC, if_neg (by rw [ordI_ne]; simp), lexC]
 unfold cmpI
 by_cases e : t.ls.length = u.ls.length
 ·rw [if_pos e, if_neg (by rw [ordI_ne, e]; simp), lexI_lexC e]
 ·rw [if_neg e, if_pos (by rw [ordI_ne]; omega), ordL_ordI]
theorem con_r09terms (t u : TmD) (ht : t.ls.length <= 1000000) : Con Tryz.prog 47 [vTm t, vTm u] [] fun r _ => r = vi (cmpTm t u) := by
 refine Con.intro Tryz.func47 rfl Tryz.ntmps47 Tryz.results47 (by kernel_rfl) (by simp) 0 (by simp) ?_
 have hc := con_rcompareI t.ls u.ls ht
 by_cases h : t.star = u.star
 ·rw [cmpTm_same h]
  cases hs : u.star <;> (
   rw [hs] at h
   simp only [go_sem, h, hs]
   refine CallU.free hc (by simp only [go_sem]) (by simp only [go_sem]) ?_
   rintro r bx rfl
   simp only [go_sem])
 ·rw [cmpTm_star h]
  cases hs : t.star <;> cases hu : u.star
  ·exact absurd (hs.trans hu.symm) h
  ·simp only [go_sem, hs, hu]
   try rfl
  ·simp only [go_sem, hs, hu]
   try rfl
  ·exact absurd (hs.trans hu.symm) h
def cmpTree9 : Tr := .front 0 (.front 1 (.front 2 (.front 4 (.front 5 (.front 6 (.alt (.one 3 (.one 7 (.one 8 (.one 9 .done)))) (.one 7 (.one 3 (.one 8 (.one 9 .done))))))))))
theorem con_r09Compare (p q : List TmD) (hp : LenP p) (_hq : LenP q) : Con Tryz.prog 16 [vPr p, vPr q] [] fun r _ => r = vi (cmpPr p q) := by
 refine Con.intro Tryz.func16 rfl Tryz.ntmps16 Tryz.results16 (by kernel_rfl) (by simp) 0 (by simp) ?_
 have hpl := hp.len
 have hco := con_rorder p.length q.length
 unfold cmpPr thenC
 by_cases hlen : p.length = q.length
 case neg =>
  rw [if_pos (ordI_ne.2 (show (p.length : Int) ≠ q.length by omega)), <- ordL_ordI]
  have hb : ((p.length : Int) != q.length) = true := bne_iff_ne.2 (by omega)
  simp only [go_sem, hb, List.length_map]
  refine CallU.free hco (by simp only [go_sem]) (by simp only [go_sem]) ?_
  rintro r bx rfl
  simp only [go_sem]
 rw [if_neg (fun hc => ordI_ne.1 hc (show (p.length : Int) = q.length by omega))]
 have hb : ((p.length : Int) != q.length) = false := by rw [hlen]; simp
 simp only [go_sem, hb, List.length_map]
 refine LoopK.intro (fun i : Nat => ⟨35, [(0, vPr p), (1, vPr q), (5, vi i)], []⟩)
  (fun i => p.length - i) (fun i => i <= p.length /\ lexBy cmpTm (p.drop i) (q.drop i) = lexBy cmpTm p q) 0 ⟨Nat.zero_le _, rfl⟩ ?_ ?_
 ·simp only [go_sem]
 rintro i ⟨hi, he⟩
 by_cases h : i < p.length
 case neg =>
  rw [List.drop_eq_nil_of_le (show p.length <= i by omega), List.drop_eq_nil_of_le (show q.length <= i by omega)] at he
  simp only [go_sem, h, List.length_map]
  rw [<- he]; rfl
 have h2 : i < q.length := by omega
 have hg := getTm h
 have hg2 := getTm h2
 have hwi : IntKind.i64.wrap (i + 1) = i + 1 := wrap_in (by omega) (by omega)
 have ht := con_r09terms p[i]! q[i]! (hp.terms _ (mem_bangI h))
 simp only [vTm] at ht
 simp only [go_sem] at ht
 simp only [go_sem, h, List.length_map]
 refine DrawK.tree cmpTree9 mixed (by kernel_rfl) ?_
 unfold cmpTree9
 simp only [go_sem, h, h2, hg, hg2, List.length_map]
 apply andK_mk
 all_goals
  try simp only [go_sem, hg, hg2]
  refine CallU.free ht (by simp only [go_sem]) (by simp only [go_sem]) ?_
  rintro r bx rfl
  by_cases hz : cmpTm p[i]! q[i]! = 0
  ·have hz' : (cmpTm p[i]! q[i]! != 0) = false := by rw [hz]; rfl
   simp only [go_sem, hz', hwi]
   refine roundK.intro (i + 1) ⟨by omega, by rw [<- he, lexBy_drop p q i h h2 hz]⟩ (by omega) ?_
   simp only [go_sem]
  ·have hz' : (cmpTm p[i]! q[i]! != 0) = true := bne_iff_ne.2 hz
   have e : lexBy cmpTm p q = cmpTm p[i]! q[i]! := by rw [<- he, drop_bang' h, drop_bang' h2, lexBy, if_pos hz]
   simp only [go_sem, hz', e]
theorem con_r09Same (p q : List TmD) (hp : LenP p) (hq : LenP q) : Con Tryz.prog 22 [vPr p, vPr q] [] fun r _ => r = vb (decide (p = q)) := by
 refine Con.intro Tryz.func22 rfl Tryz.ntmps22 Tryz.results22 (by kernel_rfl) (by simp) 0 (by simp) ?_
 have hc := con_r09Compare p q hp hq
 simp only [vPr] at hc
 have e : (cmpPr p q == 0) = decide (p = q) := by
  rw [Bool.eq_iff_iff, beq_iff_eq, decide_eq_true_eq]; exact ord_Pr.zero p q
 simp only [go_sem]
 refine CallU.free hc (by simp only [go_sem]) (by simp only [go_sem]) ?_
 rintro r bx rfl
 simp only [go_sem, e]
theorem con_r09Normal (n : Int) (p : List TmD) (hp : LenP p) : Con Tryz.prog 21 [vi n, vPr p] [] fun r _ => r = if checkX n p = 0 then .tup [vPr (normP p), vi 0] else .tup [.nil, vi (checkX n p)] := by
 refine Con.intro Tryz.func21 rfl Tryz.ntmps21 Tryz.results21 (by kernel_rfl) (by simp) 0 (by simp) ?_
 have hc := con_r09Check n p hp
 simp only [vPr] at hc
 simp only [go_sem]
 refine CallU.free hc (by simp only [go_sem]) (by simp only [go_sem]) ?_
 rintro r bx rfl
 by_cases h : checkX n p = 0
 ·have hv := check_zero.1 h
  have hn := con_r09normal p hv.ok hp
  simp only [vPr] at hn
  rw [if_pos h]
  simp only [go_sem, h, bne_self_eq_false]
  refine CallU.free hn (by simp only [go_sem]) (by simp only [go_sem]) ?_
  rintro r bx rfl
  simp only [go_sem]
 ·have hb : (checkX n p != 0) = true := bne_iff_ne.2 h
  rw [if_neg h]
  simp only [go_sem, hb]
theorem con_r09Leq (n : Int) (p q : List TmD) (hp : LenP p) (hq : LenP q) : Con Tryz.prog 14 [vi n, vPr p, vPr q] [] fun r _ => r = vb (leqX n p q) := by
 refine Con.intro Tryz.func14 rfl Tryz.ntmps14 Tryz.results14 (by kernel_rfl) (by simp) 0 (by simp) ?_
 have hc := con_r09Check n p hp
 have hd := con_r09Check n q hq
 simp only [vPr] at hc hd
 unfold leqX
 simp only [go_sem]
 refine CallU.free hc (by simp only [go_sem]) (by simp only [go_sem]) ?_
 rintro r bx rfl
 by_cases h : checkX n p = 0
 ·have hb : (checkX n p == 0) = true := beq_iff_eq.2 h
  simp only [go_sem, hb]
  refine CallU.free hd (by simp only [go_sem]) (by simp only [go_sem]) ?_
  rintro r bx rfl
  by_cases h2 : checkX n q = 0
  ·have hb2 : (checkX n q == 0) = true := beq_iff_eq.2 h2
   have hl := con_r09leq _ p q (Nat.le_refl _) (check_zero.1 h).ok (check_zero.1 h2).ok hp hq
   simp only [vPr] at hl
   simp only [go_sem, hb2]
   refine CallU.free hl (by simp only [go_sem]) (by simp only [go_sem]) ?_
   rintro r bx rfl
   simp only [go_sem, hb, hb2, Bool.true_and]
  ·have hb2 : (checkX n q == 0) = false := beq_eq_false_iff_ne.2 h2
   simp only [go_sem, hb2, Bool.false_and]
 ·have hb : (checkX n p == 0) = false := beq_eq_false_iff_ne.2 h
  simp only [go_sem, hb, Bool.false_and]
theorem con_r09Has (n : Int) (p : List TmD) (w : List Int) (hp : LenP p) (hw : w.length <= 1000000) : Con Tryz.prog 19 [vi n, vPr p, vs 0 w] [] fun r _ => r = vb (hasX n p w) := by
 refine Con.intro Tryz.func19 rfl Tryz.ntmps19 Tryz.results19 (by kernel_rfl) (by simp) 0 (by simp) ?_
 have hc := con_r09Check n p hp
 have hd := con_r02ValidG w hw
 have hl := con_r09in p w hp hw
 simp only [vPr] at hc hl
 unfold hasX
 simp only [go_sem]
 refine CallU.free hc (by simp only [go_sem]) (by simp only [go_sem]) ?_
 rintro r bx rfl
 by_cases h : checkX n p = 0
 ·have hb : (checkX n p == 0) = true := beq_iff_eq.2 h
  simp only [go_sem, hb]
  refine CallU.free hd (by simp only [go_sem]) (by simp only [go_sem]) ?_
  rintro r bx rfl
  cases hv : validW w with
  | true =>
   simp only [go_sem]
   refine CallU.free hl (by simp only [go_sem]) (by simp only [go_sem]) ?_
   rintro r bx rfl
   simp only [go_sem, hb, Bool.true_and]
  | false => simp only [go_sem, hb, Bool.true_and, Bool.false_and]
 ·have hb : (checkX n p == 0) = false := beq_eq_false_iff_ne.2 h
  simp only [go_sem, hb, Bool.false_and]
theorem con_r09Append (n : Int) (p : List TmD) (x : Int) (hp : LenP p) : Con Tryz.prog 24 [vi n, vPr p, vi x] [] fun r _ => r = appX n p x := by
 refine Con.intro Tryz.func24 rfl Tryz.ntmps24 Tryz.results24 (by kernel_rfl) (by simp) 0 (by simp) ?_
 have hc := con_r09Check n p hp
 have hpl := hp.len
 simp only [vPr] at hc
 unfold appX
 simp only [go_sem]
 refine CallU.free hc (by simp only [go_sem]) (by simp only [go_sem]) ?_
 rintro r bx rfl
 by_cases h : checkX n p = 0
 case neg =>
  have hb : (checkX n p != 0) = true := bne_iff_ne.2 h
  have hL : letX n p x = checkX n p := by unfold letX; rw [if_pos h]
  rw [hL, if_pos h]
  simp only [go_sem, hb]
 have hv := check_zero.1 h
 by_cases e1 : x < 0
 ·have hL : letX n p x = 2 := by unfold letX; rw [if_neg (fun hc => hc h), if_pos (Or.inl e1)]
  rw [hL, if_pos (by decide)]
  simp only [go_sem, h, bne_self_eq_false, e1]
 by_cases e2 : n <= x
 ·have hL : letX n p x = 2 := by unfold letX; rw [if_neg (fun hc => hc h), if_pos (Or.inr e2)]
  rw [hL, if_pos (by decide)]
  simp only [go_sem, h, bne_self_eq_false, e1, e2]
 have hL : letX n p x = 0 := by unfold letX; rw [if_neg (fun hc => hc h), if_neg (by omega)]
 rw [hL, if_neg (by decide)]
 have hn := con_r09normal (snocP p x) (snoc_ok hv.ok x) (snoc_len hv.few hv.long)
 have hsn : (snocP p x).map vTm = p.map vTm ++ [.ag [vb false, .sl 0 1 [vi x]]] := by unfold snocP; rw [List.map_append]; rfl
 simp only [vPr] at hn
 rw [hsn] at hn
 simp only [go_sem] at hn
 simp only [go_sem, h, bne_self_eq_false, e1, e2, List.length_map]
 refine ⟨by simp only [roomFor]; omega, ?_⟩
 refine ⟨by simp only [roomFor]; omega, ?_⟩
 refine CallU.freeze hn (by simp only [go_sem]) (by simp only [go_sem]) ?_
 rintro r bx rfl
 by_cases h24 : 24 < (normP (snocP p x)).length
 ·rw [if_pos h24]
  simp only [go_sem, h24, List.length_map]
 ·rw [if_neg h24]
  simp only [go_sem, h24, List.length_map]
theorem con_r09Behind (n : Int) (p : List TmD) (x : Int) (hp : LenP p) : Con Tryz.prog 26 [vi n, vPr p, vi x] [] fun r _ => r = behX n p x := by
 refine Con.intro Tryz.func26 rfl Tryz.ntmps26 Tryz.results26 (by kernel_rfl) (by simp) 0 (by simp) ?_
 have hc := con_r09Check n p hp
 have hpl := hp.len
 simp only [vPr] at hc
 unfold behX
 simp only [go_sem]
 refine CallU.free hc (by simp only [go_sem]) (by simp only [go_sem]) ?_
 rintro r bx rfl
 by_cases h : checkX n p = 0
 case neg =>
  have hb : (checkX n p != 0) = true := bne_iff_ne.2 h
  have hL : letX n p x = checkX n p := by unfold letX; rw [if_pos h]
  rw [hL, if_pos h]
  simp only [go_sem, hb]
 have hv := check_zero.1 h
 by_cases e1 : x < 0
 ·have hL : letX n p x = 2 := by unfold letX; rw [if_neg (fun hc => hc h), if_pos (Or.inl e1)]
  rw [hL, if_pos (by decide)]
  simp only [go_sem, h, bne_self_eq_false, e1]
 by_cases e2 : n <= x
 ·have hL : letX n p x = 2 := by unfold letX; rw [if_neg (fun hc => hc h), if_pos (Or.inr e2)]
  rw [hL, if_pos (by decide)]
  simp only [go_sem, h, bne_self_eq_false, e1, e2]
 have hL : letX n p x = 0 := by unfold letX; rw [if_neg (fun hc => hc h), if_neg (by omega)]
 rw [hL, if_neg (by decide)]
 simp only [go_sem, h, bne_self_eq_false, e1, e2]
 refine LoopK.intro (fun i : Nat => ⟨51, [(1, vPr p), (2, vi x), (10, vi i)], []⟩)
  (fun i => p.length - i) (fun i => i <= p.length /\ behP x (p.drop i) = behP x p) 0 ⟨Nat.zero_le _, rfl⟩ ?_ ?_
 ·simp only [go_sem]
 rintro i ⟨hi, he⟩
 by_cases hip : i < p.length
 case neg =>
  rw [List.drop_eq_nil_of_le (show p.length <= i by omega)] at he
  rw [<- he]
  simp only [go_sem, hip, behP, List.length_map]
 have hg := getTm hip
 have hwi : IntKind.i64.wrap (i + 1) = i + 1 := wrap_in (by omega) (by omega)
 have hh := con_r09has p[i]!.ls x (hp.terms _ (mem_bangI hip))
 rw [drop_bang' hip, behP] at he
 simp only [go_sem, hip, hg, List.length_map]
 refine CallU.free hh (by simp only [go_sem]) (by simp only [go_sem]) ?_
 rintro r bx rfl
 by_cases hx : x ∈ p[i]!.ls
 ·rw [if_pos hx] at he
  cases hs : p[i]!.star with
  | true =>
   rw [hs, if_pos rfl, <- drop_bang' hip] at he
   have hn := con_r09normal (p.drop i) (fun t ht => hv.ok t (List.mem_of_mem_drop ht)) (lenP_drop hp i)
   simp only [vPr, List.map_drop] at hn
   have hile : i <= p.length := by omega
   have htk : (p.map vTm).take p.length = p.map vTm := List.take_of_length_le (by simp)
   rw [<- he]
   simp only [go_sem, hip, hg, hx, hs, hile, htk, Nat.le_refl, decide_true, List.length_map]
   refine CallU.free hn (by simp only [go_sem]) (by simp only [go_sem]) ?_
   rintro r bx rfl
   simp only [go_sem]
  | false =>
   rw [hs, if_neg (by simp)] at he
   have hn := con_r09normal (p.drop (i + 1)) (fun t ht => hv.ok t (List.mem_of_mem_drop ht)) (lenP_drop hp (i + 1))
   simp only [vPr, List.map_drop] at hn
   have hile : i + 1 <= p.length := by omega
   have htk : (p.map vTm).take p.length = p.map vTm := List.take_of_length_le (by simp)
   have h0i : (0 : Int) <= (i : Int) + 1 := by omega
   have hiz : ((i : Int) + 1) <= p.length := by omega
   have htn : ((i : Int) + 1).toNat = i + 1 := by omega
   rw [<- he]
   simp only [go_sem, hip, hg, hx, hs, hwi, hile, htn, htk, h0i, Nat.le_refl, decide_true, List.length_map]
   refine CallU.free hn (by simp only [go_sem]) (by simp only [go_sem]) ?_
   rintro r bx rfl
   simp only [go_sem]
 ·rw [if_neg hx] at he
  simp only [go_sem, hx, hwi, decide_false]
  refine roundK.intro (i + 1) ⟨by omega, he⟩ (by omega) ?_
  simp only [go_sem]
theorem lenP_nil : LenP [] := ⟨by simp, fun t ht => by cases ht⟩
theorem nil_tup2 (c : Int) : leV (AV.freeze (fun _ => true) (.tup [.nil, vi c])) (.tup [vPr [], vi c]) := leV_tup ⟨leV_nil _ _, leV_refl _, trivial⟩
theorem nil_tup3 (b : Bool) (c : Int) : leV (AV.freeze (fun _ => true) (.tup [.nil, vb b, vi c])) (.tup [vPr [], vb b, vi c]) := leV_tup ⟨leV_nil _ _, leV_refl _, leV_refl _, trivial⟩
def Two2 (f g : FuncId) (args : List AV) : Prop := ∃ (a : List TmD) (c : Int), LenP a /\ Con Tryz.prog f args [] (fun r _ => r = .tup [vPr a, vi c]) /\ Con Tryz.prog g args [] fun r _ => r = .tup [vPr a, vi c]
def Two3 (f g : FuncId) (args : List AV) : Prop := ∃ (a : List TmD) (b : Bool) (c : Int), LenP a /\ Con Tryz.prog f args [] (fun r _ => r = .tup [vPr a, vb b, vi c]) /\ Con Tryz.prog g args [] fun r _ => r = .tup [vPr a, vb b, vi c]
theorem two2_of {f g : FuncId} {args : List AV} {x : AV} {a : List TmD} {c : Int} (h1 : Con Tryz.prog f args [] fun r _ => r = x) (h2 : Con Tryz.prog g args [] fun r _ => r = x) (ha : LenP a) (hx : leV (AV.freeze (fun _ => true) x) (.tup [vPr a, vi c])) : Two2 f g args :=
 ⟨a, c, ha, Con.frozX (h1.mono fun r _ e => by subst e; exact hx), Con.frozX (h2.mono fun r _ e => by subst e; exact hx)⟩
theorem two3_of {f g : FuncId} {args : List AV} {x : AV} {a : List TmD} {b : Bool} {c : Int} (h1 : Con Tryz.prog f args [] fun r _ => r = x) (h2 : Con Tryz.prog g args [] fun r _ => r = x) (ha : LenP a) (hx : leV (AV.freeze (fun _ => true) x) (.tup [vPr a, vb b, vi c])) : Two3 f g args :=
 ⟨a, b, c, ha, Con.frozX (h1.mono fun r _ e => by subst e; exact hx), Con.frozX (h2.mono fun r _ e => by subst e; exact hx)⟩
theorem two_Normal (n : Int) (p : List TmD) (hp : LenP p) : Two2 20 21 [vi n, vPr p] := by
 have h1 := con_xNormal n p hp
 have h2 := con_r09Normal n p hp
 by_cases h : checkX n p = 0
 ·rw [if_pos h] at h1 h2
  exact two2_of h1 h2 (lenP_norm hp) (leV_refl _)
 ·rw [if_neg h] at h1 h2
  exact two2_of h1 h2 lenP_nil (nil_tup2 _)
theorem two_Append (n : Int) (p : List TmD) (x : Int) (hp : LenP p) : Two2 23 24 [vi n, vPr p, vi x] := by
 have h1 := con_xAppend n p x hp
 have h2 := con_r09Append n p x hp
 unfold appX at h1 h2
 by_cases h : letX n p x ≠ 0
 ·rw [if_pos h] at h1 h2
  exact two2_of h1 h2 lenP_nil (nil_tup2 _)
 ·rw [if_neg h] at h1 h2
  have hv := (let_zero (Classical.byContradiction h)).1
  by_cases h3 : 24 < (normP (snocP p x)).length
  ·rw [if_pos h3] at h1 h2
   exact two2_of h1 h2 lenP_nil (nil_tup2 _)
  ·rw [if_neg h3] at h1 h2
   exact two2_of h1 h2 (lenP_norm (snoc_len hv.few hv.long)) (leV_refl _)
theorem two_Behind (n : Int) (p : List TmD) (x : Int) (hp : LenP p) : Two3 25 26 [vi n, vPr p, vi x] := by
 have h1 := con_xBehind n p x hp
 have h2 := con_r09Behind n p x hp
 unfold behX at h1 h2
 by_cases h : letX n p x ≠ 0
 ·rw [if_pos h] at h1 h2
  exact two3_of h1 h2 lenP_nil (nil_tup3 _ _)
 ·rw [if_neg h] at h1 h2
  cases hb : behP x p with
  | none =>
   rw [hb] at h1 h2
   exact two3_of h1 h2 lenP_nil (nil_tup3 _ _)
  | some q =>
   rw [hb] at h1 h2
   have key : ∀ (p q : List TmD), LenP p -> behP x p = some q -> LenP q := by
    intro p
    induction p with
    | nil => intro q _ h; cases h
    | cons u p ih =>
     intro q hp h
     have hp' : LenP p := ⟨by have := hp.len; simp only [List.length_cons] at this; omega, fun t ht => hp.terms t (by simp [ht])⟩
     rw [behP] at h
     split at h
     ·cases h
      split
      ·exact hp
      ·exact hp'
     ·exact ih q hp' h
   exact two3_of h1 h2 (lenP_norm (key p q hp hb)) (leV_refl _)
def shortB (p : List TmD) : Bool := p.all (fun t => decide (t.ls.length <= 12)) && decide (p.length <= 30)
theorem short_len {p : List TmD} (h : shortB p = true) : LenP p := by
 unfold shortB at h
 rw [Bool.and_eq_true, List.all_eq_true, decide_eq_true_eq] at h
 exact ⟨by omega, fun t ht => by have := of_decide_eq_true (h.1 t ht); omega⟩
theorem con_x9short (p : List TmD) (hp : p.length <= 9223372036854775807) : Con Tryz.prog 7 [vPr p] [] fun r _ => r = vb (shortB p) := by
 refine Con.intro Tryz.func7 rfl Tryz.ntmps7 Tryz.results7 (by kernel_rfl) (by simp) 0 (by simp) ?_
 simp only [go_sem, List.length_map]
 refine LoopK.intro (fun i : Nat => ⟨20, [(0, vPr p), (5, vi p.length), (6, vi i)], []⟩)
  (fun i => p.length - i) (fun i => i <= p.length /\ ∀ j, j < i -> p[j]!.ls.length <= 12) 0 ⟨Nat.zero_le _, fun j hj => by omega⟩ ?_ ?_
 ·simp only [go_sem]
 rintro i ⟨hi, hn⟩
 by_cases h : i < p.length
 case neg =>
  have e : (p.all fun t => decide (t.ls.length <= 12)) = true := List.all_eq_true.2 fun t ht => by
   obtain ⟨j, hj, ej⟩ := List.getElem_of_mem ht
   have := hn j (by omega)
   rw [getElem!_pos p j hj, ej] at this
   exact decide_eq_true this
  have e2 : shortB p = decide ((p.length : Int) <= 30) := by
   unfold shortB
   rw [e, Bool.true_and, decide_eq_decide]; omega
  simp only [go_sem, h, e2, List.length_map]
 have hg := getTm h
 have hwi : IntKind.i64.wrap (i + 1) = i + 1 := wrap_in (by omega) (by omega)
 by_cases e1 : 12 < p[i]!.ls.length
 ·have e : shortB p = false := by
   unfold shortB
   rw [Bool.and_eq_false_iff]
   exact .inl (List.all_eq_false.2 ⟨p[i]!, mem_bangI h, by simpa using e1⟩)
  simp only [go_sem, h, hg, e1, e, List.length_map]
 ·simp only [go_sem, h, hg, e1, hwi, List.length_map]
  refine roundK.intro (i + 1) ⟨by omega, fun j hj => ?_⟩ (by omega) ?_
  ·by_cases hji : j = i
   ·rw [hji]; omega
   ·exact hn j (by omega)
  simp only [go_sem]
end Go.AM

namespace Go.AM
open Go Go.Proofs Go.RowKit
set_option maxRecDepth 100000
theorem allL_step (b : Int) (i : Nat) : allL (i + 1) b = if (i : Int) = b then allL i b else allL i b ++ [(i : Int)] := by
 unfold allL
 rw [List.range_succ, List.map_append, List.filter_append]
 by_cases h : (i : Int) = b
 ·rw [if_pos h]; simp [h]
 ·rw [if_neg h]; simp [h]
theorem allL_len (n : Nat) (b : Int) : (allL n b).length <= n := by
 unfold allL
 exact Nat.le_trans (List.length_filter_le _ _) (by simp)
theorem con_xall (n : Nat) (b : Int) (hn : n <= 1000) : Con Tryz.prog 71 [vi n, vi b] [] fun r _ => r = .ag [vb true, .sl 2 1 ((allL n b).map vi)] := by
 refine Con.intro Tryz.func71 rfl Tryz.ntmps71 Tryz.results71 (by kernel_rfl) (by simp) 0 (by simp) ?_
 simp only [go_sem]
 refine LoopK.intro (fun i : Nat => ⟨23, [(1, vi b), (4, .pb 0 0), (5, .pb 1 0), (8, vi n), (9, vi i)], [[.any, .any], [vb true, .sl 1282 1 ((allL i b).map vi)]]⟩)
  (fun i => n - i) (fun i => i <= n) 0 (Nat.zero_le _) ?_ ?_
 ·simp only [go_sem, show allL 0 b = [] from rfl, List.map_nil]
 rintro i hi
 have e := allL_step b i
 have hll := allL_len i b
 have hw : IntKind.i64.wrap (i + 1) = i + 1 := wrap_in (by omega) (by omega)
 by_cases h : i < n
 case neg =>
  have h' : i = n := by omega
  subst h'
  simp only [go_sem, h]
 by_cases hb : (i : Int) = b
 ·rw [if_pos hb] at e
  have hbb : ((i : Int) != b) = false := by simp [hb]
  simp only [go_sem, h, hbb, hw]
  refine roundK.intro (i + 1) (by omega) (by omega) ?_
  simp only [go_sem, e]
 ·rw [if_neg hb] at e
  have hbb : ((i : Int) != b) = true := by simp [hb]
  simp only [go_sem, h, hbb, hw]
  refine ⟨by simp only [roomFor]; omega, ?_⟩
  refine roundK.intro (i + 1) (by omega) (by omega) ?_
  simp only [go_sem, e]
  all_goals exact leV_sl (by rw [List.map_append]; rfl)
theorem con_xbelow1 (w : List Int) (_hl : w.length <= 1000000) : Con Tryz.prog 67 [vs 0 w] [] fun r _ => r = .sc (.bool (decide (3 < w.length))) := by
 refine Con.intro Tryz.func67 rfl Tryz.ntmps67 Tryz.results67 (by kernel_rfl) (by simp) 0 (by simp) ?_
 simp only [go_sem, List.length_map]
theorem con_xbelow2 (n x : Int) : Con Tryz.prog 70 [vi x, .fp [vi n] 0] [] fun r _ => r = .sc (.bool (!decide (0 <= x /\ x < n))) := by
 refine Con.intro Tryz.func70 rfl Tryz.ntmps70 Tryz.results70 (by kernel_rfl) (by simp) 0 (by simp) ?_
 by_cases h : x < 0
 ·have h' : ¬ (0 <= x /\ x < n) := by omega
  simp only [go_sem, h, h', decide_true, decide_false]
 ·by_cases h2 : n <= x
  ·have h' : ¬ (0 <= x /\ x < n) := by omega
   simp only [go_sem, h, h2, h', decide_true, decide_false]
  ·have h' : (0 <= x /\ x < n) := by omega
   simp only [go_sem, h, h2, h', decide_true, decide_false]
theorem con_xallF (n : Nat) (b : Int) (hn : n <= 1000) : Con Tryz.prog 71 [vi n, vi b] [] fun r _ => r = vTm (allT n b) :=
 Con.frozX ((con_xall n b hn).mono fun r _ e => by subst e; exact leV_refl _)
theorem without_snoc (n : Nat) (x : Int) : ∀ w : List Int, withoutP n (w ++ [x]) = withoutP n w ++ (match w.getLast? with | none => [] | some y => [⟨false, [y]⟩]) ++ [allT n x]
 | [] => rfl
 | [b] => rfl
 | b :: c :: w => by
  have ih := without_snoc n x (c :: w)
  rw [List.cons_append, List.cons_append, withoutP, <- List.cons_append, ih, withoutP, List.getLast?_cons_cons]
  simp
theorem without_step (n : Nat) {w : List Int} {i : Nat} (h : i < w.length) : withoutP n (w.take (i + 1)) = withoutP n (w.take i) ++ (if 0 < i then [⟨false, [w[i - 1]!]⟩] else []) ++ [allT n w[i]!] := by
 rw [List.take_succ_eq_append_getElem h, without_snoc, <- getElem!_pos w i h]
 by_cases h0 : 0 < i
 ·rw [if_pos h0]
  have : (w.take i).getLast? = some w[i - 1]! := by
   rw [List.getLast?_eq_getElem?, List.length_take, Nat.min_eq_left (by omega), List.getElem?_take, if_pos (by omega), List.getElem?_eq_getElem (by omega), getElem!_pos w _ (by omega)]
  rw [this]
 ·obtain rfl : i = 0 := by omega
  rfl
theorem without_len (n : Nat) : ∀ w : List Int, (withoutP n w).length <= 2 * w.length
 | [] => by simp [withoutP]
 | [b] => by simp [withoutP]
 | b :: c :: w => by
  have := without_len n (c :: w)
  rw [withoutP]; simp only [List.length_cons] at this ⊢; omega
theorem con_xwithout (n : Nat) (w : List Int) (hn : n <= 1000) (hl : w.length <= 1000) : Con Tryz.prog 72 [vi n, vs 0 w] [] fun r _ => r = vPr (withoutP n w) := by
 refine Con.frozX ?_
 refine Con.intro Tryz.func72 rfl Tryz.ntmps72 Tryz.results72 (by kernel_rfl) (by simp) 0 (by simp) ?_
 simp only [go_sem]
 refine LoopK.intro (fun i : Nat => ⟨35, [(0, vi n), (1, vs 0 w), (5, .sl 2112 2 ((withoutP n (w.take i)).map vTm)), (8, vs 0 w), (9, vi w.length), (10, vi i)], []⟩)
  (fun i => w.length - i) (fun i => i <= w.length) 0 (Nat.zero_le _) ?_ ?_
 ·simp only [go_sem, List.take_zero, show withoutP n [] = [] from rfl, List.map_nil]
  all_goals exact leB_self _
 rintro i hi
 by_cases h : i < w.length
 case neg =>
  have e : w.take i = w := List.take_of_length_le (by omega)
  simp only [go_sem, h, e]
  exact leV_refl _
 have hg := getv h
 have hw : IntKind.i64.wrap (i + 1) = i + 1 := wrap_in (by omega) (by omega)
 have e := without_step n h
 have hL := without_len n (w.take i)
 rw [List.length_take] at hL
 have ca := con_xallF n w[i]! hn
 simp only [vTm] at ca
 simp only [go_sem] at ca
 by_cases h0 : 0 < i
 ·rw [if_pos h0] at e
  have hg2 := getv (l := w) (i := i - 1) (by omega)
  have hw2 : IntKind.i64.wrap ((i : Int) - 1) = ((i - 1 : Nat) : Int) := by rw [wrap_in (by omega) (by omega)]; omega
  have hi2 : i - 1 < w.length := by omega
  simp only [go_sem, h, h0, hg, hw2, hg2, hi2, List.length_map]
  refine ⟨by simp only [roomFor]; omega, ?_⟩
  refine CallU.free ca (by simp only [go_sem]) (by simp only [go_sem]) ?_
  rintro r bx rfl
  simp only [go_sem, hw]
  refine ⟨by simp only [roomFor, List.length_map, List.length_append, List.length_cons, List.length_nil]; omega, ?_⟩
  refine roundK.intro (i + 1) (by omega) (by omega) ?_
  simp only [go_sem, e]
  exact leV_sl (by simp only [List.map_append, List.map_cons, List.map_nil]; rfl)
 ·rw [if_neg h0] at e
  simp only [go_sem, h, h0, hg, List.length_map]
  refine CallU.free ca (by simp only [go_sem]) (by simp only [go_sem]) ?_
  rintro r bx rfl
  simp only [go_sem, hw]
  refine ⟨by simp only [roomFor]; omega, ?_⟩
  refine roundK.intro (i + 1) (by omega) (by omega) ?_
  simp only [go_sem, e]
  exact leV_sl (by simp only [List.map_append, List.map_cons, List.map_nil]; rfl)
def bel01 : List TmD := [⟨true, [1]⟩, ⟨true, [0]⟩]
theorem bel01_eq : maxL (meetP [allT 2 2] (withoutP 2 [0, 1])) = [bel01] := by decide +kernel
set_option maxHeartbeats 8000000
def TellsRw (f : FuncId) (caps : List AV) (l : List (List Int)) (p : List Int -> Bool) : Prop := ∀ x ∈ l, Con Tryz.prog f ([vs 0 x] ++ caps) [] fun r _ => r = .sc (.bool (p x))
theorem con_indexRows (l : List (List Int)) (f : FuncId) (caps : List AV) (p : List Int -> Bool) (hc : mapTops (viewV []) caps = caps) (hf : TellsRw f caps l p) (hl : l.length <= 9223372036854775806) : Con Tryz.prog 99 [vm 0 l, .fn f caps] [] fun r _ => r = vi (findI p l) := by
 refine Con.intro Tryz.func99 rfl Tryz.ntmps99 Tryz.results99 (by kernel_rfl) (by simp) 0 (by simp) ?_
 simp only [go_sem]
 refine LoopK.intro (fun i : Nat => ⟨19, [(0, vm 0 l), (1, .fn f caps), (7, vi l.length), (8, vi i)], []⟩)
  (fun i => l.length - i) (fun i => i <= l.length /\ ∀ j, j < i -> p l[j]! = false) 0 ⟨by omega, fun j hj => by omega⟩ ?_ ?_
 ·simp only [go_sem]
 ·rintro i ⟨hi, hb⟩
  by_cases h : i < l.length
  ·have hg := getm h
   have hw : IntKind.i64.wrap (i + 1) = i + 1 := wrap_in (by omega) (by omega)
   simp only [go_sem, h, hg]
   refine CallU.look (hf l[i]! (mem_bang h)) (by simp only [go_sem]) (by simp only [go_sem, hc]) ?_
   rintro r bx rfl
   cases hp : p l[i]!
   ·simp only [go_sem, hw]
    refine roundK.intro (i + 1) ⟨by omega, fun j hj => ?_⟩ (by omega) ?_
    ·by_cases hji : j = i
     ·subst hji; exact hp
     ·exact hb j (by omega)
    ·simp only [go_sem]
   ·simp only [go_sem]
    rw [findI_stop h hb hp]
  ·simp only [go_sem, h]
   rw [findI_none (fun j hj => hb j (by omega))]
theorem con_containsRows (l : List (List Int)) (f : FuncId) (caps : List AV) (p : List Int -> Bool) (hc : mapTops (viewV []) caps = caps) (hf : TellsRw f caps l p) (hl : l.length <= 9223372036854775806) : Con Tryz.prog 66 [vm 0 l, .fn f caps] [] fun r _ => r = .sc (.bool (l.any p)) := by
 refine Con.intro Tryz.func66 rfl Tryz.ntmps66 Tryz.results66 (by kernel_rfl) (by simp) 0 (by simp) ?_
 simp only [go_sem]
 refine CallU.look (con_indexRows l f caps p hc hf hl) (by simp only [go_sem]) (by simp only [go_sem]) ?_
 rintro r bx rfl
 simp only [go_sem, findI_ge]
theorem in_all {n : Int} {ws : List (List Int)} (h : ∀ w ∈ ws, ∀ x ∈ w, 0 <= x /\ x < n) : (ws.flatten.any fun x => !decide (0 <= x /\ x < n)) = false := by
 rw [List.any_eq_false]
 intro x hx
 obtain ⟨w, hw, hxw⟩ := List.mem_flatten.1 hx
 simp [h w hw x hxw]
theorem flat_len {ws : List (List Int)} {c : Nat} (h : ∀ w ∈ ws, w.length <= c) : ws.flatten.length <= ws.length * c := by
 induction ws with
 | nil => simp
 | cons w ws ih =>
  have h1 := h w (by simp)
  have h2 := ih fun x hx => h x (by simp [hx])
  rw [List.flatten_cons, List.length_append, List.length_cons, Nat.succ_mul]; omega
theorem flatMap_len {α β : Type} {f : α -> List β} {c : Nat} : ∀ (l : List α), (∀ x ∈ l, (f x).length <= c) -> (l.flatMap f).length <= l.length * c
 | [], _ => by simp
 | x :: l, h => by
  have h1 := h x (by simp)
  have h2 := flatMap_len l fun y hy => h y (by simp [hy])
  rw [List.flatMap_cons, List.length_append, List.length_cons, Nat.succ_mul]; omega
structure BelOk (n : Nat) (ws : List (List Int)) (B : Nat -> List (List TmD)) : Prop where
 zero : B 0 = [[allT n n]]
 ok : ∀ k, k <= ws.length -> ∀ p ∈ B k, OkP p /\ ShortP p /\ p.length <= 12
 few : ∀ k, k <= ws.length -> (B k).length <= 1000
 step : ∀ k, k < ws.length -> Con Tryz.prog 61 [.sl 0 1 ((belowStep n (B k) ws[k]!).map vPr)] [] fun r _ => r = .sl 0 1 ((B (k + 1)).map vPr)
theorem without_short (n : Nat) (hn : n <= 1000) : ∀ w : List Int, ShortP (withoutP n w)
 | [] => fun t ht => by cases ht
 | [b] => fun t ht => by rw [withoutP, List.mem_singleton] at ht; rw [ht]; exact Nat.le_trans (allL_len n b) hn
 | b :: c :: w => fun t ht => by
  rw [withoutP] at ht
  rcases List.mem_cons.1 ht with rfl | ht
  ·exact Nat.le_trans (allL_len n b) hn
  rcases List.mem_cons.1 ht with rfl | ht
  ·simp
  ·exact without_short n hn (c :: w) t ht
theorem con_xBelow (n : Nat) (ws : List (List Int)) (B : Nat -> List (List TmD)) (hB : BelOk n ws B) (hn : 1 <= n /\ n <= 6) (h3 : ws.length <= 3) (hw : ∀ w ∈ ws, w ≠ [] /\ w.length <= 3) (hx : ∀ w ∈ ws, ∀ x ∈ w, 0 <= x /\ x < n) :
  Con Tryz.prog 32 [vi n, vm 0 ws] [] fun r _ => r = .tup [.sl 0 1 ((B ws.length).map vPr), vi 0] := by
 refine Con.intro Tryz.func32 rfl Tryz.ntmps32 Tryz.results32 (by kernel_rfl) (by simp) 0 (by simp) ?_
 have c1 := con_containsRows ws 67 [] (fun w => decide (3 < w.length)) (by simp only [go_sem]) (fun w hh => con_xbelow1 w (by have := (hw w hh).2; omega)) (by omega)
 have e1 : (ws.any fun w => decide (3 < w.length)) = false := by
  rw [List.any_eq_false]; intro w hh; have := (hw w hh).2; simp; omega
 rw [e1] at c1
 have hfl := flat_len fun w hh => (hw w hh).2
 have c2 := con_containsInt ws.flatten 70 [.fp [vi n] 0] (fun x => !decide (0 <= x /\ x < (n : Int))) (by simp only [go_sem]) (fun x _ => con_xbelow2 n x) (by omega)
 rw [in_all hx] at c2
 have c3 : Con Tryz.prog 69 [vm 0 ws] [] fun r _ => r = vs 0 ws.flatten :=
  Con.frozX ((con_mxConcat ws ⟨by omega, fun w hh => by have := (hw w hh).2; omega⟩).mono fun r _ e => by subst e; exact leV_refl _)
 have c4 := con_xallF n n (by omega)
 simp only [vTm] at c4
 simp only [go_sem] at c1 c2 c3 c4
 have hnn : decide (1 <= (n : Int) /\ (n : Int) <= 6) = true := decide_eq_true (by omega)
 have h3' : ¬ (3 : Int) < ws.length := by omega
 have cn := con_xNumber n
 rw [hnn] at cn
 simp only [go_sem]
 refine CallU.free cn (by simp only [go_sem]) (by simp only [go_sem]) ?_
 rintro r bx rfl
 simp only [go_sem, h3', List.length_map]
 refine CallU.look c1 (by simp only [go_sem]) (by simp only [go_sem]) ?_
 rintro r bx rfl
 simp only [go_sem]
 refine CallU.free c3 (by simp only [go_sem]) (by simp only [go_sem]) ?_
 rintro r bx rfl
 simp only [go_sem]
 refine CallU.look c2 (by simp only [go_sem]) (by simp only [go_sem]) ?_
 rintro r bx rfl
 simp only [go_sem]
 refine CallU.free c4 (by simp only [go_sem]) (by simp only [go_sem]) ?_
 rintro r bx rfl
 simp only [go_sem]
 refine LoopK.freeze (fun _ => true) (fun k : Nat => ⟨61, [(1, vm 0 ws), (2, .pb 0 0), (6, .sl 0 1 ((B k).map vPr)), (34, vm 0 ws), (35, vi ws.length), (36, vi k)], [[vi n]]⟩)
  (fun k => ws.length - k) (fun k => k <= ws.length) 0 (Nat.zero_le _) ?_ ?_
 ·simp only [go_sem, hB.zero, List.map_cons, List.map_nil]
 rintro k hk
 by_cases h : k < ws.length
 case neg =>
  have e : k = ws.length := by omega
  subst e
  simp only [go_sem, h]
 have hg := getm h
 have hwk := hw _ (mem_bang h)
 have hw1 : IntKind.i64.wrap (k + 1) = k + 1 := wrap_in (by omega) (by omega)
 have hl0 : ((ws[k]!.length : Int) == 0) = false := by
  have := List.length_pos_iff.2 hwk.1
  exact beq_eq_false_iff_ne.2 (by omega)
 have cw := con_xwithout n ws[k]! (by omega) (by omega)
 simp only [vPr] at cw
 simp only [go_sem] at cw
 have hf := hB.few k hk
 have hwl := without_len n ws[k]!
 simp only [go_sem, h, hg, hl0, List.length_map]
 refine LoopK.intro (fun j : Nat => ⟨61, [(1, vm 0 ws), (2, .pb 0 0), (6, .sl 0 1 ((B k).map vPr)), (8, vs 0 ws[k]!), (9, .sl 3584 1 ((((B k).take j).flatMap fun p => meetP p (withoutP n ws[k]!)).map vPr)), (34, vm 0 ws), (35, vi ws.length), (36, vi k), (43, .sl 0 1 ((B k).map vPr)), (44, vi (B k).length), (45, vi j)], [[vi n]]⟩)
  (fun j => (B k).length - j) (fun j => j <= (B k).length) 0 (Nat.zero_le _) ?_ ?_
 ·simp only [go_sem, List.take_zero, List.flatMap_nil, List.map_nil]
  all_goals exact leB_self _
 rintro j hj
 by_cases h2 : j < (B k).length
 case neg =>
  have e : (B k).take j = B k := List.take_of_length_le (by omega)
  have cm := hB.step k h
  unfold belowStep at cm
  simp only [go_sem, h2, e]
  refine CallU.freeze cm (by simp only [go_sem]) (by simp only [go_sem]) ?_
  rintro r bx rfl
  simp only [go_sem, hw1]
  refine roundK.intro (k + 1) (by omega) (by omega) ?_
  simp only [go_sem]
 have hg2 := getPr h2
 have hw2 : IntKind.i64.wrap (j + 1) = j + 1 := wrap_in (by omega) (by omega)
 obtain ⟨p1, p2, p3⟩ := hB.ok k hk _ (mem_bangI h2)
 have cm := con_xmeet 18 (B k)[j]! (withoutP n ws[k]!) (by omega) (by omega) p1 (without_ok n _) p2 (without_short n (by omega) _)
 have hml := meet_len 18 (B k)[j]! (withoutP n ws[k]!) (by omega)
 simp only [vPr] at cm
 have hsz : (((B k).take j).flatMap fun p => meetP p (withoutP n ws[k]!)).length <= 1000 * 262144 := by
  refine Nat.le_trans (flatMap_len (c := 262144) _ fun p hp => ?_) (Nat.mul_le_mul_right _ (Nat.le_trans (by rw [List.length_take]; omega) hf))
  have := hB.ok k hk p (List.mem_of_mem_take hp)
  exact Nat.le_trans (meet_len 18 p _ (by omega)) (by decide)
 have e : (((B k).take (j + 1)).flatMap fun p => meetP p (withoutP n ws[k]!)).map vPr = (((B k).take j).flatMap fun p => meetP p (withoutP n ws[k]!)).map vPr ++ (meetP (B k)[j]! (withoutP n ws[k]!)).map vPr := by
  rw [List.take_succ_eq_append_getElem h2, List.flatMap_append, List.map_append, <- getElem!_pos (B k) j h2]; simp
 simp only [go_sem, h2, hg2, List.length_map]
 refine CallU.free cw (by simp only [go_sem]) (by simp only [go_sem]) ?_
 rintro r bx rfl
 simp only [go_sem]
 refine CallU.free cm (by simp only [go_sem]) (by simp only [go_sem]) ?_
 rintro r bx rfl
 simp only [go_sem, hw2]
 refine ⟨by simp only [roomFor]; omega, ?_⟩
 refine roundK.intro (j + 1) (by omega) (by omega) ?_
 simp only [go_sem, e]
def belB (k : Nat) : List (List TmD) := if k = 0 then [[allT 2 2]] else [bel01]
theorem bel_ok : BelOk 2 [[0, 1]] belB := by
 have h0 : (∀ p ∈ belB 0, OkP p /\ ShortP p /\ p.length <= 12) := fun p hp => by
  have : p = [allT 2 2] := List.mem_singleton.1 hp
  subst this
  exact ⟨fun t ht => by rw [List.mem_singleton.1 ht]; exact allT_ok 2 2, fun t ht => by rw [List.mem_singleton.1 ht]; exact Nat.le_trans (allL_len 2 2) (by decide), by decide⟩
 have h1 : (∀ p ∈ belB 1, OkP p /\ ShortP p /\ p.length <= 12) := fun p hp => by
  have : p = bel01 := List.mem_singleton.1 hp
  subst this
  refine ⟨fun t ht => ?_, fun t ht => ?_, by decide⟩
  ·simp only [bel01, List.mem_cons, List.not_mem_nil, or_false] at ht
   rcases ht with rfl | rfl
   ·exact ⟨fun h => Bool.noConfusion h, rfl⟩
   ·exact ⟨fun h => Bool.noConfusion h, rfl⟩
  ·simp only [bel01, List.mem_cons, List.not_mem_nil, or_false] at ht
   rcases ht with rfl | rfl <;> exact Nat.le_trans (Nat.le_of_eq rfl) (show 1 <= 1000 by decide)
 refine ⟨rfl, fun k hk => ?_, fun k hk => ?_, fun k hk => ?_⟩
 ·match k, hk with
  | 0, _ => exact h0
  | 1, _ => exact h1
 ·match k, hk with
  | 0, _ => decide
  | 1, _ => decide
 ·obtain rfl : k = 0 := by simp only [List.length_cons, List.length_nil] at hk; omega
  have e : maxL (belowStep 2 [[allT 2 2]] [0, 1]) = [bel01] := by
   unfold belowStep
   rw [List.flatMap_cons, List.flatMap_nil, List.append_nil]; exact bel01_eq
  have hw : ∀ p ∈ belowStep 2 [[allT 2 2]] [0, 1], OkP p /\ LenP p := fun p hp => by
   obtain ⟨q, hq, hp⟩ := List.mem_flatMap.1 hp
   obtain ⟨q1, q2, q3⟩ := h0 q hq
   have hl := without_len 2 [0, 1]
   simp only [List.length_cons, List.length_nil] at hl
   have a := meet_ok 16 q (withoutP 2 [0, 1]) (by omega) q1 (without_ok 2 _) p hp
   have b := meet_short 16 q (withoutP 2 [0, 1]) (by omega) p hp
   have c := meet_letters 16 q (withoutP 2 [0, 1]) (by omega) q2 (without_short 2 (by decide) _) p hp
   exact ⟨a, ⟨by omega, fun t ht => Nat.le_trans (c t ht) (by decide)⟩⟩
  have hl : (belowStep 2 [[allT 2 2]] [0, 1]).length <= 1000000 := by decide +kernel
  have := con_xmaximal (belowStep 2 [[allT 2 2]] [0, 1]) hw hl (by rw [e]; decide)
  rw [e] at this
  exact this
theorem con_xawake : Con Tryz.prog 5 [] [] fun r _ => r = .sc (.bool true) := by
 refine Con.intro Tryz.func5 rfl Tryz.ntmps5 Tryz.results5 (by kernel_rfl) (by simp) 0 (by simp) ?_
 have c1 := con_xBelow 2 [[0, 1]] belB bel_ok (by decide) (by decide) (by decide) (by decide)
 simp only [go_sem, show ([[0, 1]] : List (List Int)).length = 1 from rfl, show belB 1 = [bel01] from rfl, List.map_cons, List.map_nil] at c1
 have c2 : Con Tryz.prog 25 [vi 2, vPr [⟨false, [1]⟩, ⟨true, [0]⟩], vi 1] [] fun r _ => r = .tup [vPr [⟨true, [0]⟩], vb true, vi 0] := by
  have c := con_xBehind 2 [⟨false, [1]⟩, ⟨true, [0]⟩] 1 ⟨by decide, by decide⟩
  have e : behX 2 [⟨false, [1]⟩, ⟨true, [0]⟩] 1 = .tup [vPr [⟨true, [0]⟩], vb true, vi 0] := by
   have h1 : letX 2 [⟨false, [1]⟩, ⟨true, [0]⟩] 1 = 0 := by decide +kernel
   have h2 : behP 1 [⟨false, [1]⟩, ⟨true, [0]⟩] = some [⟨true, [0]⟩] := by decide +kernel
   have h3 : normP [⟨true, [0]⟩] = [⟨true, [0]⟩] := by decide +kernel
   unfold behX
   rw [h1, if_neg (by decide), h2]
   show AV.tup [vPr (normP [⟨true, [0]⟩]), vb true, vi 0] = _
   rw [h3]
  rwa [e] at c
 have lb : LenP bel01 := ⟨by decide, by decide⟩
 have c3 := con_xHas 2 bel01 [1, 1, 0] lb (by decide)
 have c4 := con_xHas 2 bel01 [0, 1] lb (by decide)
 have c5 := con_xCheckL 2 bel01 lb
 have c6 := con_xLeq 2 [⟨true, [0]⟩] bel01 ⟨by decide, by decide⟩ lb
 rw [show hasX 2 bel01 [1, 1, 0] = true by decide +kernel] at c3
 rw [show hasX 2 bel01 [0, 1] = false by decide +kernel] at c4
 rw [show checkX 2 bel01 = 0 by decide +kernel] at c5
 rw [show leqX 2 [⟨true, [0]⟩] bel01 = true by decide +kernel] at c6
 simp only [vPr, vTm, bel01, List.map_cons, List.map_nil] at c1 c2 c3 c4 c5 c6
 simp only [go_sem, List.map_cons, List.map_nil] at c1 c2 c3 c4 c5 c6
 simp only [go_sem]
 refine CallU.freeze c1 (by simp only [go_sem]) (by simp only [go_sem]) ?_
 rintro r bx rfl
 simp only [go_sem]
 refine CallU.freeze c2 (by simp only [go_sem]) (by simp only [go_sem]) ?_
 rintro r bx rfl
 simp only [go_sem]
 dsimp only [List.append]
 simp only [go_sem]
 refine CallU.freeze c3 (by simp only [go_sem]) (by simp only [go_sem]) ?_
 rintro r bx rfl
 simp only [go_sem]
 refine CallU.freeze c4 (by simp only [go_sem]) (by simp only [go_sem]) ?_
 rintro r bx rfl
 simp only [go_sem]
 refine CallU.freeze c5 (by simp only [go_sem]) (by simp only [go_sem]) ?_
 rintro r bx rfl
 simp only [go_sem]
 refine CallU.freeze c6 (by simp only [go_sem]) (by simp only [go_sem]) ?_
 rintro r bx rfl
 simp only [go_sem]
 all_goals trace_state
theorem Con.freezeB {P : Program} {f : FuncId} {args : List AV} {bx : List (List AV)} {post : AV -> List (List AV) -> Prop} (p : Nat -> Bool) (h : Con P f args bx post) : Con P f args bx fun r' b' => ∃ r b, post r b /\ r' = r.freeze p /\ b' = b.map fun cs => cs.map (AV.freeze p) :=
 ⟨h.1, fun G w vs h1 h2 h3 h4 h5 => (h.2 G w vs h1 h2 h3 h4 h5).mono fun e w' ⟨v, r, bx', G', he, hq, hr, hg, hbx, hlt, e1, e2, e3, e4, e5, e6⟩ => by
  have hbox : ∀ k i, freezeG p G' k = .box i ↔ G' k = .box i := fun k i => by
   unfold freezeG; split
   ·rename_i t ht; split <;> simp [ht]
   ·exact Iff.rfl
  refine ⟨v, _, bx'.map (fun cs => cs.map (AV.freeze p)), freezeG p G', he, ⟨r, bx', hq, rfl, rfl⟩, hr.freeze, hg.freeze, ⟨fun i vs hv => by simp [noGh] at hv, fun i cs hi => ?_⟩, fun k i hk => by simpa using hlt k i ((hbox k i).1 hk), e1, e2, e3, e4, fun k hk => ?_, e6⟩
  ·rw [List.getElem?_map] at hi
   cases hc : bx'[i]? with
   | none => simp [hc] at hi
   | some cs' =>
    simp [hc] at hi; subst hi
    exact (hbx.cell i cs' hc).map (fun x v hr => hr.freeze) (fun k hk => ⟨(hbox k i).2 hk, rfl⟩) fun h0 k hk => h0 k ((hbox k i).1 hk)
  ·have := e5 k hk
   unfold freezeG
   split
   ·rename_i t ht; rw [this] at ht; exact absurd ht (h2 k t)
   ·exact this⟩
def kidN (n : Int) : AV := .ag [vi n, .nil]
def cfgN (t s : Nat) (v : List Int) : AV := .ag [vi 0, .sl t 2 (((s : Int) :: v).map kidN)]
attribute [go_sem] kidN cfgN
end Go.AM
