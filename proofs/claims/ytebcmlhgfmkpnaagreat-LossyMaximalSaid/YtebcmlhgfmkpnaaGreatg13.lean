/- GA MxB ExR CmQ CmR CmS CmT LEff LFlat FA FK MxC EyD LoF LoG GB GC -/
import Derived.Test.YtebcmlhgfmkpnaaGreatg12
import Derived.Test.YtebcmlhgfmkpnaaGreatg8
import Derived.Test.YtebcmlhgfmkpnaaGreatg9
import Derived.Test.YtebcmlhgfmkpnaaGreatg7
namespace Go.AM
open Go Go.Proofs Go.RowKit
set_option maxRecDepth 100000
set_option maxHeartbeats 8000000
theorem con_nan (x : Int) : Con Tryz.prog 235 [vi x] [] fun r _ => r = .sc (.bool false) := by
 refine Con.intro Tryz.func235 rfl Tryz.ntmps235 Tryz.results235 (by kernel_rfl) (by simp) 0 (by simp) ?_
 simp only [go_sem]
theorem con_cmpI (x y : Int) : Con Tryz.prog 150 [vi x, vi y] [] fun r _ => r = vi (ordI x y) := by
 refine Con.intro Tryz.func150 rfl Tryz.ntmps150 Tryz.results150 (by kernel_rfl) (by simp) 0 (by simp) ?_
 simp only [go_sem]
 refine CallU.free (con_nan x) (by simp only [go_sem]) (by simp only [go_sem]) ?_
 rintro r bx rfl
 simp only [go_sem]
 refine CallU.free (con_nan y) (by simp only [go_sem]) (by simp only [go_sem]) ?_
 rintro r bx rfl
 by_cases h1 : x < y
 ·have e : ordI x y = -1 := by unfold ordI; rw [if_pos h1]
  simp only [go_sem, h1, e]
 by_cases h2 : y < x
 ·have e : ordI x y = 1 := by unfold ordI; rw [if_neg h1, if_pos h2]
  simp only [go_sem, h1, h2, e]
 ·have e : ordI x y = 0 := by unfold ordI; rw [if_neg h1, if_neg h2]
  simp only [go_sem, h1, h2, e]
theorem con_or (l : List Int) (hl : l.length <= 9223372036854775807) : Con Tryz.prog 149 [vs 0 l] [] fun r _ => r = vi (orF l) := by
 refine Con.intro Tryz.func149 rfl Tryz.ntmps149 Tryz.results149 (by kernel_rfl) (by simp) 0 (by simp) ?_
 simp only [go_sem]
 refine LoopK.intro (fun i : Nat => ⟨18, [(3, vi 0), (6, vs 0 l), (7, vi l.length), (8, vi i)], []⟩)
  (fun i => l.length - i) (fun i => i <= l.length /\ orF (l.drop i) = orF l) 0 ⟨by omega, rfl⟩ ?_ ?_
 ·simp only [go_sem]
 rintro i ⟨hi, he⟩
 by_cases h : i < l.length
 ·have g1 := getv h
  have hw : IntKind.i64.wrap (i + 1) = i + 1 := wrap_in (by omega) (by omega)
  have hd : l.drop i = l[i]! :: l.drop (i + 1) := by rw [<- List.getElem_cons_drop h, <- getElem!_pos l i h]
  rw [hd] at he
  by_cases h0 : l[i]! = 0
  ·have hb : (l[i]! != 0) = false := by simp [h0]
   simp only [go_sem, h, g1, hb, hw]
   refine roundK.intro (i + 1) ⟨by omega, ?_⟩ (by omega) ?_
   ·rw [<- he]; unfold orF; rw [List.find?_cons_of_neg (by rw [hb]; simp)]
   ·simp only [go_sem]
  ·have hb : (l[i]! != 0) = true := bne_iff_ne.2 h0
   have e : orF l = l[i]! := by rw [<- he]; unfold orF; rw [List.find?_cons_of_pos (by exact hb)]; rfl
   simp only [go_sem, h, g1, hb, e]
 ·have e : orF l = 0 := by rw [<- he, List.drop_of_length_le (by omega)]; rfl
  simp only [go_sem, h, e]
theorem con_cmpfn (k l : List CV) (hk : k.length <= 9223372036854775807) (hl : l.length <= 9223372036854775807)
  (hrec : ∀ x ∈ k, ∀ y ∈ l, Con Tryz.prog 258 [vV x, vV y] [] fun r _ => r = vi (cmpV x y)) :
  Con Tryz.prog 315 [.sl 0 2 (k.map vV), .sl 0 2 (l.map vV), .fn 258 []] [] fun r _ => r = vi (cmpVs k l) := by
 refine Con.intro Tryz.func315 rfl Tryz.ntmps315 Tryz.results315 (by kernel_rfl) (by simp) 0 (by simp) ?_
 simp only [go_sem]
 refine LoopK.intro (fun i : Nat => ⟨39, [(0, .sl 0 2 (k.map vV)), (1, .sl 0 2 (l.map vV)), (2, .fn 258 []), (11, .sl 0 2 (k.map vV)), (12, vi k.length), (13, vi i)], Rk 2 (2 * i)⟩)
  (fun i => k.length - i) (fun i => i <= k.length /\ i <= l.length /\ cmpVs (k.drop i) (l.drop i) = cmpVs k l) 0 ⟨by omega, by omega, rfl⟩ ?_ ?_
 ·simp only [go_sem]
  first | trivial | exact leB_self _
 rintro i ⟨hi, hi2, he⟩
 by_cases h : i < k.length
 case neg =>
  have hie : i = k.length := by omega
  subst hie
  rw [List.drop_length] at he
  by_cases h2 : k.length < l.length
  ·have e : cmpVs k l = -1 := by
    rw [<- he]
    cases hd : l.drop k.length with
    | nil => have := congrArg List.length hd; rw [List.length_drop] at this; simp at this; omega
    | cons y t => rfl
   simp only [go_sem, h, h2, e]
  ·have e : cmpVs k l = 0 := by rw [<- he, List.drop_of_length_le (by omega)]; rfl
   simp only [go_sem, h, h2, e]
 have g1 := getvV h
 have hw : IntKind.i64.wrap (i + 1) = i + 1 := wrap_in (by omega) (by omega)
 have hB := Rk_len 2 (2 * i)
 have d1 : k.drop i = k[i]! :: k.drop (i + 1) := by rw [<- List.getElem_cons_drop h, <- getElem!_pos k i h]
 rw [d1] at he
 have n0 := fun L : List (List AV) => app_at0 (L := L) hB
 have n1 := fun L : List (List AV) => app_at1 (L := L) hB
 have s0 := fun (L : List (List AV)) z => app_set0 (L := L) (z := z) hB
 have s1 := fun (L : List (List AV)) z => app_set1 (L := L) (z := z) hB
 by_cases h2 : i < l.length
 case neg =>
  have e : cmpVs k l = 1 := by rw [<- he, show l.drop i = [] from List.drop_of_length_le (by omega)]; rfl
  have h3 : (l.length : Int) <= i := by omega
  simp only [go_sem, h, g1, hB, n0, s0, h3, e]
 have d2 : l.drop i = l[i]! :: l.drop (i + 1) := by rw [<- List.getElem_cons_drop h2, <- getElem!_pos l i h2]
 rw [d2, cmpVs] at he
 have g2 := getvV h2
 have h3 : ¬ ((l.length : Int) <= i) := by omega
 have hc := hrec _ (mem_bangI h) _ (mem_bangI h2)
 rw [vV_eq k[i]!, vV_eq l[i]!] at hc
 simp only [go_sem, h, h2, g1, g2, hB, n0, s0, n1, s1, h3, List.append_assoc, List.length_append, List.length_cons, List.length_nil]
 refine CallU.free hc (by simp only [go_sem]) (by simp only [go_sem]) ?_
 rintro r bx rfl
 by_cases h4 : cmpV k[i]! l[i]! = 0
 ·have h5 : (cmpV k[i]! l[i]! != 0) = false := by rw [h4]; rfl
  rw [if_neg (fun h' => h' h4)] at he
  simp only [go_sem, h5, hw]
  refine roundK.intro (i + 1) ⟨by omega, by omega, he⟩ (by omega) ?_
  simp only [go_sem, show 2 * (i + 1) = 2 * i + 1 + 1 by omega, Rk_succ2]
 ·have h5 : (cmpV k[i]! l[i]! != 0) = true := bne_iff_ne.2 h4
  rw [if_pos h4] at he
  rw [he] at h5
  simp only [go_sem, he, h5]
theorem con_compare : ∀ (N : Nat) (a b : CV), SizeOf.sizeOf a <= N -> a.Ok -> b.Ok -> Con Tryz.prog 258 [vV a, vV b] [] fun r _ => r = vi (cmpV a b) := by
 intro N
 induction N with
 | zero => intro a b hN; cases a; simp at hN
 | succ N ih =>
 intro a b hN ha hb
 have hc := con_cmpfn a.kids b.kids ha.len hb.len fun x hx y hy => ih x y (by have := kid_size hx; omega) (ha.kid hx) (hb.kid hy)
 have hor := or_cmp a b
 rw [vV_eq a, vV_eq b]
 refine Con.intro Tryz.func258 rfl Tryz.ntmps258 Tryz.results258 (by kernel_rfl) (by simp) 0 (by simp) ?_
 simp only [go_sem]
 refine DrawK.walk 18 mixed (by kernel_rfl) ?_
 simp only [go_sem]
 refine CallY.mk (con_cmpI a.n b.n) (by simp only [go_sem]) (by simp only [go_sem]) (.inl rfl) ?_
 simp only [go_sem]
 refine CallY.mk (con_cmpI a.kids.length b.kids.length) (by simp only [go_sem]) (by simp only [go_sem]) (.inl rfl) ?_
 simp only [go_sem]
 refine CallY.mk hc (by simp only [go_sem]) (by simp only [go_sem]) (.inl rfl) ?_
 simp only [go_sem]
 refine CallU.flat (con_or [ordI a.n b.n, ordI a.kids.length b.kids.length, cmpVs a.kids b.kids] (by simp)) (by simp only [go_sem]) (by simp only [go_sem]) ?_
 rintro r bx rfl
 simp only [go_sem, hor]
theorem con_lexC (a b : List Int) (ha : a.length <= 1000000) : Con Tryz.prog 295 [vs 0 a, vs 0 b] [] fun r _ => r = vi (lexC a b) := by
 refine Con.intro Tryz.func295 rfl Tryz.ntmps295 Tryz.results295 (by kernel_rfl) (by simp) 0 (by simp) ?_
 simp only [go_sem]
 refine LoopK.intro (fun i : Nat => ⟨36, [(0, vs 0 a), (1, vs 0 b), (9, vs 0 a), (10, vi a.length), (11, vi i)], []⟩)
  (fun i => a.length - i) (fun i => i <= a.length /\ i <= b.length /\ lexC (a.drop i) (b.drop i) = lexC a b) 0 ⟨by omega, by omega, rfl⟩ ?_ ?_
 ·simp only [go_sem]
 rintro i ⟨hi, hj, hd⟩
 by_cases h : i < a.length
 ·have hg := getv h
  have hw : IntKind.i64.wrap (i + 1) = i + 1 := wrap_in (by omega) (by omega)
  by_cases h2 : i < b.length
  ·have hg2 := getv h2
   have h3 : ¬ (b.length : Int) <= i := by omega
   rw [lexC_drop h h2] at hd
   simp only [go_sem, h, h2, hg, hg2, h3]
   refine CallU.free (con_cmpI a[i]! b[i]!) (by simp only [go_sem]) (by simp only [go_sem]) ?_
   rintro r bx rfl
   by_cases h4 : ordI a[i]! b[i]! = 0
   ·have h5 : (ordI a[i]! b[i]! != 0) = false := by rw [h4]; rfl
    rw [if_neg (fun h' => h' h4)] at hd
    simp only [go_sem, h5, hw]
    refine roundK.intro (i + 1) ⟨by omega, by omega, hd⟩ (by omega) ?_
    simp only [go_sem]
   ·have h5 : (ordI a[i]! b[i]! != 0) = true := bne_iff_ne.2 h4
    rw [if_pos h4] at hd
    rw [hd] at h5
    simp only [go_sem, h5, hd]
  ·have h3 : (b.length : Int) <= i := by omega
   have e : lexC a b = 1 := by
    rw [<- hd, show b.drop i = [] from List.drop_of_length_le (by omega), List.drop_eq_getElem_cons h]; rfl
   simp only [go_sem, h, hg, h3, e]
 ·have hil : i = a.length := by omega
  subst hil
  rw [List.drop_length] at hd
  by_cases h2 : a.length < b.length
  ·have e : lexC a b = -1 := by rw [<- hd, List.drop_eq_getElem_cons h2]; rfl
   simp only [go_sem, h, h2, e]
  ·have e : lexC a b = 0 := by rw [<- hd, List.drop_of_length_le (by omega)]; rfl
   simp only [go_sem, h, h2, e]
section
variable {P : Program}
theorem evLookup_bi {T' : TypeId} {K : AV -> Prop} {t' : Nat} {k e : TypeId} {D : DataW Unit} {s : Bool} {q : Nat × Nat × Option Value} (hT : P.underlying T' = some (.map k e)) (hk : P.underlying k = some .bool) (he : P.underlying e = some (.int .i64))
  (hq : tinfo P e = some q) (hz : q.2.2 = some (.int .i64 0)) (h : K (.sc (.int .i64 (intAt .i64 D (.bool s))))) : evLookup P T' (.mp t' P k e D) (.sc (.bool s)) K := by
 unfold evLookup
 refine ⟨rfl, hT, by rw [hk]; rfl, _, Go.Maps.keyOf_bool_mk hk s, q, hq, ?_⟩
 rw [he]; exact ⟨hz, h⟩
theorem evMapPut_bi {T' : TypeId} {σ : St} {K : St -> Prop} {t' : Nat} {k e : TypeId} {D : DataW Unit} {s : Bool} {x : Int} (hT : P.underlying T' = some (.map k e)) (hk : P.underlying k = some .bool) (he : P.underlying e = some (.int .i64))
  (hx : (Lit.int .i64 x).wf = true) (hl : mapLen D < 9223372036854775807) (h : K (σ.map (putMap t' P k e (D.put (.bool s) (.lit (.int .i64 x)))))) : evMapPut P T' σ (.mp t' P k e D) (.sc (.bool s)) (.sc (.int .i64 x)) K := by
 unfold evMapPut
 exact ⟨rfl, hT, by rw [hk]; rfl, hl, _, _, Go.Maps.keyOf_bool_mk hk s, plainElem_int he hx, h⟩
end
theorem con_xorder (t u : TmD) (ht : t.ls.length <= 1000000) (_hu : u.ls.length <= 1000000) : Con Tryz.prog 237 [vTm t, vTm u] [] fun r _ => r = vi (cmpTm t u) := by
 refine Con.intro Tryz.func237 rfl Tryz.ntmps237 Tryz.results237 (by kernel_rfl) (by simp) 0 (by simp) ?_
 simp only [go_sem]
 refine evMapPut_bi (k := 4) (e := 3) Tryz.underlying270 Tryz.underlying4 Tryz.underlying3 (by decide) (by decide) ?_
 simp only [go_sem]
 refine DrawK.walk 21 mixed (by kernel_rfl) ?_
 simp only [go_sem]
 have hat : ∀ s : Bool, intAt .i64 ((DataW.map []).put (Lit.bool true) (DataW.lit (Lit.int IntKind.i64 1))) (.bool s) = if s then 1 else 0 := by decide
 refine evLookup_bi (k := 4) (e := 3) Tryz.underlying270 Tryz.underlying4 Tryz.underlying3 tinfo_3 rfl ?_
 refine evLookup_bi (k := 4) (e := 3) Tryz.underlying270 Tryz.underlying4 Tryz.underlying3 tinfo_3 rfl ?_
 rw [hat, hat]
 refine CallY.mk (con_cmpI (if t.star then 1 else 0) (if u.star then 1 else 0)) (by simp only [go_sem]) (by simp only [go_sem]) (.inl (by simp only [go_sem])) ?_
 simp only [go_sem]
 refine CallY.mk (con_cmpI t.ls.length u.ls.length) (by simp only [go_sem]) (by simp only [go_sem]) (.inl (by simp only [go_sem])) ?_
 simp only [go_sem]
 refine CallY.mk (con_lexC t.ls u.ls ht) (by simp only [go_sem]) (by simp only [go_sem]) (.inl (by simp only [go_sem])) ?_
 simp only [go_sem]
 have co := con_or [ordI (if t.star then 1 else 0) (if u.star then 1 else 0), ordI t.ls.length u.ls.length, lexC t.ls u.ls] (by simp)
 simp only [vs, List.map_cons, List.map_nil] at co
 refine CallU.freeze co (by simp only [go_sem]) (by simp only [go_sem]) ?_
 rintro r bx rfl
 simp only [go_sem]
 congr 2
 unfold cmpTm keyT
 rw [lexC, lexC]
 unfold orF
 by_cases h1 : ordI (if t.star then 1 else 0) (if u.star then 1 else 0) = 0
 ·by_cases h2 : ordI t.ls.length u.ls.length = 0
  ·by_cases h3 : lexC t.ls u.ls = 0
   ·simp [h1, h2, h3]
   ·simp [h1, h2, h3]
  ·simp [h1, h2]
 ·simp [h1]
theorem lexBy_drop (l m : List TmD) (i : Nat) (h : i < l.length) (h2 : i < m.length) (e : cmpTm l[i]! m[i]! = 0) : lexBy cmpTm (l.drop i) (m.drop i) = lexBy cmpTm (l.drop (i + 1)) (m.drop (i + 1)) := by
 rw [List.drop_eq_getElem_cons h, List.drop_eq_getElem_cons h2, lexBy, <- getElem!_pos l i h, <- getElem!_pos m i h2]
 rw [if_neg (by rw [e]; simp)]
theorem con_xcompareFunc (p q : List TmD) (hp : LenP p) (hq : LenP q) : Con Tryz.prog 236 [vPr p, vPr q, .fn 237 []] [] fun r _ => r = vi (lexBy cmpTm p q) := by
 refine Con.intro Tryz.func236 rfl Tryz.ntmps236 Tryz.results236 (by kernel_rfl) (by simp) 0 (by simp) ?_
 have hpl := hp.len
 have hql := hq.len
 simp only [go_sem]
 refine LoopK.intro (fun i : Nat => ⟨39, [(0, vPr p), (1, vPr q), (2, .fn 237 []), (11, vPr p), (12, vi p.length), (13, vi i)], Rk 2 (2 * i)⟩)
  (fun i => p.length - i) (fun i => i <= p.length /\ i <= q.length /\ lexBy cmpTm p q = lexBy cmpTm (p.drop i) (q.drop i)) 0 ⟨Nat.zero_le _, Nat.zero_le _, rfl⟩ ?_ ?_
 ·simp only [go_sem, Rk, List.replicate]
 rintro i ⟨hi, hi2, he⟩
 have hB := Rk_len 2 (2 * i)
 have n0 := fun L : List (List AV) => app_at0 (L := L) hB
 have n1 := fun L : List (List AV) => app_at1 (L := L) hB
 have s0 := fun (L : List (List AV)) z => app_set0 (L := L) (z := z) hB
 have s1 := fun (L : List (List AV)) z => app_set1 (L := L) (z := z) hB
 have e2 : Rk 2 (2 * (i + 1)) = Rk 2 (2 * i) ++ [List.replicate 2 .any, List.replicate 2 .any] := Rk_succ2 2 (2 * i)
 have hwi : IntKind.i64.wrap (i + 1) = i + 1 := wrap_in (by omega) (by omega)
 by_cases h : i < p.length
 case neg =>
  have ep : p.drop i = [] := List.drop_eq_nil_of_le (by omega)
  rw [ep] at he
  by_cases hlt : p.length < q.length
  ·rw [List.drop_eq_getElem_cons (show i < q.length by omega)] at he
   simp only [go_sem, h, hlt, List.length_map]
   rw [he]; rfl
  ·rw [List.drop_eq_nil_of_le (show q.length <= i by omega)] at he
   simp only [go_sem, h, hlt, List.length_map]
   rw [he]; rfl
 have hg := getTm h
 by_cases h2 : i < q.length
 case neg =>
  have h2' : q.length <= i := by omega
  rw [List.drop_eq_getElem_cons h, List.drop_eq_nil_of_le h2'] at he
  simp only [go_sem, h, hg, hB, n0, s0, h2', List.length_map]
  rw [he]; rfl
 have h2' : ¬ q.length <= i := by omega
 have hg2 := getTm h2
 have co := con_xorder p[i]! q[i]! (hp.terms _ (mem_bangI h)) (hq.terms _ (mem_bangI h2))
 simp only [vTm] at co
 simp only [go_sem] at co
 simp only [go_sem, h, hg, hB, n0, s0, n1, s1, h2, h2', hg2, List.length_map, List.append_assoc, List.cons_append, List.nil_append, List.length_append, List.length_cons, List.length_nil, Nat.zero_add]
 refine CallU.free co (by simp only [go_sem]) (by simp only [go_sem]) ?_
 rintro r bx rfl
 by_cases hz : cmpTm p[i]! q[i]! = 0
 ·have hz' : (cmpTm p[i]! q[i]! != 0) = false := by rw [hz]; rfl
  simp only [go_sem, hz', hwi]
  refine roundK.intro (i + 1) ⟨by omega, by omega, by rw [he, lexBy_drop p q i h h2 hz]⟩ (by omega) ?_
  simp only [go_sem, e2]
  all_goals trace_state
 ·have hz' : (cmpTm p[i]! q[i]! != 0) = true := bne_iff_ne.2 hz
  rw [List.drop_eq_getElem_cons h, List.drop_eq_getElem_cons h2, lexBy, <- getElem!_pos p i h, <- getElem!_pos q i h2, if_pos hz] at he
  simp only [go_sem, hz', he]
theorem con_xCompare (p q : List TmD) (hp : LenP p) (hq : LenP q) : Con Tryz.prog 152 [vPr p, vPr q] [] fun r _ => r = vi (cmpPr p q) := by
 refine Con.intro Tryz.func152 rfl Tryz.ntmps152 Tryz.results152 (by kernel_rfl) (by simp) 0 (by simp) ?_
 have hc := con_xcompareFunc p q hp hq
 simp only [vPr] at hc
 have co := con_or [ordI p.length q.length, lexBy cmpTm p q] (by simp)
 simp only [vs, List.map_cons, List.map_nil] at co
 simp only [go_sem]
 refine CallU.free (con_cmpI p.length q.length) (by simp only [go_sem]) (by simp only [go_sem]) ?_
 rintro r bx rfl
 simp only [go_sem]
 refine CallU.free hc (by simp only [go_sem]) (by simp only [go_sem]) ?_
 rintro r bx rfl
 simp only [go_sem]
 refine CallU.freeze co (by simp only [go_sem]) (by simp only [go_sem]) ?_
 rintro r bx rfl
 simp only [go_sem]
 congr 2
 unfold cmpPr thenC orF
 by_cases h1 : ordI p.length q.length = 0
 ·by_cases h2 : lexBy cmpTm p q = 0
  ·simp [h1, h2]
  ·simp [h1, h2]
 ·simp [h1]
end Go.AM
namespace Go.AM
end Go.AM
namespace Go.AM
open Go Go.Proofs Go.RowKit
set_option maxRecDepth 100000
set_option maxHeartbeats 8000000
def ordL (a b : Int) : Int := if a < b then -1 else if b < a then 1 else 0
def lexI : List Int -> List Int -> Int
 | x :: xs, y :: ys => if x = y then lexI xs ys else ordL x y
 | _, _ => 0
def cmpI (a b : List Int) : Int := if a.length = b.length then lexI a b else ordL a.length b.length
theorem ord_zero {a b : Int} : ordL a b = 0 ↔ a = b := by unfold ordL; split <;> (try split) <;> omega
theorem lex_drop {a b : List Int} (hl : a.length = b.length) : ∀ i, i <= a.length -> (∀ j, j < i -> a[j]! = b[j]!) -> lexI a b = lexI (a.drop i) (b.drop i)
 | 0, _, _ => rfl
 | i + 1, hi, h => by
  rw [lex_drop hl i (by omega) fun j hj => h j (by omega)]
  have h1 : i < a.length := by omega
  have h2 : i < b.length := by omega
  have e := h i (by omega)
  rw [getElem!_pos a i h1, getElem!_pos b i h2] at e
  rw [List.drop_eq_getElem_cons h1, List.drop_eq_getElem_cons h2, lexI, if_pos e]
theorem lex_stop {a b : List Int} (hl : a.length = b.length) {i : Nat} (hi : i < a.length) (h : ∀ j, j < i -> a[j]! = b[j]!) (hn : a[i]! ≠ b[i]!) : lexI a b = ordL a[i]! b[i]! := by
 have h2 : i < b.length := by omega
 rw [lex_drop hl i (by omega) h]
 rw [getElem!_pos a i hi, getElem!_pos b i h2] at *
 rw [List.drop_eq_getElem_cons hi, List.drop_eq_getElem_cons h2, lexI, if_neg hn]
theorem lex_same {a b : List Int} (hl : a.length = b.length) (h : ∀ j, j < a.length -> a[j]! = b[j]!) : lexI a b = 0 := by
 rw [lex_drop hl a.length (Nat.le_refl _) h, List.drop_eq_nil_of_le (Nat.le_refl _)]
 unfold lexI; rfl
theorem con_rorder (a b : Int) : Con Tryz.prog 111 [vi a, vi b] [] fun r _ => r = vi (ordL a b) := by
 refine Con.intro Tryz.func111 rfl Tryz.ntmps111 Tryz.results111 (by kernel_rfl) (by simp) 0 (by simp) ?_
 unfold ordL
 by_cases h1 : a < b
 ·simp only [go_sem, h1, if_true]
 ·by_cases h2 : b < a
  ·simp only [go_sem, h1, h2, if_true, if_false]
  ·simp only [go_sem, h1, h2, if_true, if_false]
theorem con_rcompareI (a b : List Int) (ha : a.length <= 1000000) : Con Tryz.prog 180 [vs 0 a, vs 0 b] [] fun r _ => r = vi (cmpI a b) := by
 refine Con.intro Tryz.func180 rfl Tryz.ntmps180 Tryz.results180 (by kernel_rfl) (by simp) 0 (by simp) ?_
 by_cases hl : a.length = b.length
 case neg =>
  have hl' : ((a.length : Int) != (b.length : Int)) = true := bne_iff_ne.2 (by omega)
  have e : cmpI a b = ordL a.length b.length := by unfold cmpI; rw [if_neg hl]
  simp only [go_sem, hl', List.length_map]
  refine CallU.free (con_rorder a.length b.length) (by simp only [go_sem]) (by simp only [go_sem]) ?_
  rintro x bx rfl
  simp only [go_sem, e]
 have e : cmpI a b = lexI a b := by unfold cmpI; rw [if_pos hl]
 have hl' : ((a.length : Int) != (b.length : Int)) = false := by rw [hl]; simp
 rw [e]
 simp only [go_sem, hl', List.length_map]
 refine LoopK.intro (fun i : Nat => ⟨40, [(0, vs 0 a), (1, vs 0 b), (5, vi i)], []⟩)
  (fun i => a.length - i) (fun i => i <= a.length /\ ∀ j, j < i -> a[j]! = b[j]!) 0 ⟨by omega, fun j hj => by omega⟩ ?_ ?_
 ·simp only [go_sem]
  all_goals exact leV_refl _
 rintro i ⟨hi, hb⟩
 by_cases h : i < a.length
 ·have h2 : i < b.length := by omega
  have g1 := getv h
  have g2 := getv h2
  have hw : IntKind.i64.wrap (i + 1) = i + 1 := wrap_in (by omega) (by omega)
  simp only [go_sem, h]
  refine DrawK.walk 9 mixed (by kernel_rfl) ?_
  by_cases hp : a[i]! = b[i]!
  ·have hp' : (a[i]! != b[i]!) = false := by rw [hp]; simp
   simp only [go_sem, h, h2, g1, g2, hp', hw]
   refine roundK.intro (i + 1) ⟨by omega, fun j hj => ?_⟩ (by omega) ?_
   ·by_cases hji : j = i
    ·subst hji; exact hp
    ·exact hb j (by omega)
   ·simp only [go_sem]
  ·have hp' : (a[i]! != b[i]!) = true := bne_iff_ne.2 hp
   have e2 := lex_stop hl h hb hp
   simp only [go_sem, h, h2, g1, g2, hp']
   refine DrawK.walk 10 mixed (by kernel_rfl) ?_
   simp only [go_sem, h, h2, g1, g2]
   refine CallY.mk (con_rorder a[i]! b[i]!) (by simp only [go_sem]) (by simp only [go_sem]) (.inl (by simp only [go_sem])) ?_
   simp only [go_sem, e2]
 ·have e2 := lex_same hl fun j hj => hb j (by omega)
  simp only [go_sem, h, e2]
def vqC (x : Int) : AV := .sc (.int .u64 x)
theorem con_len64S (n : Nat) (hn : n <= 12) : Con Tryz.prog 219 [vqC n] [] fun r _ => ∃ v, r = vi v := by
 refine Con.intro Tryz.func219 rfl Tryz.ntmps219 Tryz.results219 (by kernel_rfl) (by simp) 0 (by simp) ?_
 have h1 : ¬ (4294967296 : Int) <= n := by omega
 have h2 : ¬ (65536 : Int) <= n := by omega
 have h3 : ¬ (256 : Int) <= n := by omega
 simp only [go_sem, vqC, h1, h2, h3]
 have h : n = 0 \/ n = 1 \/ n = 2 \/ n = 3 \/ n = 4 \/ n = 5 \/ n = 6 \/ n = 7 \/ n = 8 \/ n = 9 \/ n = 10 \/ n = 11 \/ n = 12 := by omega
 rcases h with rfl | rfl | rfl | rfl | rfl | rfl | rfl | rfl | rfl | rfl | rfl | rfl | rfl
 ·exact ⟨0, by kernel_rfl, by simp only [go_sem]; exact ⟨_, rfl⟩⟩
 ·exact ⟨1, by kernel_rfl, by simp only [go_sem]; exact ⟨_, rfl⟩⟩
 ·exact ⟨2, by kernel_rfl, by simp only [go_sem]; exact ⟨_, rfl⟩⟩
 ·exact ⟨2, by kernel_rfl, by simp only [go_sem]; exact ⟨_, rfl⟩⟩
 ·exact ⟨3, by kernel_rfl, by simp only [go_sem]; exact ⟨_, rfl⟩⟩
 ·exact ⟨3, by kernel_rfl, by simp only [go_sem]; exact ⟨_, rfl⟩⟩
 ·exact ⟨3, by kernel_rfl, by simp only [go_sem]; exact ⟨_, rfl⟩⟩
 ·exact ⟨3, by kernel_rfl, by simp only [go_sem]; exact ⟨_, rfl⟩⟩
 ·exact ⟨4, by kernel_rfl, by simp only [go_sem]; exact ⟨_, rfl⟩⟩
 ·exact ⟨4, by kernel_rfl, by simp only [go_sem]; exact ⟨_, rfl⟩⟩
 ·exact ⟨4, by kernel_rfl, by simp only [go_sem]; exact ⟨_, rfl⟩⟩
 ·exact ⟨4, by kernel_rfl, by simp only [go_sem]; exact ⟨_, rfl⟩⟩
 ·exact ⟨4, by kernel_rfl, by simp only [go_sem]; exact ⟨_, rfl⟩⟩
theorem con_lenS (n : Nat) (hn : n <= 12) : Con Tryz.prog 138 [vqC n] [] fun r _ => ∃ v, r = vi v := by
 refine Con.intro Tryz.func138 rfl Tryz.ntmps138 Tryz.results138 (by kernel_rfl) (by simp) 0 (by simp) ?_
 have hc := con_len64S n hn
 simp only [vqC] at hc
 simp only [go_sem, vqC]
 refine CallU.free hc (by simp only [go_sem]) (by simp only [go_sem]) ?_
 rintro r bx ⟨v, rfl⟩
 simp only [go_sem]
 exact ⟨v, rfl⟩
theorem ordL_ordI (a b : Int) : ordL a b = ordI a b := by unfold ordL ordI; split <;> (try split) <;> (try split) <;> omega
theorem lexI_lexC : ∀ {a b : List Int}, a.length = b.length -> lexI a b = lexC a b
 | [], [], _ => by simp [lexI, lexC]
 | x :: xs, y :: ys, h => by
  unfold lexI lexC
  have hl : xs.length = ys.length := by simpa using h
  rw [lexI_lexC hl]
  by_cases e : x = y
  ·subst e
   have : ordI x x = 0 := by unfold ordI; simp
   simp [this]
  ·have : ordI x y ≠ 0 := by rw [<- ordL_ordI, Ne, ord_zero]; exact e
   simp [this, e, ordL_ordI]
theorem ordI_ne {a b : Int} : ordI a b ≠ 0 ↔ a ≠ b := by rw [<- ordL_ordI, Ne, ord_zero]
theorem cmpTm_star {t u : TmD} (h : t.star ≠ u.star) : cmpTm t u = if u.star then -1 else 1 := by
 unfold cmpTm keyT
 rw [lexC]
 cases ht : t.star <;> cases hu : u.star
 ·exact absurd (ht.trans hu.symm) h
 ·rfl
 ·rfl
 ·exact absurd (ht.trans hu.symm) h
theorem cmpTm_same {t u : TmD} (h : t.star = u.star) : cmpTm t u = cmpI t.ls u.ls := by
 unfold cmpTm keyT
 rw [h, lexC, if_neg (by rw [ordI_ne]; simp), lexC]
 unfold cmpI
 by_cases e : t.ls.length = u.ls.length
 ·rw [if_pos e, if_neg (by rw [ordI_ne, e]; simp), lexI_lexC e]
 ·rw [if_neg e, if_pos (by rw [ordI_ne]; omega), ordL_ordI]
theorem con_r09terms (t u : TmD) (ht : t.ls.length <= 1000000) : Con Tryz.prog 112 [vTm t, vTm u] [] fun r _ => r = vi (cmpTm t u) := by
 refine Con.intro Tryz.func112 rfl Tryz.ntmps112 Tryz.results112 (by kernel_rfl) (by simp) 0 (by simp) ?_
 have hc := con_rcompareI t.ls u.ls ht
 by_cases h : t.star = u.star
 ·rw [cmpTm_same h]
  cases hs : u.star <;> (
   rw [hs] at h
   simp only [go_sem, h, hs]
   refine CallU.free hc (by simp only [go_sem]) (by simp only [go_sem]) ?_
   rintro r bx rfl
   simp only [go_sem])
 ·rw [cmpTm_star h]
  cases hs : t.star <;> cases hu : u.star
  ·exact absurd (hs.trans hu.symm) h
  ·simp only [go_sem, hs, hu]
   try rfl
  ·simp only [go_sem, hs, hu]
   try rfl
  ·exact absurd (hs.trans hu.symm) h
def cmpTree9 : Tr := .front 0 (.front 1 (.front 2 (.front 4 (.front 5 (.front 6 (.alt (.one 3 (.one 7 (.one 8 (.one 9 .done)))) (.one 7 (.one 3 (.one 8 (.one 9 .done))))))))))
theorem con_r09Compare (p q : List TmD) (hp : LenP p) (_hq : LenP q) : Con Tryz.prog 62 [vPr p, vPr q] [] fun r _ => r = vi (cmpPr p q) := by
 refine Con.intro Tryz.func62 rfl Tryz.ntmps62 Tryz.results62 (by kernel_rfl) (by simp) 0 (by simp) ?_
 have hpl := hp.len
 have hco := con_rorder p.length q.length
 unfold cmpPr thenC
 by_cases hlen : p.length = q.length
 case neg =>
  rw [if_pos (ordI_ne.2 (show (p.length : Int) ≠ q.length by omega)), <- ordL_ordI]
  have hb : ((p.length : Int) != q.length) = true := bne_iff_ne.2 (by omega)
  simp only [go_sem, hb, List.length_map]
  refine CallU.free hco (by simp only [go_sem]) (by simp only [go_sem]) ?_
  rintro r bx rfl
  simp only [go_sem]
 rw [if_neg (fun hc => ordI_ne.1 hc (show (p.length : Int) = q.length by omega))]
 have hb : ((p.length : Int) != q.length) = false := by rw [hlen]; simp
 simp only [go_sem, hb, List.length_map]
 refine LoopK.intro (fun i : Nat => ⟨35, [(0, vPr p), (1, vPr q), (5, vi i)], []⟩)
  (fun i => p.length - i) (fun i => i <= p.length /\ lexBy cmpTm (p.drop i) (q.drop i) = lexBy cmpTm p q) 0 ⟨Nat.zero_le _, rfl⟩ ?_ ?_
 ·simp only [go_sem]
 rintro i ⟨hi, he⟩
 by_cases h : i < p.length
 case neg =>
  rw [List.drop_eq_nil_of_le (show p.length <= i by omega), List.drop_eq_nil_of_le (show q.length <= i by omega)] at he
  simp only [go_sem, h, List.length_map]
  rw [<- he]; rfl
 have h2 : i < q.length := by omega
 have hg := getTm h
 have hg2 := getTm h2
 have hwi : IntKind.i64.wrap (i + 1) = i + 1 := wrap_in (by omega) (by omega)
 have ht := con_r09terms p[i]! q[i]! (hp.terms _ (mem_bangI h))
 simp only [vTm] at ht
 simp only [go_sem] at ht
 simp only [go_sem, h, List.length_map]
 refine DrawK.tree cmpTree9 mixed (by kernel_rfl) ?_
 unfold cmpTree9
 simp only [go_sem, h, h2, hg, hg2, List.length_map]
 apply andK_mk
 all_goals
  try simp only [go_sem, hg, hg2]
  refine CallU.free ht (by simp only [go_sem]) (by simp only [go_sem]) ?_
  rintro r bx rfl
  by_cases hz : cmpTm p[i]! q[i]! = 0
  ·have hz' : (cmpTm p[i]! q[i]! != 0) = false := by rw [hz]; rfl
   simp only [go_sem, hz', hwi]
   refine roundK.intro (i + 1) ⟨by omega, by rw [<- he, lexBy_drop p q i h h2 hz]⟩ (by omega) ?_
   simp only [go_sem]
  ·have hz' : (cmpTm p[i]! q[i]! != 0) = true := bne_iff_ne.2 hz
   have e : lexBy cmpTm p q = cmpTm p[i]! q[i]! := by rw [<- he, drop_bang' h, drop_bang' h2, lexBy, if_pos hz]
   simp only [go_sem, hz', e]
theorem con_r09Same (p q : List TmD) (hp : LenP p) (hq : LenP q) : Con Tryz.prog 22 [vPr p, vPr q] [] fun r _ => r = vb (decide (p = q)) := by
 refine Con.intro Tryz.func22 rfl Tryz.ntmps22 Tryz.results22 (by kernel_rfl) (by simp) 0 (by simp) ?_
 have hc := con_r09Compare p q hp hq
 simp only [vPr] at hc
 have e : (cmpPr p q == 0) = decide (p = q) := by
  rw [Bool.eq_iff_iff, beq_iff_eq, decide_eq_true_eq]; exact ord_Pr.zero p q
 simp only [go_sem]
 refine CallU.free hc (by simp only [go_sem]) (by simp only [go_sem]) ?_
 rintro r bx rfl
 simp only [go_sem, e]
theorem con_r09Normal (n : Int) (p : List TmD) (hp : LenP p) : Con Tryz.prog 21 [vi n, vPr p] [] fun r _ => r = if checkX n p = 0 then .tup [vPr (normP p), vi 0] else .tup [.nil, vi (checkX n p)] := by
 refine Con.intro Tryz.func21 rfl Tryz.ntmps21 Tryz.results21 (by kernel_rfl) (by simp) 0 (by simp) ?_
 have hc := con_r09Check n p hp
 simp only [vPr] at hc
 simp only [go_sem]
 refine CallU.free hc (by simp only [go_sem]) (by simp only [go_sem]) ?_
 rintro r bx rfl
 by_cases h : checkX n p = 0
 ·have hv := check_zero.1 h
  have hn := con_r09normal p hv.ok hp
  simp only [vPr] at hn
  rw [if_pos h]
  simp only [go_sem, h, bne_self_eq_false]
  refine CallU.free hn (by simp only [go_sem]) (by simp only [go_sem]) ?_
  rintro r bx rfl
  simp only [go_sem]
 ·have hb : (checkX n p != 0) = true := bne_iff_ne.2 h
  rw [if_neg h]
  simp only [go_sem, hb]
def cmpCl (a b : Int × List (List TmD)) : Int := if a.1 ≠ b.1 then (if a.1 < b.1 then -1 else 1) else lexBy cmpPr a.2 b.2
theorem cmpCl_self (a : Int × List (List TmD)) : cmpCl a a = 0 := by
 unfold cmpCl
 rw [if_neg (by simp)]
 exact (lexBy_zero ord_Pr _ _).2 rfl
theorem lexBy_dropP (l m : List (List TmD)) (i : Nat) (h : i < l.length) (h2 : i < m.length) (e : cmpPr l[i]! m[i]! = 0) : lexBy cmpPr (l.drop i) (m.drop i) = lexBy cmpPr (l.drop (i + 1)) (m.drop (i + 1)) := by
 rw [List.drop_eq_getElem_cons h, List.drop_eq_getElem_cons h2, lexBy, if_neg (by rw [<- getElem!_pos l i h, <- getElem!_pos m i h2]; simpa using e)]
theorem con_r31Compare (a b : Int × List (List TmD)) (ha : ∀ p ∈ a.2, LenP p) (hb : ∀ p ∈ b.2, LenP p) (hl : a.2.length <= 1000) (hab : a.2.length = b.2.length) : Con Tryz.prog 20 [vCl a.1 a.2, vCl b.1 b.2] [] fun r _ => r = vi (cmpCl a b) := by
 refine Con.intro Tryz.func20 rfl Tryz.ntmps20 Tryz.results20 (by kernel_rfl) (by simp) 0 (by simp) ?_
 unfold cmpCl
 by_cases h : a.1 = b.1
 case neg =>
  have hbq : (a.1 != b.1) = true := bne_iff_ne.2 h
  rw [if_pos h]
  by_cases hlt : a.1 < b.1
  ·rw [if_pos hlt]
   simp only [go_sem, vCl, hbq, hlt]
  ·rw [if_neg hlt]
   simp only [go_sem, vCl, hbq, hlt]
 have hbq : (a.1 != b.1) = false := by rw [h]; simp
 rw [if_neg (by simpa using h)]
 simp only [go_sem, vCl, hbq]
 refine LoopK.intro (fun i : Nat => ⟨52, [(2, .pb 0 0), (3, .pb 1 0), (5, vi i)], [[vi a.1, .sl 0 1 (a.2.map vPr)], [vi b.1, .sl 0 1 (b.2.map vPr)]]⟩)
  (fun i => a.2.length - i) (fun i => i <= a.2.length /\ lexBy cmpPr (a.2.drop i) (b.2.drop i) = lexBy cmpPr a.2 b.2) 0 ⟨Nat.zero_le _, rfl⟩ ?_ ?_
 ·simp only [go_sem]
 rintro i ⟨hi, he⟩
 by_cases h2 : i < a.2.length
 case neg =>
  have hz : IntKind.i64.wrap ((a.2.length : Int) - b.2.length) = 0 := by rw [hab, Int.sub_self]; exact wrap_in (by omega) (by omega)
  rw [List.drop_eq_nil_of_le (show a.2.length <= i by omega), List.drop_eq_nil_of_le (show b.2.length <= i by omega)] at he
  simp only [go_sem, h2, hz, List.length_map]
  rw [<- he]; rfl
 have h3 : i < b.2.length := by omega
 have hg := getPr h2
 have hg2 := getPr h3
 have hwi : IntKind.i64.wrap (i + 1) = i + 1 := wrap_in (by omega) (by omega)
 have hc := con_r09Compare a.2[i]! b.2[i]! (ha _ (mem_bangI h2)) (hb _ (mem_bangI h3))
 simp only [vPr] at hc
 simp only [go_sem, h2, h3, List.length_map]
 refine DrawK.walk 11 mixed (by kernel_rfl) ?_
 simp only [go_sem, h2, h3, hg, hg2, List.length_map]
 refine CallY.mk hc (by simp only [go_sem]) (by simp only [go_sem]) (.inl (by simp only [go_sem])) ?_
 by_cases hz : cmpPr a.2[i]! b.2[i]! = 0
 ·have hz' : (cmpPr a.2[i]! b.2[i]! != 0) = false := by rw [hz]; rfl
  simp only [go_sem, hz', hwi]
  refine roundK.intro (i + 1) ⟨by omega, by rw [<- he, lexBy_dropP a.2 b.2 i h2 h3 hz]⟩ (by omega) ?_
  simp only [go_sem]
 ·have hz' : (cmpPr a.2[i]! b.2[i]! != 0) = true := bne_iff_ne.2 hz
  have e : lexBy cmpPr a.2 b.2 = cmpPr a.2[i]! b.2[i]! := by rw [<- he, drop_bang' h2, drop_bang' h3, lexBy, if_pos hz]
  simp only [go_sem, hz', e]
def wordN (w : List Int) : AV := .ag [vi 0, .sl 0 2 (w.map kidN)]
def drawL (l : List Int) (n : Nat) : Nat -> Nat -> List Int × Nat
 | 0, a => ([], a)
 | k + 1, a => ((drawL l n k a).1 ++ [pickV l (drawL l n k a).2 n], pickA l (drawL l n k a).2)
def drawWs (l : List Int) (n most : Nat) : Nat -> Nat -> List (List Int) × Nat
 | 0, a => ([], a)
 | i + 1, a => ((drawWs l n most i a).1 ++ [(drawL l n (pickV l (drawWs l n most i a).2 (most + 1)).toNat (pickA l (drawWs l n most i a).2)).1], (drawL l n (pickV l (drawWs l n most i a).2 (most + 1)).toNat (pickA l (drawWs l n most i a).2)).2)
theorem con_dwordsF (l : List Int) (at_ : Nat) (n letters most : Nat) (hs : Seeds l) (ha : at_ <= l.length) (hn : n <= 1000) (hl : 1 <= letters /\ letters <= 1000) (hm : most <= 1000) :
  Con Tryz.prog 43 [.pb 0 0, vi n, vi letters, vi most] [diceA l at_]
  fun r b => ∃ (ws : List (List Int)) (at' : Nat), (ws, at') = drawWs l letters most n at_ /\ ws.length = n /\ (∀ w ∈ ws, w.length <= most /\ ∀ x ∈ w, 0 <= x /\ x < letters) /\ at' <= l.length /\ b = [diceA l at'] /\ r = .sl 2 2 (ws.map wordN) := by
 refine Con.intro Tryz.func43 rfl Tryz.ntmps43 Tryz.results43 (by kernel_rfl) (by simp) 1 (by simp) ?_
 have hwm : IntKind.i64.wrap ((most : Int) + 1) = most + 1 := wrap_in (by omega) (by omega)
 simp only [go_sem]
 refine LoopK.intro (fun x : List (List Int) × Nat => ⟨40, [(0, .pb 0 0), (1, vi n), (2, vi letters), (3, vi most), (9, .sl 2496 2 (x.1.map wordN)), (10, vi x.1.length)], diceA l x.2 :: Rk 2 x.1.length⟩)
  (fun x => n - x.1.length) (fun x => x.1.length <= n /\ (∀ w ∈ x.1, w.length <= most /\ ∀ y ∈ w, 0 <= y /\ y < letters) /\ x.2 <= l.length /\ x = drawWs l letters most x.1.length at_) ([], at_) ⟨Nat.zero_le _, fun w hw => absurd hw (by simp), ha, rfl⟩ ?_ ?_
 ·simp only [go_sem, List.length_nil, Rk, List.replicate_zero, List.map_nil]
  all_goals exact leB_self _
 rintro ⟨ws, a1⟩ ⟨hwl, hwk, ha1, hdW⟩
 simp only at hwl hwk ha1 hdW
 obtain ⟨i, hi⟩ : ∃ i, i = ws.length := ⟨_, rfl⟩
 rw [<- hi] at hwl hdW ⊢
 have hB := Rk_len 2 i
 have n0 := fun L : List (List AV) => app_at0 (L := L) hB
 have s0 := fun (L : List (List AV)) z => app_set0 (L := L) (z := z) hB
 by_cases h : i < n
 case neg =>
  simp only [go_sem, h]
  have ei : i = n := by omega
  exact ⟨ws, a1, by rw [hdW, ei], by omega, hwk, ha1, rfl, rfl⟩
 have hwi : IntKind.i64.wrap (i + 1) = i + 1 := wrap_in (by omega) (by omega)
 simp only [go_sem, h, hwm, hB]
 refine CallU.boxes (i := 0) (is := []) (bx0 := [diceA l a1]) (con_pickF l a1 (most + 1) hs ha1 (by omega)) (by simp only [go_sem]) (by simp only [go_sem]) (by simp only [go_sem]) (by simp only [go_sem]) (by simp only [go_sem]) ?_
 rintro r b ⟨rfl, rfl⟩
 have hv2 := pickV_lt (l := l) (at_ := a1) (n := most + 1) (by omega)
 have ha2 := pickA_le ha1
 obtain ⟨k, ek⟩ : ∃ k : Nat, pickV l a1 (most + 1) = k := ⟨_, (Int.toNat_of_nonneg hv2.1).symm⟩
 rw [ek] at hv2 ⊢
 obtain ⟨a2, ea2⟩ : ∃ a2, a2 = pickA l a1 := ⟨_, rfl⟩
 rw [<- ea2] at ha2 ⊢
 simp only [go_sem]
 refine LoopK.intro (fun x : List Int × Nat × Nat => ⟨40, [(0, .pb 0 0), (1, vi n), (2, vi letters), (3, vi most), (9, .sl 2496 2 (ws.map wordN)), (10, vi i), (11, .pb (i + 1) 0), (12, vi x.2.1)], diceA l x.2.2 :: (Rk 2 i ++ [[vi 0, .sl 2176 2 (x.1.map kidN)]])⟩)
  (fun x => x.2.1) (fun x => x.2.1 <= k /\ x.1.length = k - x.2.1 /\ (∀ y ∈ x.1, 0 <= y /\ y < letters) /\ x.2.2 <= l.length /\ (x.1, x.2.2) = drawL l letters (k - x.2.1) a2) ([], k, a2) ⟨Nat.le_refl _, by simp, fun y hy => absurd hy (by simp), ha2, by rw [show k - ([], k, a2).2.1 = 0 by simp]; rfl⟩ ?_ ?_
 ·simp only [go_sem, List.map_nil]
  all_goals exact leB_RkA (x := [[_, _]]) (y := [[_, _]]) ⟨⟨leV_refl _, leV_nil _ _, trivial⟩, trivial⟩
 rintro ⟨w, j, a3⟩ ⟨hj, hw, hwx, ha3, hdL⟩
 simp only at hj hw hwx ha3 hdL
 by_cases h0 : 0 < j
 case neg =>
  obtain rfl : j = 0 := by omega
  have hln : (ws ++ [w]).length = i + 1 := by rw [List.length_append, <- hi]; rfl
  simp only [go_sem, n0, hwi]
  refine ⟨by simp only [roomFor]; omega, ?_⟩
  refine roundK.intro (ws ++ [w], a3) ⟨by show (ws ++ [w]).length <= n; rw [hln]; omega, fun v hv => ?_, ha3, by
   show (ws ++ [w], a3) = drawWs l letters most (ws ++ [w]).length at_
   rw [hln, drawWs, <- hdW, ek, Int.toNat_natCast, <- ea2, <- show (w, a3) = drawL l letters k a2 from hdL]⟩ (by show n - (ws ++ [w]).length < n - ws.length; rw [hln]; omega) ?_
  ·rcases List.mem_append.1 hv with hv | hv
   ·exact hwk v hv
   ·rw [List.mem_singleton.1 hv]; exact ⟨by omega, hwx⟩
  simp only [go_sem, hln, List.map_append, List.map_cons, List.map_nil, Rk_succ, wordN]
  all_goals exact leB_RkA (x := [[_, _]]) (y := [List.replicate 2 .any]) ⟨⟨leV_any _, leV_any _, trivial⟩, trivial⟩
 have hwj : IntKind.i64.wrap ((j : Int) - 1) = ((j - 1 : Nat) : Int) := by rw [wrap_in (by omega) (by omega)]; omega
 have hv4 := pickV_lt (l := l) (at_ := a3) (n := letters) (by omega)
 have ha4 := pickA_le ha3
 simp only [go_sem, h0]
 refine DrawK.effs0 0 [4] [] 7 (.one 7 (.front 8 (.one 9 .done))) none (diceA l a3) mixed (by kernel_rfl) (by kernel_rfl) (by simp only [go_sem]) (by simp only [go_sem]) ?_
 simp only [go_sem, n0]
 refine EffK.mk (con_pickF l a3 letters hs ha3 (by omega)) (by simp only [go_sem]) (by simp only [go_sem]) (by simp only [go_sem]) (by simp only [go_sem]) ?_
 obtain ⟨y, ey⟩ : ∃ y, y = pickV l a3 letters := ⟨_, rfl⟩
 obtain ⟨a4, ea4⟩ : ∃ a4, a4 = pickA l a3 := ⟨_, rfl⟩
 rw [<- ey] at hv4 ⊢
 rw [<- ea4] at ha4 ⊢
 simp only [go_sem, n0, s0, hwj]
 refine ⟨⟨by simp only [roomFor]; omega, ?_⟩, trivial⟩
 refine roundK.intro (w ++ [y], j - 1, a4) ⟨by show j - 1 <= k; omega, by show (w ++ [y]).length = k - (j - 1); rw [List.length_append, hw]; simp; omega, fun z hz => ?_, ha4, by
  show (w ++ [y], a4) = drawL l letters (k - (j - 1)) a2
  rw [show k - (j - 1) = (k - j) + 1 by omega, drawL, <- hdL, ey, ea4]⟩ (by show j - 1 < j; omega) ?_
 ·rcases List.mem_append.1 hz with hz | hz
  ·exact hwx z hz
  ·rw [List.mem_singleton.1 hz]; exact hv4
 simp only [go_sem, List.map_append, List.map_cons, List.map_nil]
theorem con_dwords (l : List Int) (at_ : Nat) (n letters most : Nat) (hs : Seeds l) (ha : at_ <= l.length) (hn : n <= 1000) (hl : 1 <= letters /\ letters <= 1000) (hm : most <= 1000) :
  Con Tryz.prog 43 [.pb 0 0, vi n, vi letters, vi most] [diceA l at_]
  fun r b => ∃ (ws : List (List Int)) (at' : Nat), ws.length = n /\ (∀ w ∈ ws, w.length <= most /\ ∀ x ∈ w, 0 <= x /\ x < letters) /\ at' <= l.length /\ b = [diceA l at'] /\ r = .sl 2 2 (ws.map wordN) :=
 (con_dwordsF l at_ n letters most hs ha hn hl hm).mono fun _ _ ⟨ws, at', _, h⟩ => ⟨ws, at', h⟩
inductive TD where
 | mk (kind size : Int) (ranks : List Int) (parts : List TD)
 deriving Inhabited
def TD.kind : TD -> Int
 | .mk k _ _ _ => k
def TD.size : TD -> Int
 | .mk _ s _ _ => s
def TD.ranks : TD -> List Int
 | .mk _ _ r _ => r
def TD.parts : TD -> List TD
 | .mk _ _ _ p => p
mutual
def vT : TD -> AV
 | .mk k s r p => .ag [vi k, vi s, vs 0 r, .sl 0 4 (vTs p)]
def vTs : List TD -> List AV
 | [] => []
 | x :: l => vT x :: vTs l
end
theorem vTs_map : ∀ l : List TD, vTs l = l.map vT
 | [] => rfl
 | x :: l => by rw [vTs, vTs_map l]; rfl
theorem vT_eq (a : TD) : vT a = .ag [vi a.kind, vi a.size, vs 0 a.ranks, .sl 0 4 (a.parts.map vT)] := by cases a; rw [vT, vTs_map]; rfl
theorem getvT {l : List TD} {i : Nat} (h : i < l.length) : (l.map vT)[i]? = some (.ag [.sc (.int .i64 l[i]!.kind), .sc (.int .i64 l[i]!.size), .sl 0 1 (l[i]!.ranks.map vi), .sl 0 4 (l[i]!.parts.map vT)]) := by
 rw [List.getElem?_map, List.getElem?_eq_getElem h, getElem!_pos l i h, Option.map_some, vT_eq]; rfl
inductive TD.Ok : TD -> Prop
 | mk (k s : Int) (r : List Int) (p : List TD) : r.length <= 1000000 -> p.length <= 1000000 -> (∀ x ∈ p, TD.Ok x) -> TD.Ok (.mk k s r p)
theorem TD.Ok.rlen {a : TD} (h : a.Ok) : a.ranks.length <= 1000000 := by cases h; assumption
theorem TD.Ok.plen {a : TD} (h : a.Ok) : a.parts.length <= 1000000 := by cases h; assumption
theorem TD.Ok.part {a : TD} (h : a.Ok) {x : TD} (hx : x ∈ a.parts) : x.Ok := by cases h with | mk k s r p _ _ h2 => exact h2 x hx
def badRank (r : Int) : Bool := decide (r < 0) || decide (6 <= r)
def rankedL (l : List Int) : Bool := decide (1 <= l.length) && decide (l.length <= 6) && !l.any badRank
theorem con_pranked1 (x : Int) : Con Tryz.prog 353 [vi x] [] fun r _ => r = .sc (.bool (badRank x)) := by
 refine Con.intro Tryz.func353 rfl Tryz.ntmps353 Tryz.results353 (by kernel_rfl) (by simp) 0 (by simp) ?_
 unfold badRank
 by_cases h : x < 0
 ·simp only [go_sem, h, decide_true, Bool.true_or]
 ·simp only [go_sem, h, decide_false, Bool.false_or]
theorem con_pranked (l : List Int) (hl : l.length <= 1000000) : Con Tryz.prog 336 [vs 0 l] [] fun r _ => r = vb (rankedL l) := by
 refine Con.intro Tryz.func336 rfl Tryz.ntmps336 Tryz.results336 (by kernel_rfl) (by simp) 0 (by simp) ?_
 unfold rankedL
 by_cases h1 : 1 <= l.length
 ·have h1' : (1 : Int) <= (l.length : Int) := by omega
  by_cases h2 : l.length <= 6
  ·have h2' : (l.length : Int) <= 6 := by omega
   simp only [go_sem, List.length_map, h1', h2']
   refine CallU.free (con_containsInt l 353 [] badRank rfl (fun x _ => con_pranked1 x) (by omega)) (by simp only [go_sem]) (by simp only [go_sem]) ?_
   rintro r bx rfl
   simp only [go_sem, h1, h2, decide_true, Bool.true_and]
  ·have h2' : ¬ (l.length : Int) <= 6 := by omega
   simp only [go_sem, List.length_map, h1', h2', h1, h2, decide_true, decide_false, Bool.true_and, Bool.false_and]
 ·have h1' : ¬ (1 : Int) <= (l.length : Int) := by omega
  simp only [go_sem, List.length_map, h1', h1, decide_false, Bool.false_and]
theorem con_pvalid0 (l : List Int) (hl : l.length <= 1000000) : Con Tryz.prog 311 [vs 0 l, .nil] [] fun r _ => r = vb (rankedL l) := by
 refine Con.intro Tryz.func311 rfl Tryz.ntmps311 Tryz.results311 (by kernel_rfl) (by simp) 0 (by simp) ?_
 simp only [go_sem]
 refine CallU.free (con_pranked l hl) (by simp only [go_sem]) (by simp only [go_sem]) ?_
 rintro r bx rfl
 cases rankedL l
 ·simp only [go_sem]
 ·simp only [go_sem]
  refine CallU.look ((con_containsInt [] 337 [.fp [vs 0 l] 0] (fun _ => true) (by simp only [go_sem]) (fun x hx => by cases hx) (by simp)).leA (args' := [.nil, .fn 337 [.fp [vs 0 l] 0]]) ⟨leV_nil 0 1, leV_refl _, trivial⟩) (by simp only [go_sem]) (by simp only [go_sem]) ?_
  rintro r bx rfl
  simp only [go_sem, List.any_nil]
def TellsT (f : FuncId) (caps : List AV) (l : List TD) (p : TD -> Bool) : Prop := ∀ x ∈ l, Con Tryz.prog f ([vT x] ++ caps) [] fun r _ => r = .sc (.bool (p x))
theorem con_indexT (l : List TD) (f : FuncId) (caps : List AV) (p : TD -> Bool) (hc : mapTops (viewV []) caps = caps) (hf : TellsT f caps l p) (hl : l.length <= 9223372036854775806) : Con Tryz.prog 338 [.sl 0 4 (l.map vT), .fn f caps] [] fun r _ => r = vi (findI p l) := by
 refine Con.intro Tryz.func338 rfl Tryz.ntmps338 Tryz.results338 (by kernel_rfl) (by simp) 0 (by simp) ?_
 simp only [go_sem]
 refine LoopK.intro (fun i : Nat => ⟨19, [(0, .sl 0 4 (l.map vT)), (1, .fn f caps), (7, vi l.length), (8, vi i)], []⟩)
  (fun i => l.length - i) (fun i => i <= l.length /\ ∀ j, j < i -> p l[j]! = false) 0 ⟨by omega, fun j hj => by omega⟩ ?_ ?_
 ·simp only [go_sem]
  all_goals exact leV_refl _
 ·rintro i ⟨hi, hb⟩
  by_cases h : i < l.length
  ·have hg := getvT h
   have hw : IntKind.i64.wrap (i + 1) = i + 1 := wrap_in (by omega) (by omega)
   have hfi := hf l[i]! (mem_bangI h)
   rw [vT_eq] at hfi
   simp only [go_sem, h, hg]
   refine CallU.look hfi (by simp only [go_sem]) (by simp only [go_sem, hc]) ?_
   rintro r bx rfl
   cases hp : p l[i]!
   ·simp only [go_sem, hw]
    refine roundK.intro (i + 1) ⟨by omega, fun j hj => ?_⟩ (by omega) ?_
    ·by_cases hji : j = i
     ·subst hji; exact hp
     ·exact hb j (by omega)
    ·simp only [go_sem]
   ·simp only [go_sem]
    rw [findI_stop h hb hp]
  ·simp only [go_sem, h]
   rw [findI_none (fun j hj => hb j (by omega))]
theorem con_containsT (l : List TD) (f : FuncId) (caps : List AV) (p : TD -> Bool) (hc : mapTops (viewV []) caps = caps) (hf : TellsT f caps l p) (hl : l.length <= 9223372036854775806) : Con Tryz.prog 312 [.sl 0 4 (l.map vT), .fn f caps] [] fun r _ => r = .sc (.bool (l.any p)) := by
 refine Con.intro Tryz.func312 rfl Tryz.ntmps312 Tryz.results312 (by kernel_rfl) (by simp) 0 (by simp) ?_
 simp only [go_sem]
 refine CallU.look (con_indexT l f caps p hc hf hl) (by simp only [go_sem]) (by simp only [go_sem]) ?_
 rintro r bx rfl
 simp only [go_sem, findI_ge]
def rightT : Nat -> TD -> Bool
 | 0, _ => false
 | d + 1, t =>
  if 0 < t.ranks.length /\ t.kind ≠ 7 then false
  else if t.kind = 1 then t.parts.length == 0 && t.size == 0
  else if t.kind = 2 \/ t.kind = 6 then t.parts.length == 0 && decide (1 <= t.size) && decide (t.size <= 16)
  else if t.kind = 7 then t.parts.length == 0 && t.size == t.ranks.length && rankedL t.ranks
  else if t.kind = 3 then t.size == 0 && !(t.parts.length == 0) && decide (t.parts.length <= 8) && !t.parts.any fun p => !rightT d p
  else if t.kind = 4 \/ t.kind = 5 then t.size == 0 && t.parts.length == 1 && !t.parts.any fun p => !rightT d p
  else false
theorem con_oright : ∀ (d : Nat) (t : TD), d <= 100 -> t.Ok -> Con Tryz.prog 253 [vT t, vi d] [] fun r _ => r = vb (rightT d t) := by
 intro d
 induction d with
 | zero =>
  intro t _ ht
  rw [vT_eq]
  refine Con.intro Tryz.func253 rfl Tryz.ntmps253 Tryz.results253 (by kernel_rfl) (by simp) 2 (by simp) ?_
  have h0 : (((0 : Nat) : Int) == 0) = true := rfl
  simp only [go_sem, rightT]
 | succ d ih =>
  intro t hd ht
  have hrl := ht.rlen
  have hpl := ht.plen
  have hcall : ∀ x ∈ t.parts, Con Tryz.prog 313 [vT x, .fp [vi ((d + 1 : Nat) : Int)] 0] [] fun r _ => r = .sc (.bool (!rightT d x)) := fun x hx => by
   rw [vT_eq]
   refine Con.intro Tryz.func313 rfl Tryz.ntmps313 Tryz.results313 (by kernel_rfl) (by simp) 1 (by simp) ?_
   have hw : IntKind.i64.wrap ((d : Int) + 1 - 1) = (d : Int) := by rw [wrap_in (by omega) (by omega)]; omega
   simp only [go_sem, hw]
   refine CallU.free (ih x (by omega) (ht.part hx)) (by simp only [go_sem]) (by simp only [go_sem, vT_eq]) ?_
   rintro r bx rfl
   simp only [go_sem]
  have hcon := con_containsT t.parts 313 [.fp [vi ((d + 1 : Nat) : Int)] 0] (fun x => !rightT d x) (by simp only [go_sem]) hcall (by omega)
  rw [vT_eq]
  refine Con.intro Tryz.func253 rfl Tryz.ntmps253 Tryz.results253 (by kernel_rfl) (by simp) 2 (by simp) ?_
  have h0 : (((d + 1 : Nat) : Int) == 0) = false := beq_eq_false_iff_ne.2 (by omega)
  have hzp : ((t.parts.length : Int) == 0) = (t.parts.length == 0) := zero_len _
  have h0 : ((d : Int) + 1 == 0) = false := beq_eq_false_iff_ne.2 (by omega)
  by_cases hbad : 0 < t.ranks.length /\ t.kind ≠ 7
  ·have e : rightT (d + 1) t = false := by unfold rightT; rw [if_pos hbad]
   have h1 := hbad.1
   have h2 : (t.kind != 7) = true := bne_iff_ne.2 hbad.2
   simp only [go_sem, h0, h1, h2, List.length_map, e]
  have e : rightT (d + 1) t = if t.kind = 1 then t.parts.length == 0 && t.size == 0
    else if t.kind = 2 \/ t.kind = 6 then t.parts.length == 0 && decide (1 <= t.size) && decide (t.size <= 16)
    else if t.kind = 7 then t.parts.length == 0 && t.size == t.ranks.length && rankedL t.ranks
    else if t.kind = 3 then t.size == 0 && !(t.parts.length == 0) && decide (t.parts.length <= 8) && !t.parts.any fun p => !rightT d p
    else if t.kind = 4 \/ t.kind = 5 then t.size == 0 && t.parts.length == 1 && !t.parts.any fun p => !rightT d p
    else false := by rw [rightT, if_neg hbad]
  rw [e]
  have hgo : (0 < t.ranks.length) = False \/ ((0 < t.ranks.length) = True /\ t.kind = 7) := by
   by_cases h : 0 < t.ranks.length
   ·exact .inr ⟨eq_true h, Classical.byContradiction fun hk => hbad ⟨h, hk⟩⟩
   ·exact .inl (eq_false h)
  by_cases k7 : t.kind = 7
  ·have hp := con_pvalid0 t.ranks hrl
   have hne : (t.kind != 7) = false := by rw [k7]; rfl
   have b1 : (t.kind == 1) = false := by rw [k7]; rfl
   have b2 : (t.kind == 2) = false := by rw [k7]; rfl
   have b6 : (t.kind == 6) = false := by rw [k7]; rfl
   have b7 : (t.kind == 7) = true := by rw [k7]; rfl
   rw [if_neg (by omega), if_neg (by omega), if_pos k7]
   rcases hgo with hgo | ⟨hgo, _⟩
   all_goals
    cases hz : t.parts.length == 0
    ·simp only [go_sem, h0, hgo, hne, b1, b2, b6, b7, hzp, hz, List.length_map, Bool.false_and]
    ·cases hsz : t.size == (t.ranks.length : Int)
     ·simp only [go_sem, h0, hgo, hne, b1, b2, b6, b7, hzp, hz, hsz, List.length_map, Bool.false_and, Bool.and_false]
     ·simp only [go_sem, h0, hgo, hne, b1, b2, b6, b7, hzp, hz, hsz, List.length_map]
      refine CallU.free hp (by simp only [go_sem]) (by simp only [go_sem]) ?_
      rintro r bx rfl
      simp only [go_sem, Bool.true_and]
  have hgo : (0 < t.ranks.length) = False := hgo.resolve_right fun h => k7 h.2
  by_cases k1 : t.kind = 1
  ·have b1 : (t.kind == 1) = true := beq_iff_eq.2 k1
   rw [if_pos k1]
   cases hz : t.parts.length == 0
   ·simp only [go_sem, h0, hgo, b1, hzp, hz, List.length_map, Bool.false_and]
   ·simp only [go_sem, h0, hgo, b1, hzp, hz, List.length_map, Bool.true_and]
  have b1 : (t.kind == 1) = false := beq_eq_false_iff_ne.2 k1
  rw [if_neg k1]
  by_cases k26 : t.kind = 2 \/ t.kind = 6
  ·rw [if_pos k26]
   have b26 : (t.kind == 2) = true \/ ((t.kind == 2) = false /\ (t.kind == 6) = true) := by
    rcases k26 with h | h
    ·exact .inl (beq_iff_eq.2 h)
    ·exact .inr ⟨beq_eq_false_iff_ne.2 (by omega), beq_iff_eq.2 h⟩
   rcases b26 with b2 | ⟨b2, b6⟩
   case' inl =>
    cases hz : t.parts.length == 0
    ·simp only [go_sem, h0, hgo, b1, b2, hzp, hz, List.length_map, Bool.false_and]
    ·by_cases hs1 : 1 <= t.size
     ·simp only [go_sem, h0, hgo, b1, b2, hzp, hz, List.length_map, Bool.true_and, hs1, decide_true]
     ·simp only [go_sem, h0, hgo, b1, b2, hzp, hz, List.length_map, Bool.true_and, hs1, decide_false, Bool.false_and]
   case' inr =>
    cases hz : t.parts.length == 0
    ·simp only [go_sem, h0, hgo, b1, b2, b6, hzp, hz, List.length_map, Bool.false_and]
    ·by_cases hs1 : 1 <= t.size
     ·simp only [go_sem, h0, hgo, b1, b2, b6, hzp, hz, List.length_map, Bool.true_and, hs1, decide_true]
     ·simp only [go_sem, h0, hgo, b1, b2, b6, hzp, hz, List.length_map, Bool.true_and, hs1, decide_false, Bool.false_and]
  have b2 : (t.kind == 2) = false := beq_eq_false_iff_ne.2 (by omega)
  have b6 : (t.kind == 6) = false := beq_eq_false_iff_ne.2 (by omega)
  have b7 : (t.kind == 7) = false := beq_eq_false_iff_ne.2 k7
  rw [if_neg k26, if_neg k7]
  by_cases k3 : t.kind = 3
  ·have b3 : (t.kind == 3) = true := beq_iff_eq.2 k3
   rw [if_pos k3]
   cases hsz : t.size == 0
   ·have hsz' : (t.size != 0) = true := by unfold bne; rw [hsz]; rfl
    simp only [go_sem, h0, hgo, b1, b2, b6, b7, b3, hsz', List.length_map, Bool.false_and]
   ·have hsz' : (t.size != 0) = false := by unfold bne; rw [hsz]; rfl
    cases hz : t.parts.length == 0
    ·by_cases h8 : t.parts.length <= 8
     ·have h8' : ¬ (8 : Int) < (t.parts.length : Int) := by omega
      simp only [go_sem, h0, hgo, b1, b2, b6, b7, b3, hzp, hz, hsz', h8', List.length_map]
      refine CallU.look hcon (by simp only [go_sem]) (by simp only [go_sem]) ?_
      rintro r bx rfl
      simp only [go_sem, h8, decide_true, Bool.true_and]
     ·have h8' : (8 : Int) < (t.parts.length : Int) := by omega
      simp only [go_sem, h0, hgo, b1, b2, b6, b7, b3, hzp, hz, hsz', h8', h8, List.length_map, decide_false, Bool.and_false, Bool.false_and]
    ·simp only [go_sem, h0, hgo, b1, b2, b6, b7, b3, hzp, hz, hsz', List.length_map, Bool.not_true, Bool.and_false, Bool.false_and]
  have b3 : (t.kind == 3) = false := beq_eq_false_iff_ne.2 k3
  rw [if_neg k3]
  by_cases k45 : t.kind = 4 \/ t.kind = 5
  ·rw [if_pos k45]
   have h1p : ((t.parts.length : Int) != 1) = !(t.parts.length == 1) := by
    unfold bne
    congr 1
    rw [Bool.eq_iff_iff]; simp; omega
   have b45 : (t.kind == 4) = true \/ ((t.kind == 4) = false /\ (t.kind == 5) = true) := by
    rcases k45 with h | h
    ·exact .inl (beq_iff_eq.2 h)
    ·exact .inr ⟨beq_eq_false_iff_ne.2 (by omega), beq_iff_eq.2 h⟩
   cases hsz : t.size == 0
   ·have hsz' : (t.size != 0) = true := by unfold bne; rw [hsz]; rfl
    rcases b45 with b4 | ⟨b4, b5⟩
    ·simp only [go_sem, h0, hgo, b1, b2, b6, b7, b3, b4, hsz', List.length_map, Bool.false_and]
    ·simp only [go_sem, h0, hgo, b1, b2, b6, b7, b3, b4, b5, hsz', List.length_map, Bool.false_and]
   ·have hsz' : (t.size != 0) = false := by unfold bne; rw [hsz]; rfl
    cases hz : t.parts.length == 1
    ·rcases b45 with b4 | ⟨b4, b5⟩
     ·simp only [go_sem, h0, hgo, b1, b2, b6, b7, b3, b4, hsz', h1p, hz, List.length_map, Bool.not_false, Bool.and_false, Bool.false_and]
     ·simp only [go_sem, h0, hgo, b1, b2, b6, b7, b3, b4, b5, hsz', h1p, hz, List.length_map, Bool.not_false, Bool.and_false, Bool.false_and]
    ·rcases b45 with b4 | ⟨b4, b5⟩
     case' inl =>
      simp only [go_sem, h0, hgo, b1, b2, b6, b7, b3, b4, hzp, hsz', h1p, hz, List.length_map, Bool.not_true]
     case' inr =>
      simp only [go_sem, h0, hgo, b1, b2, b6, b7, b3, b4, b5, hzp, hsz', h1p, hz, List.length_map, Bool.not_true]
     all_goals
      refine CallU.look hcon (by simp only [go_sem]) (by simp only [go_sem]) ?_
      rintro r bx rfl
      simp only [go_sem, Bool.true_and]
  have b4 : (t.kind == 4) = false := beq_eq_false_iff_ne.2 (by omega)
  have b5 : (t.kind == 5) = false := beq_eq_false_iff_ne.2 (by omega)
  rw [if_neg k45]
  simp only [go_sem, h0, hgo, b1, b2, b6, b7, b3, b4, b5, List.length_map]
def checkT (t : TD) : Int := if rightT 8 t then 0 else 6
theorem con_oCheck (t : TD) (ht : t.Ok) : Con Tryz.prog 161 [vT t] [] fun r _ => r = vi (checkT t) := by
 rw [vT_eq]
 refine Con.intro Tryz.func161 rfl Tryz.ntmps161 Tryz.results161 (by kernel_rfl) (by simp) 1 (by simp) ?_
 have hr := con_oright 8 t (by omega) ht
 unfold checkT
 simp only [go_sem]
 refine CallU.free hr (by simp only [go_sem]) (by simp only [go_sem, vT_eq]) ?_
 rintro r bx rfl
 cases rightT 8 t
 ·simp only [go_sem, Bool.false_eq_true, if_false]
 ·simp only [go_sem, if_true]
def TellsV (f : FuncId) (caps : List AV) (l : List CV) (p : CV -> Bool) : Prop := ∀ x ∈ l, Con Tryz.prog f ([vV x] ++ caps) [] fun r _ => r = .sc (.bool (p x))
theorem con_indexVal (l : List CV) (f : FuncId) (caps : List AV) (p : CV -> Bool) (hc : mapTops (viewV []) caps = caps) (hf : TellsV f caps l p) (hl : l.length <= 9223372036854775807) : Con Tryz.prog 317 [.sl 0 2 (l.map vV), .fn f caps] [] fun r _ => r = vi (findI p l) := by
 refine Con.intro Tryz.func317 rfl Tryz.ntmps317 Tryz.results317 (by kernel_rfl) (by simp) 0 (by simp) ?_
 simp only [go_sem]
 refine LoopK.intro (fun i : Nat => ⟨19, [(0, .sl 0 2 (l.map vV)), (1, .fn f caps), (7, vi l.length), (8, vi i)], []⟩)
  (fun i => l.length - i) (fun i => i <= l.length /\ ∀ j, j < i -> p l[j]! = false) 0 ⟨by omega, fun j hj => by omega⟩ ?_ ?_
 ·simp only [go_sem]
  all_goals exact leV_refl _
 ·rintro i ⟨hi, hb⟩
  by_cases h : i < l.length
  ·have hg := getvV h
   have hw : IntKind.i64.wrap (i + 1) = i + 1 := wrap_in (by omega) (by omega)
   have hfi := hf l[i]! (mem_bangI h)
   rw [vV_eq] at hfi
   simp only [go_sem, h, hg]
   refine CallU.look hfi (by simp only [go_sem]) (by simp only [go_sem, hc]) ?_
   rintro r bx rfl
   cases hp : p l[i]!
   ·simp only [go_sem, hw]
    refine roundK.intro (i + 1) ⟨by omega, fun j hj => ?_⟩ (by omega) ?_
    ·by_cases hji : j = i
     ·subst hji; exact hp
     ·exact hb j (by omega)
    ·simp only [go_sem]
   ·simp only [go_sem]
    rw [findI_stop h hb hp]
  ·simp only [go_sem, h]
   rw [findI_none (fun j hj => hb j (by omega))]
theorem con_containsVal (l : List CV) (f : FuncId) (caps : List AV) (p : CV -> Bool) (hc : mapTops (viewV []) caps = caps) (hf : TellsV f caps l p) (hl : l.length <= 9223372036854775807) : Con Tryz.prog 260 [.sl 0 2 (l.map vV), .fn f caps] [] fun r _ => r = .sc (.bool (l.any p)) := by
 refine Con.intro Tryz.func260 rfl Tryz.ntmps260 Tryz.results260 (by kernel_rfl) (by simp) 0 (by simp) ?_
 simp only [go_sem]
 refine CallU.look (con_indexVal l f caps p hc hf hl) (by simp only [go_sem]) (by simp only [go_sem]) ?_
 rintro r bx rfl
 simp only [go_sem, findI_ge]
def labelB (size : Int) (v : CV) : Bool := decide (0 <= v.n) && decide (v.n < size) && v.kids.length == 0
mutual
def taggedV : CV -> Int -> Bool
 | .mk n kids, size => decide (0 <= n) && decide (n < size) && taggedVs kids size
def taggedVs : List CV -> Int -> Bool
 | [], _ => true
 | x :: l, size => taggedV x size && taggedVs l size
end
theorem taggedVs_any : ∀ (l : List CV) (size : Int), taggedVs l size = !l.any fun x => !taggedV x size
 | [], _ => by simp [taggedVs]
 | x :: l, size => by rw [taggedVs, taggedVs_any l, List.any_cons]; cases taggedV x size <;> simp
theorem tagged_eq (v : CV) (size : Int) : taggedV v size = (decide (0 <= v.n) && decide (v.n < size) && !v.kids.any fun x => !taggedV x size) := by
 cases v; rw [taggedV, taggedVs_any]; rfl
theorem con_tagged : ∀ (s : Nat) (v : CV) (size : Int), SizeOf.sizeOf v <= s -> v.Ok -> Con Tryz.prog 259 [vV v, vi size] [] fun r _ => r = vb (taggedV v size) := by
 intro s
 induction s with
 | zero => intro v _ hs; cases v; rw [CV.mk.sizeOf_spec] at hs; omega
 | succ s ih =>
  intro v size hs hv
  have hlen := hv.len
  have hcall : ∀ x ∈ v.kids, Con Tryz.prog 316 [vV x, .fp [vi size] 0] [] fun r _ => r = .sc (.bool (!taggedV x size)) := fun x hx => by
   rw [vV_eq]
   refine Con.intro Tryz.func316 rfl Tryz.ntmps316 Tryz.results316 (by kernel_rfl) (by simp) 1 (by simp) ?_
   simp only [go_sem]
   refine CallU.free (ih x size (by have := kid_size hx; omega) (hv.kid hx)) (by simp only [go_sem]) (by simp only [go_sem, vV_eq]) ?_
   rintro r bx rfl
   simp only [go_sem]
  have hcon := con_containsVal v.kids 316 [.fp [vi size] 0] (fun x => !taggedV x size) (by simp only [go_sem]) hcall hlen
  rw [vV_eq, tagged_eq]
  refine Con.intro Tryz.func259 rfl Tryz.ntmps259 Tryz.results259 (by kernel_rfl) (by simp) 2 (by simp) ?_
  by_cases h1 : 0 <= v.n
  ·by_cases h2 : v.n < size
   ·simp only [go_sem, h1, h2]
    refine CallU.look hcon (by simp only [go_sem]) (by simp only [go_sem]) ?_
    rintro r bx rfl
    simp only [go_sem, decide_true, Bool.true_and]
   ·simp only [go_sem, h1, h2, decide_true, decide_false, Bool.true_and, Bool.false_and]
  ·simp only [go_sem, h1, decide_false, Bool.false_and]
def sortedB (l : List CV) : Bool := (List.range l.length).all fun i => i == 0 || !decide (cmpV l[i]! l[i - 1]! < 0)
theorem sorted_bad {l : List CV} {i : Nat} (h : i < l.length) (h0 : i ≠ 0) (hb : cmpV l[i]! l[i - 1]! < 0) : sortedB l = false := by
 unfold sortedB
 rw [List.all_eq_false]
 refine ⟨i, List.mem_range.2 h, ?_⟩
 rw [decide_eq_true hb, beq_eq_false_iff_ne.2 h0]; simp
theorem sorted_good {l : List CV} (h : ∀ i, i < l.length -> i ≠ 0 -> ¬ cmpV l[i]! l[i - 1]! < 0) : sortedB l = true := by
 unfold sortedB
 rw [List.all_eq_true]
 intro i hi
 have hi := List.mem_range.1 hi
 by_cases h0 : i = 0
 ·rw [h0]; simp
 ·rw [decide_eq_false (h i hi h0)]; simp
def sortedTree : Tr := .front 0 (.front 1 (.front 2 (.front 3 (.front 5 (.front 6 (.alt (.one 4 (.one 7 (.front 8 (.one 9 (.one 10 (.one 11 .done)))))) (.one 7 (.front 8 (.alt (.one 4 (.one 9 (.one 10 (.one 11 .done)))) (.one 9 (.one 4 (.one 10 (.one 11 .done)))))))))))))
theorem con_isSortedV (l : List CV) (hl : l.length <= 9223372036854775807) (hk : ∀ x ∈ l, x.Ok) : Con Tryz.prog 257 [.sl 0 2 (l.map vV), .fn 258 []] [] fun r _ => r = vb (sortedB l) := by
 refine Con.intro Tryz.func257 rfl Tryz.ntmps257 Tryz.results257 (by kernel_rfl) (by simp) 0 (by simp) ?_
 have hw0 : IntKind.i64.wrap ((l.length : Int) - 1) = (l.length : Int) - 1 := wrap_in (by omega) (by omega)
 simp only [go_sem, List.length_map, hw0]
 refine LoopK.intro (fun k : Nat => ⟨25, [(0, .sl 0 2 (l.map vV)), (1, .fn 258 []), (5, vi ((l.length : Int) - 1 - k))], []⟩)
  (fun k => l.length - k) (fun k => k <= l.length /\ ∀ i, i < l.length -> l.length - 1 - k < i -> i ≠ 0 -> ¬ cmpV l[i]! l[i - 1]! < 0) 0 ⟨by omega, fun i h1 h2 => by omega⟩ ?_ ?_
 ·simp only [go_sem]
  all_goals exact leV_int (by omega)
 rintro k ⟨hk1, hb⟩
 by_cases h : (0 : Int) < (l.length : Int) - 1 - k
 ·obtain ⟨i, ei, hi0, hil⟩ : ∃ i : Nat, (l.length : Int) - 1 - k = i /\ 1 <= i /\ i < l.length := ⟨l.length - 1 - k, by omega, by omega, by omega⟩
  have h2 : i - 1 < l.length := by omega
  have g1 := getvV hil
  have g2 := getvV h2
  have hc := con_compare _ l[i]! l[i - 1]! (Nat.le_refl _) (hk _ (mem_bangI hil)) (hk _ (mem_bangI h2))
  rw [vV_eq, vV_eq] at hc
  have hw : IntKind.i64.wrap ((i : Int) - 1) = ((i - 1 : Nat) : Int) := by rw [wrap_in (by omega) (by omega)]; omega
  have hi0' : (0 : Int) < (i : Int) := by omega
  rw [ei]
  simp only [go_sem, hi0']
  refine DrawK.meet ⟨25, [(0, .sl 0 2 (l.map vV)), (1, .fn 258 []), (5, vi i), (24, vb (decide (cmpV l[i]! l[i - 1]! < 0)))], []⟩ ?_ ?_
  ·refine DrawK.tree sortedTree mixed (by kernel_rfl) ?_
   unfold sortedTree
   repeat' (first | with_reducible apply andK_mk | (refine CallU.free hc (by simp only [go_sem]) (by simp only [go_sem]) ?_; rintro x bx rfl) | simp only [go_sem, hil, g1, hw, h2, g2])
  ·by_cases hneg : cmpV l[i]! l[i - 1]! < 0
   ·simp only [go_sem, hneg, decide_true, sorted_bad hil (by omega) hneg]
   ·have hw2 : IntKind.i64.wrap ((i : Int) - 1) = (l.length : Int) - 1 - ((k + 1 : Nat) : Int) := by rw [wrap_in (by omega) (by omega)]; omega
    simp only [go_sem, hneg, decide_false, hw2]
    refine roundK.intro (k + 1) ⟨by omega, fun j h1 h2 h3 => ?_⟩ (by omega) ?_
    ·by_cases hji : j = i
     ·subst hji; exact hneg
     ·exact hb j h1 (by omega) h3
    ·simp only [go_sem]
 ·have e : sortedB l = true := sorted_good fun i h1 h2 => hb i h1 (by omega) h2
  simp only [go_sem, h, e]
end Go.AM
