/-
 Walks: the order of products (chapter 9).
-/
import Derived.Test.YtlcckmmibeddeaaX1
namespace Go.AM
open Go Go.Proofs Go.RowKit
set_option maxRecDepth 100000
set_option maxHeartbeats 8000000
section
variable {P : Program}
theorem evLookup_bi {T' : TypeId} {K : AV -> Prop} {t' : Nat} {k e : TypeId} {D : DataW Unit} {s : Bool} {q : Nat × Nat × Option Value} (hT : P.underlying T' = some (.map k e)) (hk : P.underlying k = some .bool) (he : P.underlying e = some (.int .i64))
  (hq : tinfo P e = some q) (hz : q.2.2 = some (.int .i64 0)) (h : K (.sc (.int .i64 (intAt .i64 D (.bool s))))) : evLookup P T' (.mp t' P k e D) (.sc (.bool s)) K := by
 unfold evLookup
 refine ⟨rfl, hT, by rw [hk]; rfl, _, Go.Maps.keyOf_bool_mk hk s, q, hq, ?_⟩
 rw [he]; exact ⟨hz, h⟩
theorem evMapPut_bi {T' : TypeId} {σ : St} {K : St -> Prop} {t' : Nat} {k e : TypeId} {D : DataW Unit} {s : Bool} {x : Int} (hT : P.underlying T' = some (.map k e)) (hk : P.underlying k = some .bool) (he : P.underlying e = some (.int .i64))
  (hx : (Lit.int .i64 x).wf = true) (hl : mapLen D < 9223372036854775807) (h : K (σ.map (putMap t' P k e (D.put (.bool s) (.lit (.int .i64 x)))))) : evMapPut P T' σ (.mp t' P k e D) (.sc (.bool s)) (.sc (.int .i64 x)) K := by
 unfold evMapPut
 exact ⟨rfl, hT, by rw [hk]; rfl, hl, _, _, Go.Maps.keyOf_bool_mk hk s, plainElem_int he hx, h⟩
end
theorem con_xorder (t u : TmD) (ht : t.ls.length <= 1000000) (_hu : u.ls.length <= 1000000) : Con Try.prog 87 [vTm t, vTm u] [] fun r _ => r = vi (cmpTm t u) := by
 refine Con.intro Try.func87 rfl Try.ntmps87 Try.results87 (by kernel_rfl) (by simp) 0 (by simp) ?_
 simp only [go_sem]
 refine evMapPut_bi (k := 4) (e := 3) Try.underlying114 Try.underlying4 Try.underlying3 (by decide) (by decide) ?_
 simp only [go_sem]
 refine DrawK.walk 21 mixed (by kernel_rfl) ?_
 simp only [go_sem]
 have hat : ∀ s : Bool, intAt .i64 ((DataW.map []).put (Lit.bool true) (DataW.lit (Lit.int IntKind.i64 1))) (.bool s) = if s then 1 else 0 := by decide
 refine evLookup_bi (k := 4) (e := 3) Try.underlying114 Try.underlying4 Try.underlying3 tinfo_3 rfl ?_
 refine evLookup_bi (k := 4) (e := 3) Try.underlying114 Try.underlying4 Try.underlying3 tinfo_3 rfl ?_
 rw [hat, hat]
 refine CallY.mk (con_cmpI (if t.star then 1 else 0) (if u.star then 1 else 0)) (by simp only [go_sem]) (by simp only [go_sem]) (.inl (by simp only [go_sem])) ?_
 simp only [go_sem]
 refine CallY.mk (con_cmpI t.ls.length u.ls.length) (by simp only [go_sem]) (by simp only [go_sem]) (.inl (by simp only [go_sem])) ?_
 simp only [go_sem]
 refine CallY.mk (con_lexC t.ls u.ls ht) (by simp only [go_sem]) (by simp only [go_sem]) (.inl (by simp only [go_sem])) ?_
 simp only [go_sem]
 have co := con_or [ordI (if t.star then 1 else 0) (if u.star then 1 else 0), ordI t.ls.length u.ls.length, lexC t.ls u.ls] (by simp)
 simp only [vs, List.map_cons, List.map_nil] at co
 refine CallU.freeze co (by simp only [go_sem]) (by simp only [go_sem]) ?_
 rintro r bx rfl
 simp only [go_sem]
 congr 2
 unfold cmpTm keyT
 rw [lexC, lexC]
 unfold orF
 by_cases h1 : ordI (if t.star then 1 else 0) (if u.star then 1 else 0) = 0
 ·by_cases h2 : ordI t.ls.length u.ls.length = 0
  ·by_cases h3 : lexC t.ls u.ls = 0
   ·simp [h1, h2, h3]
   ·simp [h1, h2, h3]
  ·simp [h1, h2]
 ·simp [h1]
theorem lexBy_drop (l m : List TmD) (i : Nat) (h : i < l.length) (h2 : i < m.length) (e : cmpTm l[i]! m[i]! = 0) : lexBy cmpTm (l.drop i) (m.drop i) = lexBy cmpTm (l.drop (i + 1)) (m.drop (i + 1)) := by
 rw [List.drop_eq_getElem_cons h, List.drop_eq_getElem_cons h2, lexBy, <- getElem!_pos l i h, <- getElem!_pos m i h2]
 rw [if_neg (by rw [e]; simp)]
theorem con_xcompareFunc (p q : List TmD) (hp : LenP p) (hq : LenP q) : Con Try.prog 86 [vPr p, vPr q, .fn 87 []] [] fun r _ => r = vi (lexBy cmpTm p q) := by
 refine Con.intro Try.func86 rfl Try.ntmps86 Try.results86 (by kernel_rfl) (by simp) 0 (by simp) ?_
 have hpl := hp.len
 have hql := hq.len
 simp only [go_sem]
 refine LoopK.intro (fun i : Nat => ⟨39, [(0, vPr p), (1, vPr q), (2, .fn 87 []), (11, vPr p), (12, vi p.length), (13, vi i)], Rk 2 (2 * i)⟩)
  (fun i => p.length - i) (fun i => i <= p.length /\ i <= q.length /\ lexBy cmpTm p q = lexBy cmpTm (p.drop i) (q.drop i)) 0 ⟨Nat.zero_le _, Nat.zero_le _, rfl⟩ ?_ ?_
 ·simp only [go_sem, Rk, List.replicate]
 rintro i ⟨hi, hi2, he⟩
 have hB := Rk_len 2 (2 * i)
 have n0 := fun L : List (List AV) => app_at0 (L := L) hB
 have n1 := fun L : List (List AV) => app_at1 (L := L) hB
 have s0 := fun (L : List (List AV)) z => app_set0 (L := L) (z := z) hB
 have s1 := fun (L : List (List AV)) z => app_set1 (L := L) (z := z) hB
 have e2 : Rk 2 (2 * (i + 1)) = Rk 2 (2 * i) ++ [List.replicate 2 .any, List.replicate 2 .any] := Rk_succ2 2 (2 * i)
 have hwi : IntKind.i64.wrap (i + 1) = i + 1 := wrap_in (by omega) (by omega)
 by_cases h : i < p.length
 case neg =>
  have ep : p.drop i = [] := List.drop_eq_nil_of_le (by omega)
  rw [ep] at he
  by_cases hlt : p.length < q.length
  ·rw [List.drop_eq_getElem_cons (show i < q.length by omega)] at he
   simp only [go_sem, h, hlt, List.length_map]
   rw [he]; rfl
  ·rw [List.drop_eq_nil_of_le (show q.length <= i by omega)] at he
   simp only [go_sem, h, hlt, List.length_map]
   rw [he]; rfl
 have hg := getTm h
 by_cases h2 : i < q.length
 case neg =>
  have h2' : q.length <= i := by omega
  rw [List.drop_eq_getElem_cons h, List.drop_eq_nil_of_le h2'] at he
  simp only [go_sem, h, hg, hB, n0, s0, h2', List.length_map]
  rw [he]; rfl
 have h2' : ¬ q.length <= i := by omega
 have hg2 := getTm h2
 have co := con_xorder p[i]! q[i]! (hp.terms _ (mem_bangI h)) (hq.terms _ (mem_bangI h2))
 simp only [vTm] at co
 simp only [go_sem] at co
 simp only [go_sem, h, hg, hB, n0, s0, n1, s1, h2, h2', hg2, List.length_map, List.append_assoc, List.cons_append, List.nil_append, List.length_append, List.length_cons, List.length_nil, Nat.zero_add]
 refine CallU.free co (by simp only [go_sem]) (by simp only [go_sem]) ?_
 rintro r bx rfl
 by_cases hz : cmpTm p[i]! q[i]! = 0
 ·have hz' : (cmpTm p[i]! q[i]! != 0) = false := by rw [hz]; rfl
  simp only [go_sem, hz', hwi]
  refine roundK.intro (i + 1) ⟨by omega, by omega, by rw [he, lexBy_drop p q i h h2 hz]⟩ (by omega) ?_
  simp only [go_sem, e2]
  all_goals trace_state
 ·have hz' : (cmpTm p[i]! q[i]! != 0) = true := bne_iff_ne.2 hz
  rw [List.drop_eq_getElem_cons h, List.drop_eq_getElem_cons h2, lexBy, <- getElem!_pos p i h, <- getElem!_pos q i h2, if_pos hz] at he
  simp only [go_sem, hz', he]
theorem con_xCompare (p q : List TmD) (hp : LenP p) (hq : LenP q) : Con Try.prog 70 [vPr p, vPr q] [] fun r _ => r = vi (cmpPr p q) := by
 refine Con.intro Try.func70 rfl Try.ntmps70 Try.results70 (by kernel_rfl) (by simp) 0 (by simp) ?_
 have hc := con_xcompareFunc p q hp hq
 simp only [vPr] at hc
 have co := con_or [ordI p.length q.length, lexBy cmpTm p q] (by simp)
 simp only [vs, List.map_cons, List.map_nil] at co
 simp only [go_sem]
 refine CallU.free (con_cmpI p.length q.length) (by simp only [go_sem]) (by simp only [go_sem]) ?_
 rintro r bx rfl
 simp only [go_sem]
 refine CallU.free hc (by simp only [go_sem]) (by simp only [go_sem]) ?_
 rintro r bx rfl
 simp only [go_sem]
 refine CallU.freeze co (by simp only [go_sem]) (by simp only [go_sem]) ?_
 rintro r bx rfl
 simp only [go_sem]
 congr 2
 unfold cmpPr thenC orF
 by_cases h1 : ordI p.length q.length = 0
 ·by_cases h2 : lexBy cmpTm p q = 0
  ·simp [h1, h2]
  ·simp [h1, h2]
 ·simp [h1]
end Go.AM
