/- TR -/
import Derived.Test.YtapjfgddbfneaaaGreatg25
namespace Go.AM
open Go Go.Proofs Go.RowKit
set_option maxRecDepth 100000
set_option maxHeartbeats 8000000
def omV (np k : Nat) : List Int := (List.range np).map fun j => if j < k then Om else 0
theorem omV_len (np k : Nat) : (omV np k).length = np := by simp [omV]
theorem omV_zero (np : Nat) : List.replicate np (AV.sc (.int .i64 0)) = (omV np 0).map vi := by
 apply List.ext_getElem
 ·simp [omV]
 intro j h1 h2
 simp [omV, vi]
theorem omV_all (np : Nat) : omV np np = List.replicate np Om := by
 apply List.ext_getElem
 ·simp [omV]
 intro j h1 h2
 have : j < np := by rw [omV_len] at h1; exact h1
 simp [omV, this]
theorem omV_set {np k : Nat} (_h : k < np) : (omV np k).set k 1099511627776 = omV np (k + 1) := by
 apply List.ext_getElem (by simp [omV])
 intro j h1 h2
 have hj : j < np := by rw [omV_len] at h2; exact h2
 rw [List.getElem_set]
 simp only [omV, List.getElem_map, List.getElem_range]
 by_cases e : k = j
 ·subst e; rw [if_pos rfl, if_pos (by omega)]
 ·rw [if_neg e]
  by_cases h3 : j < k
  ·rw [if_pos h3, if_pos (by omega)]
  ·rw [if_neg h3, if_neg (by omega)]
theorem wide_succ (q np : Nat) : wideL (q + 1) np = wideL q np ++ [((q : Int), List.replicate np Om)] := by
 unfold wideL
 rw [List.range_succ, List.map_append]; rfl
theorem wide_len (q np : Nat) : (wideL q np).length = q := by simp [wideL]
theorem con_bwiderLaw (l : List Int) (hl : l.length <= 9223372036854775807) (hx : ∀ x ∈ l, 0 <= x /\ x < 256) :
  Con Tryz.prog 5 [.sl 0 1 (l.map vu)] [] fun r _ => r = vb true := by
 refine Con.intro Tryz.func5 rfl Tryz.ntmps5 Tryz.results5 (by kernel_rfl) (by simp) 0 (by simp) ?_
 have hs : Seeds (l.take 200) := ⟨by rw [List.length_take]; omega, fun x h => hx x (List.mem_of_mem_take h)⟩
 simp only [go_sem]
 refine CallU.free con_sane29 (by simp only [go_sem]) (by simp only [go_sem]) ?_
 rintro r bx rfl
 simp only [go_sem]
 refine CallU.news (bx0 := []) (con_new l hl) (by simp only [go_sem]) (by simp only [go_sem]) (by simp only [go_sem]) (by simp only [go_sem]) (by simp only [go_sem]) ?_
 rintro r bx ⟨rfl, rfl⟩
 generalize l.take 200 = sd at hs
 simp only [go_sem]
 refine CallU.boxes (i := 0) (is := []) (bx0 := [diceA sd 0]) (con_Counter sd 0 hs (by omega)) (by simp only [go_sem]) (by simp only [go_sem]) (by simp only [go_sem]) (by simp only [go_sem]) (by simp only [go_sem]) ?_
 rintro r bx ⟨ns, np, rules, v0, at1, hd, ha1, rfl, rfl⟩
 have hP := deal_plain hd
 have hv0 : ∀ x ∈ v0, x <= 900000 := fun x hx => by have := hd.start.2 x hx; omega
 generalize dealM ns np rules v0 = m at hP
 simp only [go_sem, vM, cM, vss]
 refine CallU.boxes (i := 0) (is := []) (bx0 := [diceA sd at1]) (con_tree m v0 sd at1 hP) (by simp only [go_sem]) (by simp only [go_sem]) (by simp only [go_sem]) (by simp only [go_sem, vM, cM, vss]) (by simp only [go_sem]) ?_
 rintro r bx ⟨tn, next, ok, hT, rfl, rfl⟩
 cases ok
 ·simp only [go_sem]
 obtain ⟨hT, h60⟩ := hT rfl
 simp only [go_sem]
 refine CallU.free (con_rdone tn next) (by simp only [go_sem]) (by simp only [go_sem]) ?_
 rintro r bx rfl
 by_cases hdn : next = tn.length
 case neg =>
  have hdn' : ((next : Int) == (tn.length : Int)) = false := beq_eq_false_iff_ne.2 (by omega)
  simp only [go_sem, hdn']
 subst hdn
 have hdn' : ((tn.length : Int) == (tn.length : Int)) = true := beq_iff_eq.2 rfl
 simp only [go_sem, hdn']
 refine CallU.free (con_rlimits tn tn.length m.states.length m.places.length hT.nodes (by have := hP.good.places; omega)) (by simp only [go_sem]) (by simp only [go_sem]) ?_
 rintro r bx ⟨L, hL, rfl⟩
 obtain ⟨hcl, hlow, hneed, hcov, hz, hform, h256⟩ := limits_facts hP hT hL
 have hP1 := hP.good.states
 have hP2 := hP.good.places
 have hL60 : L.length <= 60 := by have := hL.few; omega
 have hsl5 : ∀ r ∈ m.rules, 0 <= r.dst /\ r.dst < m.states.length /\ ∀ j, j < m.places.length -> r.give[j]! <= 16 /\ 0 <= r.need[j]! := fun r hr => by
  have f := (hP.fine r hr).right
  have g := plain_slim hP r hr
  unfold RightR at f
  exact ⟨f.2.2.1, f.2.2.2.1, fun i hi => ⟨(g.low i hi).2.2.2, (g.low i hi).1⟩⟩
 have hH := con_bholds m v0 L hP hform h256
 rw [hz] at hH
 obtain ⟨W, hWd⟩ : ∃ W, wideL m.states.length m.places.length = W := ⟨_, rfl⟩
 have hWf : ∀ y ∈ W, 0 <= y.1 /\ y.1 < m.states.length /\ okV m.places.length y.2 := by rw [<- hWd]; exact wide_ok
 have hWl : W.length = m.states.length := by rw [<- hWd]; exact wide_len _ _
 have hW0 : ∃ y ∈ W, y.1 = 0 /\ okV m.places.length y.2 /\ ∀ j, j < m.places.length -> v0[j]! <= y.2[j]! := by
  rw [<- hWd]
  refine ⟨_, wide_mem (ns := m.states.length) (np := m.places.length) (s := 0) ⟨by omega, by omega⟩, rfl, (wide_ok _ (wide_mem (ns := m.states.length) (np := m.places.length) (s := 0) ⟨by omega, by omega⟩)).2.2, fun j hj => ?_⟩
  show v0[j]! <= (List.replicate m.places.length Om)[j]!
  rw [rep_at hj]
  exact ((conf_ok0 hP).at hj).le
 have hWc : ClosedL m.rules W := by rw [<- hWd]; exact wide_closed (fun x hx => hx) (fun x hx => (wide_ok x hx).2.2) hsl5
 have hHW := con_bholds m v0 W hP hWf (by omega)
 rw [holds_zero hWc (conf_ok0 hP) (by omega) hW0] at hHW
 have hBf : ∀ y ∈ L ++ W, 0 <= y.1 /\ y.1 < m.states.length /\ okV m.places.length y.2 := fun y hy => by
  rcases List.mem_append.1 hy with hy | hy
  ·exact hform y hy
  ·exact hWf y hy
 have hBc : ClosedL m.rules (L ++ W) := wide_closed (fun x hx => List.mem_append_right _ (by rw [<- hWd]; exact hx)) (fun x hx => (hBf x hx).2.2) hsl5
 have hHB := con_bholds m v0 (L ++ W) hP hBf (by rw [List.length_append]; omega)
 rw [holds_zero hBc (conf_ok0 hP) (by omega) (by obtain ⟨y, hy, h⟩ := hW0; exact ⟨y, List.mem_append_right _ hy, h⟩)] at hHB
 have hall := con_ball W (fun y hy => by have := (hWf y hy).2.2.1; omega) (by omega)
 have hom : ∀ k, k < m.places.length -> ∃ x ∈ W, k < x.2.length /\ x.2[k]! = Om := fun k hk => by
  rw [<- hWd]
  exact ⟨_, wide_mem (ns := m.states.length) (np := m.places.length) (s := 0) ⟨by omega, by omega⟩, by show k < (List.replicate m.places.length Om).length; rw [List.length_replicate]; exact hk, rep_at hk⟩
 have hbno : ∀ k : Nat, k < m.places.length -> boundB (L ++ W) k = false := fun k hk => by
  obtain ⟨x, hx, _, h⟩ := hom k hk
  exact no_bound (List.mem_append_right _ hx) h
 have hhas : hasOm W = true := by
  obtain ⟨x, hx, h1, h2⟩ := hom 0 (by omega)
  exact has_om hx h1 h2
 rw [hhas] at hall
 simp only [go_sem, List.length_map]
 refine LoopK.intro (fun q : Nat => ⟨102, [(4, .pb 1 0), (7, .sl 0 2 (L.map vLim)), (8, .sl 3968 2 ((wideL q m.places.length).map vLim)), (39, vi m.states.length), (40, vi q)], [diceA sd at1, cM m, [.sl 0 4 (tn.map vND), vi tn.length]]⟩) (fun q => m.states.length - q) (fun q => q <= m.states.length) 0 (by omega) ?_ ?_
 ·simp only [go_sem, cM, vss, wideL, List.range_zero, List.map_nil]
  all_goals first | exact leV_refl _ | exact leB_self _ | exact ⟨leV_refl _, leB_self _⟩ | skip
 rintro q hq
 by_cases hql : q < m.states.length
 ·have hwq : IntKind.i64.wrap ((q : Int) + 1) = q + 1 := wrap_in (by omega) (by omega)
  simp only [go_sem, cM, vss, hql, List.length_map]
  refine ⟨Nat.le_refl _, by omega, by omega, ?_⟩
  rw [omV_zero]
  refine LoopK.intro (fun k : Nat => ⟨102, [(4, .pb 1 0), (7, .sl 0 2 (L.map vLim)), (8, .sl 3968 2 ((wideL q m.places.length).map vLim)), (39, vi m.states.length), (40, vi q), (9, vi q), (10, .sl 3008 1 ((omV m.places.length k).map vi)), (48, vi m.places.length), (49, vi k)], [diceA sd at1, cM m, [.sl 0 4 (tn.map vND), vi tn.length]]⟩) (fun k => m.places.length - k) (fun k => k <= m.places.length) 0 (by omega) ?_ ?_
  ·simp only [go_sem, cM, vss, omV_len]
   all_goals first | exact leV_refl _ | exact leB_self _ | exact ⟨leV_refl _, leB_self _⟩ | skip
  rintro k hk
  by_cases hkl : k < m.places.length
  ·have hwk : IntKind.i64.wrap ((k : Int) + 1) = k + 1 := wrap_in (by omega) (by omega)
   have hset : (List.map vi (omV m.places.length k)).modify k (updElem 0 [AV.sc (.int .i64 1099511627776)]) = (omV m.places.length (k + 1)).map vi := by rw [<- omV_set hkl]; exact modify_vi
   have hol : k < (omV m.places.length k).length := by rw [omV_len]; exact hkl
   simp only [go_sem, cM, vss, hkl, hol, hset, hwk, List.length_map]
   refine roundK.intro (k + 1) (by omega) (by omega) ?_
   simp only [go_sem]
   all_goals first | exact leV_refl _ | exact leB_self _ | exact ⟨leV_refl _, leB_self _⟩ | skip
  obtain rfl : k = m.places.length := by omega
  have hro : roomFor ((wideL q m.places.length).length + 1) 32 := by rw [wide_len]; simp only [roomFor]; omega
  rw [omV_all]
  simp only [go_sem, cM, vss, hkl, hro, hwq, List.length_map]
  refine roundK.intro (q + 1) (by omega) (by omega) ?_
  simp only [go_sem, wide_succ, List.map_append, List.map_cons, List.map_nil]
 obtain rfl : q = m.states.length := by omega
 rw [hWd]
 have hro1 : roomFor (0 + L.length) 32 := by simp only [roomFor]; omega
 have hro2 : roomFor (L.length + W.length) 32 := by simp only [roomFor]; omega
 simp only [go_sem, cM, vss, hql, hro1, hro2, List.length_map]
 refine CallU.free hH (by simp only [go_sem]) (by simp only [go_sem, vM, cM, vss]) ?_
 rintro r bx rfl
 simp only [go_sem]
 refine CallU.freeze hHW (by simp only [go_sem]) (by simp only [go_sem, vM, cM, vss]) ?_
 rintro r bx rfl
 simp only [go_sem]
 refine CallU.freeze hHB (by simp only [go_sem]) (by simp only [go_sem, vM, cM, vss, List.map_append]) ?_
 rintro r bx rfl
 simp only [go_sem]
 refine CallU.free hall (by simp only [go_sem]) (by simp only [go_sem]) ?_
 rintro r bx rfl
 simp only [go_sem, Bool.not_true, List.length_map]
 refine LoopK.intro (fun k : Nat => ⟨102, [(12, .sl 0 2 ((L ++ W).map vLim)), (90, vi m.places.length), (91, vi k)], [diceA sd at1, cM m, [.sl 0 4 (tn.map vND), vi tn.length]]⟩) (fun k => m.places.length - k) (fun k => k <= m.places.length) 0 (by omega) ?_ ?_
 ·simp only [go_sem, cM, vss, List.map_append]
  all_goals first | exact leV_refl _ | exact leB_self _ | exact ⟨leV_refl _, leB_self _⟩ | skip
 rintro k hk
 by_cases hkl : k < m.places.length
 case neg => simp only [go_sem, cM, vss, hkl]
 have hwk : IntKind.i64.wrap ((k : Int) + 1) = k + 1 := wrap_in (by omega) (by omega)
 have hbd := con_bound (L ++ W) k (by rw [List.length_append]; omega)
 unfold boundR at hbd
 rw [hbno k hkl, if_neg (by simp)] at hbd
 simp only [go_sem, cM, vss, hkl]
 refine CallU.free hbd (by simp only [go_sem]) (by simp only [go_sem]) ?_
 rintro r bx rfl
 simp only [go_sem, hwk]
 refine roundK.intro (k + 1) (by omega) (by omega) ?_
 simp only [go_sem]
 all_goals first | exact leV_refl _ | exact leB_self _ | exact ⟨leV_refl _, leB_self _⟩ | skip
end Go.AM
