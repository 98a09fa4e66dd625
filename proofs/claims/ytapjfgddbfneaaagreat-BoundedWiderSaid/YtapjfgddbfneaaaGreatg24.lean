/- TF TH TI TJ -/
import Derived.Test.YtapjfgddbfneaaaGreatg23
namespace Go.AM
open Go Go.Proofs Go.RowKit
set_option maxRecDepth 100000
set_option maxHeartbeats 8000000
theorem con_rfireF (r : RD) (v : List Int) (np : Nat) (hr : SlimR np r) (hv : okV np v) (h6 : np <= 6) : Con Tryz.prog 77 [vRule r, vs 0 v] [] fun x _ => x = fireR r v 0 :=
 (Con.freezeR (fun _ => true) (con_rfire r v np hr hv h6)).weak fun r b ⟨r0, h0, h1⟩ => by
  subst h0; subst h1
  refine ⟨_, rfl, ?_⟩
  unfold fireR
  split <;> exact leV_refl _
theorem plain_slim {m : MD} {s0 : Nat} {v0 : List Int} (h : PlainM m s0 v0) : ∀ r ∈ m.rules, SlimR m.places.length r := fun r hr => by
 have h1 := good_small h.good r hr
 unfold SmallR at h1
 refine ⟨h1.1, h1.2.1, fun i hi => ?_⟩
 have a := h1.2.2.1 _ (mem_bangI (show i < r.need.length by omega))
 have b := h1.2.2.2 _ (mem_bangI (show i < r.give.length by omega))
 exact ⟨a.1, a.2, b.1, b.2⟩
theorem conf_ok0 {m : MD} {v0 : List Int} (h : PlainM m 0 v0) : okV m.places.length v0 := ⟨h.conf.len, fun x hx => .inl (h.conf.low x hx)⟩
def rootN (v0 : List Int) : ND := ⟨0, v0, -1, -1⟩
theorem tree_root {m : MD} {v0 : List Int} (h : PlainM m 0 v0) : Tree m.rules m.states.length m.places.length 0 v0 [rootN v0] 0 := by
 have h1 := h.good.states
 refine ⟨⟨rootN v0, List.mem_singleton.2 rfl, rfl, rfl⟩, by simp, by simp, fun i hi => ?_, fun i hi => by omega⟩
 have : i = 0 := by simp at hi; exact hi
 subst this
 refine ⟨⟨Int.le_refl _, by show (0 : Int) < _; omega⟩, conf_ok0 h, ⟨Int.le_refl _, by show (-1 : Int) < 0; omega⟩, ⟨Int.le_refl _, by show (-1 : Int) < 12; omega⟩⟩
theorem con_rstart (m : MD) (v0 : List Int) (h : PlainM m 0 v0) : Con Tryz.prog 26 [vM m] [] fun x _ => x = .tup [.ag [.sl 2 4 [vND (rootN v0)], vi 0], vi 0] := by
 refine Con.intro Tryz.func26 rfl Tryz.ntmps26 Tryz.results26 (by kernel_rfl) (by simp) 0 (by simp) ?_
 have h2 := h.good.places
 have hl0 := h.conf.len
 have hk : m.start.kids = .mk 0 [] :: v0.map fun n => .mk n [] := by rw [h.start]; rfl
 have hg0 : (m.start.kids.map vV)[0]? = some (.ag [.sc (.int .i64 0), .sl 0 2 []]) := by rw [hk]; exact getvV (l := .mk 0 [] :: v0.map fun n => CV.mk n []) (by simp)
 have hkl : 0 < m.start.kids.length := by rw [hk]; simp
 have hn := con_rNumbers m.start.n (.mk 0 []) (v0.map fun n => .mk n []) (by simp; omega)
 rw [cfg_nums, <- hk] at hn
 have hnF : Con Tryz.prog 15 [.ag [vi m.start.n, .sl 0 2 (m.start.kids.map vV)]] [] fun r _ => r = vs 0 v0 :=
  (Con.freezeR (fun _ => true) hn).weak fun r b ⟨r0, h0, h1⟩ => by
   subst h0; subst h1
   exact ⟨_, rfl, leV_refl _⟩
 simp only [go_sem, vM, cM, vss]
 refine CallU.free (con_rplain m h.good h.still) (by simp only [go_sem]) (by simp only [go_sem, vM, cM, vss]) ?_
 rintro r bx rfl
 simp only [go_sem]
 refine DrawK.walk 11 mixed (by kernel_rfl) ?_
 simp only [go_sem, hkl, hg0, List.length_map]
 refine CallY.mk hnF (by simp only [go_sem]) (by simp only [go_sem]) (.inl (by simp only [go_sem])) ?_
 simp only [go_sem, rootN]
def fireTree : Tr := .alt (.one 9 (.alt (.one 10 (.alt (.one 11 (.one 12 (.one 13 (.one 14 .done)))) (.one 12 (.alt (.one 11 (.one 13 (.one 14 .done))) (.one 13 (.one 11 (.one 14 .done))))))) (.alt (.one 11 (.alt (.one 10 (.one 12 (.one 13 (.one 14 .done)))) (.one 12 (.one 10 (.one 13 (.one 14 .done)))))) (.one 12 (.alt (.one 10 (.alt (.one 11 (.one 13 (.one 14 .done))) (.one 13 (.one 11 (.one 14 .done))))) (.one 11 (.one 10 (.one 13 (.one 14 .done))))))))) (.alt (.one 10 (.alt (.one 9 (.alt (.one 11 (.one 12 (.one 13 (.one 14 .done)))) (.one 12 (.alt (.one 11 (.one 13 (.one 14 .done))) (.one 13 (.one 11 (.one 14 .done))))))) (.one 11 (.one 9 (.one 12 (.one 13 (.one 14 .done))))))) (.one 11 (.alt (.one 9 (.alt (.one 10 (.one 12 (.one 13 (.one 14 .done)))) (.one 12 (.one 10 (.one 13 (.one 14 .done)))))) (.one 10 (.one 9 (.one 12 (.one 13 (.one 14 .done))))))))
theorem con_rstep (m : MD) (v0 : List Int) (l : List ND) (next : Nat) (h : PlainM m 0 v0) (hT : Tree m.rules m.states.length m.places.length 0 v0 l next) : Con Tryz.prog 54 [vM m, .ag [.sl 0 4 (l.map vND), vi next]] []
  fun x _ => ∃ l' next' b e t, (t = 0 \/ t = 2) /\ (e = 0 -> Tree m.rules m.states.length m.places.length 0 v0 l' next' /\ next' <= next + 1) /\ x = .tup [.ag [.sl t 4 (l'.map vND), vi (next' : Nat)], vb b, vi e] := by
 refine Con.intro Tryz.func54 rfl Tryz.ntmps54 Tryz.results54 (by kernel_rfl) (by simp) 0 (by simp) ?_
 have h2 := h.good.places
 have h3 := h.good.few
 have hlen := hT.len
 have hok := hT.nodes
 have hnl := hT.nextle
 have a1 : ¬ (next : Int) < 0 := by omega
 simp only [go_sem, vM, cM, vss]
 refine CallU.free (con_rplain m h.good h.still) (by simp only [go_sem]) (by simp only [go_sem, vM, cM, vss]) ?_
 rintro r bx rfl
 by_cases hlt : next < l.length
 case neg =>
  have hge : (l.length : Int) <= (next : Int) := by omega
  simp only [go_sem, a1, hge, List.length_map]
  exact ⟨l, next, false, 0, 0, .inl rfl, fun _ => ⟨hT, by omega⟩, rfl⟩
 have hge : ¬ (l.length : Int) <= (next : Int) := by omega
 have hw : IntKind.i64.wrap ((next : Int) + 1) = ((next + 1 : Nat) : Int) := by rw [wrap_in (by omega) (by omega)]; omega
 have hro0 : roomFor l.length 48 := by simp only [roomFor]; omega
 simp only [go_sem, a1, hge, List.length_map]
 refine DrawK.news0 [(7, 3)] [2] [(34, 38)] 1 [] [] 8 (.one 8 .done) none [.sl 0 4 (l.map vND), vi next] mixed (by kernel_rfl) (by kernel_rfl) (by kernel_rfl) (by simp only [go_sem]) (by simp only [go_sem]) ⟨by simp only [go_sem], by simp only [go_sem]⟩ ⟨by simp only [go_sem], by simp only [go_sem]⟩ ?_
 have hrep : List.replicate 2 AV.any = [.any, .any] := rfl
 simp only [go_sem, hw, hro0, hrep, List.length_map]
 refine ⟨?_, trivial⟩
 have gn := getND hlt
 have hx := hT.node next hlt
 have hxv := hx.vec
 have hpart := hT.part
 have hdone := fun e => Tree.step (e := e) hT hlt
 have hag := fun k => hT.again hlt (k := k)
 have hput := fun (e : List ND) (k : Nat) (hp : Part m.rules m.states.length m.places.length 0 v0 l next e k) => hp.put
 have hskip := fun (e : List ND) (k : Nat) (hp : Part m.rules m.states.length m.places.length 0 v0 l next e k) => hp.skip
 obtain ⟨x, ex⟩ : ∃ x, x = l[next]! := ⟨_, rfl⟩
 rw [<- ex] at gn hx hxv hag hput hskip
 refine CallU.free (con_again l next m.states.length m.places.length hok (by omega) hlt) (by simp only [go_sem]) (by simp only [go_sem]) ?_
 rintro r bx ⟨b, rfl, hb⟩
 cases b
 case true =>
  obtain ⟨k, hk, e1, e2⟩ := hb rfl
  rw [<- ex] at e1 e2
  simp only [go_sem]
  exact ⟨l, next + 1, true, 0, _, .inr rfl, fun _ => ⟨hag k hk e1 e2, by omega⟩, rfl⟩
 simp only [go_sem, hlt, gn, List.length_map]
 refine LoopK.intro (fun p : Nat × List ND => ⟨117, [(2, .pb 0 0), (3, .pb 1 0), (4, .pb 2 0), (8, .pb 3 0), (9, .pb 4 0), (10, vi p.1)], [cM m, [.sl 0 4 (l.map vND), vi next], [.nil, vi 0], [.sl 2240 4 ((l ++ p.2).map vND), vi (next + 1 : Nat)], [vi x.st, vs 0 x.vec, vi x.par, vi x.rule]]⟩)
  (fun p => m.rules.length - p.1) (fun p => p.1 <= m.rules.length /\ Part m.rules m.states.length m.places.length 0 v0 l next p.2 p.1) (0, []) ⟨by show 0 <= _; omega, hpart⟩ ?_ ?_
 ·simp only [go_sem, cM, vss, List.append_nil]
  all_goals exact leB_self _
 rintro ⟨i, e⟩ ⟨hi, hP⟩
 simp only at hi hP
 by_cases hi2 : i < m.rules.length
 case neg =>
  obtain rfl : i = m.rules.length := by omega
  simp only [go_sem, cM, vss, hi2, List.length_map]
  exact ⟨l ++ e, next + 1, true, 0, _, .inr rfl, fun _ => ⟨hdone e hP, by omega⟩, rfl⟩
 have hgr := getRule hi2
 have hsl := plain_slim h _ (mem_bangI hi2)
 have hfr := (h.fine _ (mem_bangI hi2)).right
 have hsk := hskip e i hP
 have hpt := hput e i hP
 have hPl := hP.len
 have hPf := hP.few
 have hwi : IntKind.i64.wrap ((i : Int) + 1) = i + 1 := wrap_in (by omega) (by omega)
 generalize m.rules[i]! = r at *
 obtain ⟨f1, f2, f3, f4, f5, f6⟩ := hfr
 simp only [go_sem, cM, vss, hi2, List.length_map]
 refine DrawK.walk 9 mixed (by kernel_rfl) ?_
 simp only [go_sem, hi2, hgr, List.length_map]
 by_cases hs : r.src = x.st
 case neg =>
  have hs' : (r.src != x.st) = true := bne_iff_ne.2 hs
  simp only [go_sem, hs', hwi]
  refine roundK.intro (i + 1, e) ⟨by show i + 1 <= _; omega, hsk fun hh => (hs hh).elim⟩ (by show m.rules.length - (i + 1) < m.rules.length - i; omega) ?_
  simp only [go_sem]
  all_goals exact leB_self _
 have hs' : (r.src != x.st) = false := by rw [hs]; simp
 have hF := con_rfireF r x.vec m.places.length hsl hxv (by omega)
 unfold fireR at hF
 simp only [go_sem, hs']
 cases hc : canV r x.vec
 case false =>
  rw [hc, if_neg (by simp)] at hF
  refine DrawK.meet ⟨117, [(2, .pb 0 0), (3, .pb 1 0), (4, .pb 2 0), (8, .pb 3 0), (9, .pb 4 0), (10, vi i), (11, .nil), (12, vb false), (13, vb false)], [cM m, [.sl 0 4 (l.map vND), vi next], [.nil, vi 0], [.sl 2240 4 ((l ++ e).map vND), vi (next + 1 : Nat)], [vi x.st, vs 0 x.vec, vi x.par, vi x.rule]]⟩ ?_ ?_
  ·refine DrawK.news0 [] [] [] 1 [] [] 9 fireTree none [.sl 0 4 (l.map vND), vi next] mixed (by kernel_rfl) (by kernel_rfl) (by kernel_rfl) (by simp only [go_sem]) (by simp only [go_sem]) ⟨by simp only [go_sem], by simp only [go_sem]⟩ ⟨by simp only [go_sem], by simp only [go_sem]⟩ ?_
   unfold fireTree
   simp only [go_sem, hi2, hgr, List.length_map]
   refine CallY.mk hF (by simp only [go_sem]) (by simp only [go_sem]) (.inl (by simp only [go_sem])) ?_
   simp only [go_sem]
  simp only [go_sem, cM, vss, hwi]
  refine roundK.intro (i + 1, e) ⟨by show i + 1 <= _; omega, hsk fun _ hh => by rw [hc] at hh; cases hh⟩ (by show m.rules.length - (i + 1) < m.rules.length - i; omega) ?_
  simp only [go_sem]
  all_goals exact leB_self _
 rw [hc, if_pos rfl] at hF
 refine DrawK.meet ⟨117, [(2, .pb 0 0), (3, .pb 1 0), (4, .pb 2 0), (8, .pb 3 0), (9, .pb 4 0), (10, vi i), (11, vs 0 (fireO r x.vec)), (12, vb true), (13, vb (overO r x.vec))], [cM m, [.sl 0 4 (l.map vND), vi next], [.nil, vi 0], [.sl 2240 4 ((l ++ e).map vND), vi (next + 1 : Nat)], [vi x.st, vs 0 x.vec, vi x.par, vi x.rule]]⟩ ?_ ?_
 ·refine DrawK.news0 [] [] [] 1 [] [] 9 fireTree none [.sl 0 4 (l.map vND), vi next] mixed (by kernel_rfl) (by kernel_rfl) (by kernel_rfl) (by simp only [go_sem]) (by simp only [go_sem]) ⟨by simp only [go_sem], by simp only [go_sem]⟩ ⟨by simp only [go_sem], by simp only [go_sem]⟩ ?_
  unfold fireTree
  simp only [go_sem, hi2, hgr, List.length_map]
  refine CallY.mk hF (by simp only [go_sem]) (by simp only [go_sem]) (.inl (by simp only [go_sem])) ?_
  simp only [go_sem]
 cases ho : overO r x.vec
 case true =>
  simp only [go_sem, cM, vss]
  exact ⟨l, next, false, 1, 0, .inl rfl, fun hh => (by cases hh), rfl⟩
 by_cases hfull : (256 : Int) <= ((l ++ e).length : Int)
 ·simp only [go_sem, cM, vss, hfull, List.length_map]
  exact ⟨l, next, false, 1, 0, .inl rfl, fun hh => (by cases hh), rfl⟩
 have hfo := fire_ok hxv hc (fun j hj => (hsl.low j hj).2.2.1) ho
 have hrg := raiseF_good (l := l) (n := next) (s := r.dst) (np := m.places.length) (v0 := fireO r x.vec) (finN (fireO r x.vec) + 1) hfo hfo.1 (fun i _ => .inl rfl)
 have hR := con_raise l next r.dst (fireO r x.vec) m.states.length m.places.length hok hfo (by omega) hlt
 have hro : roomFor ((l ++ e).length + 1) 48 := by simp only [roomFor]; omega
 simp only [go_sem, cM, vss, hfull, List.length_map]
 refine DrawK.walk 25 mixed (by kernel_rfl) ?_
 simp only [go_sem, hi2, hgr, List.length_map]
 refine CallY.mk hR (by simp only [go_sem]) (by simp only [go_sem]) (.inl (by simp only [go_sem])) ?_
 change okV m.places.length (raiseT l next r.dst (fireO r x.vec)) /\ raised (fireO r x.vec) (raiseT l next r.dst (fireO r x.vec)) at hrg
 generalize raiseT l next r.dst (fireO r x.vec) = w at hrg
 simp only [go_sem, hro, hwi, List.length_map]
 have hnode : NodeOk m.states.length m.places.length (l ++ e).length (⟨r.dst, w, next, i⟩ : ND) := by
  refine ⟨⟨f3, f4⟩, hrg.1, ⟨by show (-1 : Int) <= (next : Int); omega, ?_⟩, ⟨by show (-1 : Int) <= (i : Int); omega, by show (i : Int) < 12; omega⟩⟩
  show (next : Int) < ((l ++ e).length : Int)
  rw [List.length_append]; omega
 have hp2 := hpt (by omega) hnode rfl (by rw [hrg.1.1, hxv.1]) (fun j hj => hrg.2.le hfo (by rw [fireO_len]; exact hj))
 refine roundK.intro (i + 1, e ++ [⟨r.dst, w, next, i⟩]) ⟨by show i + 1 <= _; omega, hp2⟩ (by show m.rules.length - (i + 1) < m.rules.length - i; omega) ?_
 simp only [go_sem, List.map_append, List.map_cons, List.map_nil, List.append_assoc]
 all_goals exact leB_self _
theorem con_rstepF (m : MD) (v0 : List Int) (l : List ND) (next : Nat) (h : PlainM m 0 v0) (hT : Tree m.rules m.states.length m.places.length 0 v0 l next) : Con Tryz.prog 54 [vM m, .ag [.sl 0 4 (l.map vND), vi next]] []
  fun x _ => ∃ l' next' b e, (e = 0 -> Tree m.rules m.states.length m.places.length 0 v0 l' next' /\ next' <= next + 1) /\ x = .tup [.ag [.sl 0 4 (l'.map vND), vi (next' : Nat)], vb b, vi e] :=
 (Con.freezeR (fun _ => true) (con_rstep m v0 l next h hT)).weak fun r b ⟨r0, ⟨l', n', b', e', t, ht, h0, h1⟩, h2⟩ => by
  subst h1; subst h2
  refine ⟨_, ⟨l', n', b', e', h0, rfl⟩, ?_⟩
  rcases ht with rfl | rfl <;> exact leV_refl _
theorem con_rrun (m : MD) (v0 : List Int) (l : List ND) (next budget : Nat) (h : PlainM m 0 v0) (hT : Tree m.rules m.states.length m.places.length 0 v0 l next) (hb : budget <= 1000000) : Con Tryz.prog 27 [vM m, .ag [.sl 0 4 (l.map vND), vi next], vi budget] []
  fun x _ => ∃ l' next' k e, (e = 0 -> Tree m.rules m.states.length m.places.length 0 v0 l' next' /\ next' <= next + budget) /\ x = .tup [.ag [.sl 0 4 (l'.map vND), vi (next' : Nat)], vi k, vi e] := by
 refine Con.intro Tryz.func27 rfl Tryz.ntmps27 Tryz.results27 (by kernel_rfl) (by simp) 0 (by simp) ?_
 simp only [go_sem, vM, cM, vss]
 refine LoopK.intro (fun p : Nat × List ND × Nat => ⟨35, [(2, vi budget), (3, .pb 0 0), (4, .pb 1 0), (6, .pb 2 0), (9, vi p.1)], cM m :: [.sl 0 4 (p.2.1.map vND), vi p.2.2] :: [.nil, vi 0] :: Rk 2 p.1⟩)
  (fun p => budget - p.1) (fun p => p.1 <= budget /\ Tree m.rules m.states.length m.places.length 0 v0 p.2.1 p.2.2 /\ p.2.2 <= next + p.1) (0, l, next) ⟨by show 0 <= _; omega, hT, by show next <= next + 0; omega⟩ ?_ ?_
 ·simp only [go_sem, cM, vss, Rk, List.replicate_zero]
 obtain ⟨nx0, hnx⟩ : ∃ n, n = next := ⟨_, rfl⟩
 rw [<- hnx]
 clear hT hnx
 rintro ⟨i, l, next⟩ ⟨hi, hT, hnx⟩
 simp only at hi hT hnx
 by_cases hi2 : i < budget
 case neg =>
  simp only [go_sem, cM, vss, hi2]
  exact ⟨l, next, i, 0, fun _ => ⟨hT, by omega⟩, rfl⟩
 have hB' := Rk_len 2 i
 have n0 := fun L : List (List AV) => app_at0 (L := L) hB'
 have s0' := fun (L : List (List AV)) z => app_set0 (L := L) (z := z) hB'
 have hw : IntKind.i64.wrap ((i : Int) + 1) = i + 1 := wrap_in (by omega) (by omega)
 simp only [go_sem, cM, vss, hi2]
 refine CallU.free (con_rstepF m v0 l next h hT) (by simp only [go_sem]) (by simp only [go_sem, vM, cM, vss]) ?_
 rintro r bx ⟨l', next', b, e, he, rfl⟩
 by_cases he0 : e = 0
 case neg =>
  have he' : (e != 0) = true := bne_iff_ne.2 he0
  simp only [go_sem, hB', n0, s0', he']
  exact ⟨l, next, i, e, fun hh => (he0 hh).elim, rfl⟩
 have hT' := he he0
 have he' : (e != 0) = false := by rw [he0]; rfl
 cases b
 ·simp only [go_sem, hB', n0, s0', he']
  exact ⟨l, next, i, 0, fun _ => ⟨hT, by omega⟩, rfl⟩
 simp only [go_sem, hB', n0, s0', he', hw]
 refine roundK.intro (i + 1, l', next') ⟨by show i + 1 <= _; omega, hT'.1, by show next' <= nx0 + (i + 1); have := hT'.2; omega⟩ (by show budget - (i + 1) < budget - i; omega) ?_
 simp only [go_sem, Rk_succ]
 all_goals exact leB_RkA (x := [[_, _]]) ⟨⟨leV_any _, leV_any _, trivial⟩, trivial⟩
theorem con_fcovers1 (y : SV) (s : Int) (v : List Int) (hy : y.2.length <= 1000000) (hv : v.length <= 1000000) : Con Tryz.prog 61 [vLim y, .fp [vi s] 0, .fp [vs 0 v] 0] [] fun x _ => x = .sc (.bool (y.1 == s && leqV v y.2)) := by
 refine Con.intro Tryz.func61 rfl Tryz.ntmps61 Tryz.results61 (by kernel_rfl) (by simp) 0 (by simp) ?_
 cases hs : (y.1 == s)
 ·simp only [go_sem, hs, Bool.false_and]
 ·simp only [go_sem, hs, Bool.true_and]
  refine CallU.free (con_vleq v y.2 hv hy) (by simp only [go_sem]) (by simp only [go_sem]) ?_
  rintro r bx rfl
  simp only [go_sem]
theorem con_fcovers (L : List SV) (s : Int) (v : List Int) (hL : ∀ y ∈ L, y.2.length <= 1000000) (hl : L.length <= 1000000) (hv : v.length <= 1000000) : Con Tryz.prog 34 [.sl 0 2 (L.map vLim), vi s, vs 0 v] [] fun x _ => x = vb (coverB L s v) := by
 refine Con.intro Tryz.func34 rfl Tryz.ntmps34 Tryz.results34 (by kernel_rfl) (by simp) 0 (by simp) ?_
 unfold coverB
 simp only [go_sem]
 refine CallU.look (con_containsLim L 61 [.fp [vi s] 0, .fp [vs 0 v] 0] (fun y => y.1 == s && leqV v y.2) (by simp only [go_sem]) (fun y hy => con_fcovers1 y s v (hL y hy) hv) (by omega)) (by simp only [go_sem]) (by simp only [go_sem]) ?_
 rintro r bx rfl
 simp only [go_sem]
theorem start_facts {m : MD} {v0 : List Int} (h : PlainM m 0 v0) : m.start.kids = .mk 0 [] :: v0.map (fun n => .mk n []) /\ (m.start.kids.map vV)[0]? = some (.ag [.sc (.int .i64 0), .sl 0 2 []]) /\ 0 < m.start.kids.length := by
 have hk : m.start.kids = .mk 0 [] :: v0.map fun n => .mk n [] := by rw [h.start]; rfl
 refine ⟨hk, by rw [hk]; exact getvV (l := .mk 0 [] :: v0.map fun n => CV.mk n []) (by simp), by rw [hk]; simp⟩
theorem con_numbersS (m : MD) (v0 : List Int) (h : PlainM m 0 v0) : Con Tryz.prog 35 [.ag [vi m.start.n, .sl 0 2 (m.start.kids.map vV)]] [] fun r _ => r = vs 0 v0 := by
 have h2 := h.good.places
 have hl0 := h.conf.len
 have hn := con_numbers m.start.n (.mk 0 []) (v0.map fun n => .mk n []) (by simp; omega)
 rw [cfg_nums, <- (start_facts h).1] at hn
 exact (Con.freezeR (fun _ => true) hn).weak fun r b ⟨r0, h0, h1⟩ => by
  subst h0; subst h1
  exact ⟨_, rfl, leV_refl _⟩
theorem con_fstart (m : MD) (v0 : List Int) (h : PlainM m 0 v0) : Con Tryz.prog 32 [vM m] [] fun x _ => x = .tup [.ag [.sl 2 4 [vND (rootN v0)], vi 0], vi 0] := by
 refine Con.intro Tryz.func32 rfl Tryz.ntmps32 Tryz.results32 (by kernel_rfl) (by simp) 0 (by simp) ?_
 obtain ⟨hk, hg0, hkl⟩ := start_facts h
 simp only [go_sem, vM, cM, vss]
 refine CallU.free (con_counts m h.good h.still) (by simp only [go_sem]) (by simp only [go_sem, vM, cM, vss]) ?_
 rintro r bx rfl
 simp only [go_sem]
 refine DrawK.walk 11 mixed (by kernel_rfl) ?_
 simp only [go_sem, hkl, hg0, List.length_map]
 refine CallY.mk (con_numbersS m v0 h) (by simp only [go_sem]) (by simp only [go_sem]) (.inl (by simp only [go_sem])) ?_
 simp only [go_sem, rootN]
theorem con_fstartF (m : MD) (v0 : List Int) (h : PlainM m 0 v0) : Con Tryz.prog 32 [vM m] [] fun x _ => x = .tup [.ag [.sl 0 4 [vND (rootN v0)], vi 0], vi 0] :=
 (Con.freezeR (fun _ => true) (con_fstart m v0 h)).weak fun r b ⟨r0, h0, h1⟩ => by
  subst h0; subst h1
  exact ⟨_, rfl, leV_refl _⟩
def boundR (L : List SV) (k : Int) : AV := if boundB L k then .tup [vi (mostF L k.toNat), vb true] else .tup [vi 0, vb false]
def bndAt (k : Int) (y : SV) : Bool := decide (0 <= k) && decide (k < y.2.length) && (y.2[k.toNat]! != Om)
theorem bound_no {L : List SV} {k : Int} {i : Nat} (h : i < L.length) (hb : bndAt k L[i]! = false) : boundB L k = false := by
 show L.all (bndAt k) = false
 rw [List.all_eq_false]
 exact ⟨L[i]!, mem_bangL h, by rw [hb]; simp⟩
theorem bound_yes {L : List SV} {k : Int} (hb : ∀ i, i < L.length -> bndAt k L[i]! = true) : boundB L k = true := by
 show L.all (bndAt k) = true
 rw [List.all_eq_true]
 intro x hx
 obtain ⟨i, hi, rfl⟩ := mem_bangSV hx
 exact hb i hi
theorem most_take {L : List SV} {k i : Nat} (h : i < L.length) : mostF (L.take (i + 1)) k = max (mostF (L.take i) k) L[i]!.2[k]! := by
 unfold mostF
 rw [List.take_add_one, List.getElem?_eq_getElem h, List.foldl_append, getElem!_pos L i h]; rfl
theorem con_bound (L : List SV) (k : Int) (hl : L.length <= 1000000) : Con Tryz.prog 16 [.sl 0 2 (L.map vLim), vi k] [] fun x _ => x = boundR L k := by
 refine Con.intro Tryz.func16 rfl Tryz.ntmps16 Tryz.results16 (by kernel_rfl) (by simp) 0 (by simp) ?_
 unfold boundR
 simp only [go_sem]
 refine LoopK.intro (fun i : Nat => ⟨41, [(1, vi k), (6, vi (mostF (L.take i) k.toNat)), (9, .sl 0 2 (L.map vLim)), (10, vi L.length), (11, vi i)], Rk 2 i⟩) (fun i => L.length - i) (fun i => i <= L.length /\ ∀ j, j < i -> bndAt k L[j]! = true) 0 ⟨by omega, fun j hj => by omega⟩ ?_ ?_
 ·simp only [go_sem, Rk, List.replicate_zero, mostF, List.take_zero, List.foldl_nil]
  all_goals exact leV_refl _
 rintro i ⟨hi, hb⟩
 by_cases h : i < L.length
 case neg =>
  obtain rfl : i = L.length := by omega
  simp only [go_sem, h, bound_yes hb, List.take_length]
 have hg := getLim h
 have hw : IntKind.i64.wrap ((i : Int) + 1) = i + 1 := wrap_in (by omega) (by omega)
 have hB' := Rk_len 2 i
 have n0 := fun L : List (List AV) => app_at0 (L := L) hB'
 have s0' := fun (L : List (List AV)) z => app_set0 (L := L) (z := z) hB'
 have hno := fun e => bound_no (k := k) h e
 have hmt := most_take (k := k.toNat) h
 have hb2 : bndAt k L[i]! = true -> ∀ j, j < i + 1 -> bndAt k L[j]! = true := fun e j hj => by
  by_cases hji : j = i
  ·subst hji; exact e
  ·exact hb j (by omega)
 generalize L[i]! = y at *
 by_cases hk0 : k < 0
 ·have e : boundB L k = false := hno (by unfold bndAt; rw [decide_eq_false (by omega), Bool.false_and, Bool.false_and])
  simp only [go_sem, h, hg, hB', n0, s0', hk0, e]
 obtain ⟨n, rfl⟩ : ∃ n : Nat, k = n := ⟨k.toNat, by omega⟩
 have etn : ((n : Int)).toNat = n := rfl
 rw [etn] at hmt
 by_cases hk1 : (y.2.length : Int) <= (n : Int)
 ·have e : boundB L n = false := hno (by unfold bndAt; rw [decide_eq_false (p := (n : Int) < _) (by omega), Bool.and_false, Bool.false_and])
  simp only [go_sem, h, hg, hB', n0, s0', hk0, hk1, e]
 have hn : n < y.2.length := by omega
 have gn := getv hn
 by_cases ho : y.2[n]! = 1099511627776
 ·have ho' : (y.2[n]! == 1099511627776) = true := beq_iff_eq.2 ho
  have e : boundB L n = false := hno (by unfold bndAt; rw [etn, show (y.2[n]! != Om) = false by rw [ho]; rfl, Bool.and_false])
  simp only [go_sem, h, hg, hB', n0, s0', hk0, hk1, hn, gn, ho', e]
 have ho' : (y.2[n]! == 1099511627776) = false := beq_eq_false_iff_ne.2 ho
 have hgood : bndAt n y = true := by
  unfold bndAt
  rw [etn, decide_eq_true (by omega), decide_eq_true (by omega), bne_iff_ne.2 ho]; rfl
 simp only [go_sem, h, hg, hB', n0, s0', hk0, hk1, hn, gn, ho', hw]
 refine roundK.intro (i + 1) ⟨by omega, hb2 hgood⟩ (by omega) ?_
 simp only [go_sem, Rk_succ, hmt]
 all_goals exact leB_RkA (x := [[_, _]]) ⟨⟨leV_any _, leV_any _, trivial⟩, trivial⟩
theorem con_ball1 (y : SV) (hy : y.2.length <= 1000000) : Con Tryz.prog 45 [vLim y] [] fun x _ => x = .sc (.bool (y.2.contains Om)) := by
 refine Con.intro Tryz.func45 rfl Tryz.ntmps45 Tryz.results45 (by kernel_rfl) (by simp) 0 (by simp) ?_
 simp only [go_sem]
 refine CallU.free (con_containsI y.2 1099511627776 (by omega)) (by simp only [go_sem]) (by simp only [go_sem]) ?_
 rintro r bx rfl
 simp only [go_sem, List.any_beq]
theorem con_ball (L : List SV) (hL : ∀ y ∈ L, y.2.length <= 1000000) (hl : L.length <= 1000000) : Con Tryz.prog 18 [.sl 0 2 (L.map vLim)] [] fun x _ => x = vb (!hasOm L) := by
 refine Con.intro Tryz.func18 rfl Tryz.ntmps18 Tryz.results18 (by kernel_rfl) (by simp) 0 (by simp) ?_
 unfold hasOm
 simp only [go_sem]
 refine CallU.look (con_containsLim L 45 [] (fun y => y.2.contains Om) (by simp only [go_sem]) (fun y hy => con_ball1 y (hL y hy)) (by omega)) (by simp only [go_sem]) (by simp only [go_sem]) ?_
 rintro r bx rfl
 simp only [go_sem]
theorem con_holds1 (y : SV) (r : RD) (w : List Int) (h : w.length <= y.2.length) (hl : w.length <= 1000000) : Con Tryz.prog 39 [vLim y, .fp (cR r) 0, .fp [vs 0 w] 0] [] fun x _ => x = .sc (.bool (y.1 == r.dst && atB w y.2)) := by
 refine Con.intro Tryz.func39 rfl Tryz.ntmps39 Tryz.results39 (by kernel_rfl) (by simp) 0 (by simp) ?_
 cases hs : (y.1 == r.dst)
 ·simp only [go_sem, hs, Bool.false_and]
 ·simp only [go_sem, hs, Bool.true_and]
  refine CallU.free (con_atMost w y.2 h hl) (by simp only [go_sem]) (by simp only [go_sem]) ?_
  rintro r bx rfl
  simp only [go_sem]
def ruleOk (L : List SV) (x : SV) (r : RD) : Bool := !fitsB r x.1 x.2 || L.any fun y => y.1 == r.dst && atB (fireO r x.2) y.2
def limOk (rules : List RD) (L : List SV) (x : SV) : Bool := rules.all (ruleOk L x)
theorem closedB_eq (rules : List RD) (L : List SV) : closedB rules L = L.all (limOk rules L) := rfl
theorem all_hit {α : Type _} [Inhabited α] {l : List α} {p : α -> Bool} {i : Nat} (h : i < l.length) (hp : p l[i]! = false) : l.all p = false := by
 rw [List.all_eq_false]
 exact ⟨l[i]!, by rw [getElem!_pos l i h]; exact List.getElem_mem h, by rw [hp]; simp⟩
theorem all_yes {α : Type _} [Inhabited α] {l : List α} {p : α -> Bool} (h : ∀ i, i < l.length -> p l[i]! = true) : l.all p = true := by
 rw [List.all_eq_true]
 intro x hx
 obtain ⟨i, hi, rfl⟩ := List.mem_iff_getElem.1 hx
 have := h i hi
 rw [getElem!_pos l i hi] at this
 exact this
theorem con_bholds (m : MD) (v0 : List Int) (L : List SV) (h : PlainM m 0 v0) (hL : ∀ y ∈ L, 0 <= y.1 /\ y.1 < m.states.length /\ okV m.places.length y.2) (hl : L.length <= 256) : Con Tryz.prog 13 [vM m, .sl 0 2 (L.map vLim)] [] fun x _ => x = vi (holdsL m.rules L 0 v0) := by
 refine Con.intro Tryz.func13 rfl Tryz.ntmps13 Tryz.results13 (by kernel_rfl) (by simp) 0 (by simp) ?_
 have h1 := h.good.states
 have h2 := h.good.places
 have h3 := h.good.few
 have hl0 := h.conf.len
 obtain ⟨hk, hg0, hkl⟩ := start_facts h
 have h256 : ¬ (256 : Int) < (L.length : Int) := by omega
 simp only [go_sem, vM, cM, vss]
 refine CallU.free (con_fstartF m v0 h) (by simp only [go_sem]) (by simp only [go_sem, vM, cM, vss]) ?_
 rintro r bx rfl
 simp only [go_sem, h256, List.length_map]
 refine LoopK.intro (fun i : Nat => ⟨103, [(1, .sl 0 2 (L.map vLim)), (2, .pb 0 0), (26, .sl 0 2 (L.map vLim)), (27, vi L.length), (28, vi i)], cM m :: [.sl 0 4 [vND (rootN v0)], vi 0] :: Rk 2 i⟩) (fun i => L.length - i) (fun i => i <= L.length) 0 (by omega) ?_ ?_
 ·simp only [go_sem, cM, vss, Rk, List.replicate_zero]
  all_goals exact leV_refl _
 rintro i hi
 by_cases hlt : i < L.length
 ·have hg := getLim hlt
  have hy := hL _ (mem_bangL hlt)
  have hw : IntKind.i64.wrap ((i : Int) + 1) = i + 1 := wrap_in (by omega) (by omega)
  have hB' := Rk_len 2 i
  have n0 := fun L : List (List AV) => app_at0 (L := L) hB'
  have s0' := fun (L : List (List AV)) z => app_set0 (L := L) (z := z) hB'
  generalize L[i]! = y at *
  have a1 : ¬ y.1 < 0 := by omega
  have a2 : ¬ (m.states.length : Int) <= y.1 := by omega
  have a3 : ((y.2.length : Int) != (m.places.length : Int)) = false := by rw [hy.2.2.1]; simp
  have hv := con_vvalid y.2 (by have := hy.2.2.1; omega)
  rw [ok_vec hy.2.2 (by omega)] at hv
  simp only [go_sem, cM, vss, hlt, hg, hB', n0, s0', a1, a2, a3, List.length_map]
  refine CallU.free hv (by simp only [go_sem]) (by simp only [go_sem]) ?_
  rintro r bx rfl
  simp only [go_sem, hw]
  refine roundK.intro (i + 1) (by omega) (by omega) ?_
  simp only [go_sem, Rk_succ]
  all_goals exact leB_RkA (x := [[_, _]]) ⟨⟨leV_any _, leV_any _, trivial⟩, trivial⟩
 obtain rfl : i = L.length := by omega
 simp only [go_sem, cM, vss, hlt]
 refine DrawK.walk 12 mixed (by kernel_rfl) ?_
 simp only [go_sem, hkl, hg0, List.length_map]
 refine CallY.mk (con_numbersS m v0 h) (by simp only [go_sem]) (by simp only [go_sem]) (.inl (by simp only [go_sem])) ?_
 simp only [go_sem]
 refine CallY.mk (con_fcovers L 0 v0 (fun y hy => by have := (hL y hy).2.2.1; omega) (by omega) (by omega)) (by simp only [go_sem]) (by simp only [go_sem]) (.inl (by simp only [go_sem])) ?_
 unfold holdsL
 cases hc : coverB L 0 v0
 ·simp only [go_sem]
 simp only [go_sem, List.length_map]
 rw [closedB_eq]
 refine LoopK.intro (fun p : Nat × List Nat => ⟨103, [(1, .sl 0 2 (L.map vLim)), (2, .pb 0 0), (70, .sl 0 2 (L.map vLim)), (71, vi L.length), (72, vi p.1)], cM m :: [.sl 0 4 [vND (rootN v0)], vi 0] :: Jk p.2⟩) (fun p => L.length - p.1) (fun p => p.1 <= L.length /\ ∀ j, j < p.1 -> limOk m.rules L L[j]! = true) (0, List.replicate L.length 2) ⟨by show 0 <= _; omega, fun j hj => by omega⟩ ?_ ?_
 ·simp only [go_sem, cM, vss, Jk, Rk, List.map_replicate]
  all_goals first | exact leB_self _ | exact leV_refl _ | exact ⟨leV_refl _, leB_self _⟩ | exact ⟨leB_self _, leV_refl _⟩
 rintro ⟨i, ks⟩ ⟨hi, hb⟩
 simp only at hi hb
 have hB := Jk_len ks
 by_cases hlt2 : i < L.length
 case neg =>
  have e : L.all (limOk m.rules L) = true := all_yes fun j hj => hb j (by omega)
  simp only [go_sem, hlt2, e]
 have hg := getLim hlt2
 have hx := hL _ (mem_bangL hlt2)
 have hw : IntKind.i64.wrap ((i : Int) + 1) = i + 1 := wrap_in (by omega) (by omega)
 have n0 := fun L : List (List AV) => app_at0 (L := L) hB
 have n1 := fun (L : List (List AV)) (i : Nat) => app_at (L := L) (i := i) hB
 have s0 := fun (L : List (List AV)) z => app_set0 (L := L) (z := z) hB
 have s1 := fun (L : List (List AV)) (i : Nat) z => app_setN (L := L) (i := i) (z := z) hB
 have hbad := fun e => all_hit (p := limOk m.rules L) hlt2 e
 have hb2 : limOk m.rules L L[i]! = true -> ∀ j, j < i + 1 -> limOk m.rules L L[j]! = true := fun e j hj => by
  by_cases hji : j = i
  ·subst hji; exact e
  ·exact hb j (by omega)
 generalize L[i]! = x at *
 have hxl := hx.2.2.1
 simp only [go_sem, cM, vss, hlt2, hg, hB, n0, s0, List.length_map]
 refine LoopK.intro (fun p : Nat × List Nat => ⟨103, [(1, .sl 0 2 (L.map vLim)), (2, .pb 0 0), (70, .sl 0 2 (L.map vLim)), (71, vi L.length), (72, vi i), (10, .pb (ks.length + 1 + 1) 0), (77, .sl 0 14 (m.rules.map vRule)), (78, vi m.rules.length), (79, vi p.1)], cM m :: [.sl 0 4 [vND (rootN v0)], vi 0] :: (Jk ks ++ ([vi x.1, vs 0 x.2] :: Jk p.2))⟩)
  (fun p => m.rules.length - p.1) (fun p => p.1 <= m.rules.length /\ ∀ j, j < p.1 -> ruleOk L x m.rules[j]! = true) (0, []) ⟨by show 0 <= _; omega, fun j hj => by omega⟩ ?_ ?_
 ·simp only [go_sem, cM, vss, Jk, List.map_nil]
  all_goals first | exact leB_self _ | exact leV_refl _ | exact ⟨leV_refl _, leB_self _⟩ | exact ⟨leB_self _, leV_refl _⟩
 rintro ⟨k, ds⟩ ⟨hk2, hbk⟩
 simp only at hk2 hbk
 have hD := Jk_len ds
 have m0 := fun L : List (List AV) => app_at0 (L := L) hD
 have m1 := fun (L : List (List AV)) (i : Nat) => app_at (L := L) (i := i) hD
 have t0 := fun (L : List (List AV)) z => app_set0 (L := L) (z := z) hD
 have t1 := fun (L : List (List AV)) (i : Nat) z => app_setN (L := L) (i := i) (z := z) hD
 by_cases hr2 : k < m.rules.length
 case neg =>
  have e : limOk m.rules L x = true := all_yes fun j hj => hbk j (by omega)
  simp only [go_sem, cM, vss, hr2, hw]
  refine roundK.intro (i + 1, ks ++ (2 :: ds)) ⟨by show i + 1 <= _; omega, hb2 e⟩ (by show L.length - (i + 1) < L.length - i; omega) ?_
  simp only [go_sem]
  all_goals exact leB_JkA ⟨⟨leV_any _, leV_any _, trivial⟩, leB_self _⟩
 have hgr := getRule hr2
 have hsl := plain_slim h _ (mem_bangI hr2)
 have hwk : IntKind.i64.wrap ((k : Int) + 1) = k + 1 := wrap_in (by omega) (by omega)
 have hbadk := fun e => all_hit (p := ruleOk L x) hr2 e
 have hbk2 : ruleOk L x m.rules[k]! = true -> ∀ j, j < k + 1 -> ruleOk L x m.rules[j]! = true := fun e j hj => by
  by_cases hji : j = k
  ·subst hji; exact e
  ·exact hbk j (by omega)
 generalize m.rules[k]! = r at *
 have hF := con_fitsV r x.1 x.2 (by rw [hsl.need, hxl]) (by omega)
 have hA := con_afterF r x.2 m.places.length hsl hx.2.2 (by omega) h2.1
 have hfl : (fireO r x.2).length = m.places.length := by rw [fireO_len, hxl]
 simp only [go_sem, cM, vss, hr2, hgr, hB, hD, n0, n1, s1, m0, t0, List.length_map, List.append_assoc, List.cons_append, List.length_append, List.length_cons, List.length_nil]
 refine CallU.free hF (by simp only [go_sem]) (by simp only [go_sem]) ?_
 rintro z bx rfl
 cases hf : fitsB r x.1 x.2
 ·simp only [go_sem, hwk]
  refine roundK.intro (k + 1, ds ++ [14]) ⟨by show k + 1 <= _; omega, hbk2 (by unfold ruleOk; rw [hf]; rfl)⟩ (by show m.rules.length - (k + 1) < m.rules.length - k; omega) ?_
  simp only [go_sem]
  all_goals exact leB_app (leB_self _) ⟨leC_self _, leB_JkA ⟨leC_any _ 14 rfl, trivial⟩⟩
 simp only [go_sem, n0, n1, m0, List.length_cons, List.length_nil]
 refine CallU.free hA (by simp only [go_sem]) (by simp only [go_sem]) ?_
 rintro z bx rfl
 simp only [go_sem, hB, hD, n1, s1, m1, t1, List.append_assoc, List.cons_append, List.nil_append, List.length_append, List.length_cons, List.length_nil]
 refine CallU.look (con_containsLim L 39 [.fp (cR r) 0, .fp [vs 0 (fireO r x.2)] 0] (fun y => y.1 == r.dst && atB (fireO r x.2) y.2) (by simp only [go_sem]) (fun y hy => con_holds1 y r (fireO r x.2) (by have := (hL y hy).2.2.1; omega) (by omega)) (by omega)) (by simp only [go_sem]) (by simp only [go_sem, n1, m0, m1]) ?_
 rintro z bx rfl
 cases hq : (L.any fun y => y.1 == r.dst && atB (fireO r x.2) y.2)
 ·have e := hbad (hbadk (by unfold ruleOk; rw [hf, hq]; rfl))
  simp only [go_sem, e]
 ·simp only [go_sem, hwk]
  refine roundK.intro (k + 1, ds ++ [14, 1]) ⟨by show k + 1 <= _; omega, hbk2 (by unfold ruleOk; rw [hf, hq]; rfl)⟩ (by show m.rules.length - (k + 1) < m.rules.length - k; omega) ?_
  simp only [go_sem]
  all_goals exact leB_app (leB_self _) ⟨leC_self _, leB_JkA ⟨leC_any _ 14 rfl, ⟨leV_any _, trivial⟩, trivial⟩⟩
theorem con_sconfig (s : Nat) (v : List Int) (hv : v.length <= 100) : Con Tryz.prog 69 [vi s, vs 0 v] [] fun r _ => r = cfgN 2 s v := by
 refine Con.intro Tryz.func69 rfl Tryz.ntmps69 Tryz.results69 (by kernel_rfl) (by simp) 0 (by simp) ?_
 simp only [go_sem]
 refine LoopK.intro (fun i : Nat => ⟨27, [(4, .pb 0 0), (5, .pb 1 0), (12, vs 0 v), (13, vi v.length), (14, vi i)], [[.any, .any], [vi 0, .sl 704 2 (((s : Int) :: v.take i).map kidN)]]⟩)
  (fun i => v.length - i) (fun i => i <= v.length) 0 (by omega) ?_ ?_
 ·simp only [go_sem, List.take_zero, List.map_cons, List.map_nil]
  all_goals first | exact leV_refl _ | exact leB_self _ | exact ⟨leV_refl _, leB_self _⟩
 rintro i hi
 by_cases h : i < v.length
 ·have hw : IntKind.i64.wrap (i + 1) = i + 1 := wrap_in (by omega) (by omega)
  have hg := getv h
  have e : v.take (i + 1) = v.take i ++ [v[i]!] := by rw [List.take_add_one, List.getElem?_eq_getElem h, getElem!_pos v i h]; rfl
  simp only [go_sem, h, hg, hw, List.map_cons]
  refine ⟨by simp only [roomFor, List.length_take]; omega, roundK.intro (i + 1) (by omega) (by omega) ?_⟩
  simp only [go_sem, e, List.map_append, List.map_cons, List.map_nil]
 ·have e : i = v.length := by omega
  subst e
  simp only [go_sem, h, List.take_length, List.map_cons]
theorem con_sconfigF (s : Nat) (v : List Int) (hv : v.length <= 100) : Con Tryz.prog 69 [vi s, vs 0 v] [] fun r _ => r = vV (cfgC s v) :=
 (Con.freezeR (fun _ => true) (con_sconfig s v hv)).weak fun r b ⟨r0, h0, h1⟩ => by
  subst h0; subst h1
  exact ⟨_, rfl, cfg_le _ _⟩
def walkC (m : MD) (s : Int) (v : List Int) (a : AV) : List AV := [vi m.kind, vss m.states, vss m.places, vss m.letters, vs 0 m.ranks, vi m.levels, vi m.age, .sl 0 14 (m.rules.map vRule), vi m.start.n, .sl 0 2 (m.start.kids.map vV), vi s, vs 0 v, a]
attribute [go_sem] walkC
theorem con_bstart (m : MD) (v0 : List Int) (h : PlainM m 0 v0) : Con Tryz.prog 43 [vM m] [] fun r b => r = .pb 1 0 /\ b = [cM m, walkC m 0 v0 .nil] := by
 refine Con.intro Tryz.func43 rfl Tryz.ntmps43 Tryz.results43 (by kernel_rfl) (by simp) 2 (by simp) ?_
 obtain ⟨hk, hg0, hkl⟩ := start_facts h
 simp only [go_sem, vM, cM, vss]
 refine DrawK.walk 11 mixed (by kernel_rfl) ?_
 simp only [go_sem, hkl, hg0, List.length_map]
 refine CallY.mk (con_numbersS m v0 h) (by simp only [go_sem]) (by simp only [go_sem]) (.inl (by simp only [go_sem])) ?_
 simp only [go_sem]
def walkTree : Tr := .alt (.one 7 (.alt (.one 8 (.one 9 (.one 10 .done))) (.one 9 (.one 8 (.one 10 .done))))) (.one 8 (.one 7 (.one 9 (.one 10 .done))))
theorem walk_drop {rules : List RD} {ks : List Int} {i : Nat} (h : i < ks.length) (y : SV) : walkF rules y (ks.drop i) = if fitsB rules[ks[i]!.toNat]! y.1 y.2 then if overO rules[ks[i]!.toNat]! y.2 then (1, y, []) else
   ((walkF rules (rules[ks[i]!.toNat]!.dst, fireO rules[ks[i]!.toNat]! y.2) (ks.drop (i + 1))).1, (walkF rules (rules[ks[i]!.toNat]!.dst, fireO rules[ks[i]!.toNat]! y.2) (ks.drop (i + 1))).2.1, ⟨ks[i]!.toNat, rules[ks[i]!.toNat]!.dst.toNat, fireO rules[ks[i]!.toNat]! y.2⟩ :: (walkF rules (rules[ks[i]!.toNat]!.dst, fireO rules[ks[i]!.toNat]! y.2) (ks.drop (i + 1))).2.2) else (18, y, []) := by
 rw [List.drop_eq_getElem_cons h, getElem!_pos ks i h, walkF]
theorem con_walk (m : MD) (v0 : List Int) (s : Int) (v : List Int) (ks : List Int) (st : List StD) (a : AV) (h : PlainM m 0 v0) (hs : 0 <= s /\ s < m.states.length) (hv : finV m.places.length v) (hk : ∀ k ∈ ks, 0 <= k /\ k < m.rules.length) (hl : ks.length <= 64) (hst : st.length <= 1000) (ha : leV a (.sl 2 3 (st.map vStep))) :
  ConX Tryz.prog 44 [.pb 0 0, vs 0 ks] [walkC m s v a] fun x b => x = vi (walkF m.rules (s, v) ks).1 /\ b = [walkC m (walkF m.rules (s, v) ks).2.1.1 (walkF m.rules (s, v) ks).2.1.2 (.sl 2 3 ((st ++ (walkF m.rules (s, v) ks).2.2).map vStep))] := by
 refine ConX.intro Tryz.func44 rfl Tryz.ntmps44 Tryz.results44 (by kernel_rfl) (by simp) 1 (by simp) ?_
 have h2 := h.good.places
 have h3 := h.good.few
 simp only [go_sem, vss]
 refine LoopK.intro (fun p : Nat × SV × List StD => ⟨73, [(0, .pb 0 0), (10, vs 0 ks), (11, vi ks.length), (12, vi p.1)], walkC m p.2.1.1 p.2.1.2 (.sl 2 3 ((st ++ p.2.2).map vStep)) :: Rk 14 p.1⟩)
  (fun p => ks.length - p.1) (fun p => p.1 <= ks.length /\ 0 <= p.2.1.1 /\ p.2.1.1 < m.states.length /\ finV m.places.length p.2.1.2 /\ p.2.2.length <= p.1 /\ walkF m.rules (s, v) ks = ((walkF m.rules p.2.1 (ks.drop p.1)).1, (walkF m.rules p.2.1 (ks.drop p.1)).2.1, p.2.2 ++ (walkF m.rules p.2.1 (ks.drop p.1)).2.2)) (0, (s, v), []) ⟨by show 0 <= _; omega, hs.1, hs.2, hv, by simp, by simp⟩ ?_ ?_
 ·simp only [go_sem, vss, Rk, List.replicate_zero, List.append_nil]
  exact ha
 rintro ⟨i, y, dn⟩ ⟨hi, hy0, hy1, hy2, hdn, hW⟩
 simp only at hi hy0 hy1 hy2 hdn hW
 obtain ⟨R, hR⟩ : ∃ R, walkF m.rules (s, v) ks = R := ⟨_, rfl⟩
 rw [hR] at hW ⊢
 by_cases hlt : i < ks.length
 case neg =>
  obtain rfl : i = ks.length := by omega
  rw [List.drop_length, walkF] at hW
  simp only [go_sem, vss, hlt, hW, List.append_nil]
 have hg := getv hlt
 have hki := hk _ (mem_bangI hlt)
 have hwi : IntKind.i64.wrap ((i : Int) + 1) = i + 1 := wrap_in (by omega) (by omega)
 rw [walk_drop hlt] at hW
 obtain ⟨k, ek⟩ : ∃ k : Nat, ks[i]! = k := ⟨ks[i]!.toNat, by omega⟩
 rw [ek] at hg hki hW
 rw [show ((k : Int)).toNat = k from rfl] at hW
 have hkl : k < m.rules.length := by omega
 have hgr := getRule hkl
 have hsl := plain_slim h _ (mem_bangI hkl)
 have hfr := (h.fine _ (mem_bangI hkl)).right
 have hyl := hy2.1
 generalize m.rules[k]! = r at *
 obtain ⟨f1, f2, f3, f4, f5, f6⟩ := hfr
 have hF := con_fitsV r y.1 y.2 (by rw [hsl.need, hyl]) (by omega)
 have hA := con_afterF r y.2 m.places.length hsl hy2.ok (by omega) h2.1
 have hB' := Rk_len 14 i
 have n0 := fun L : List (List AV) => app_at0 (L := L) hB'
 have n1 := fun (L : List (List AV)) (i : Nat) => app_at (L := L) (i := i) hB'
 have s0' := fun (L : List (List AV)) z => app_set0 (L := L) (z := z) hB'
 simp only [go_sem, vss, hlt, hg, hkl, hgr, hB', n0, s0', List.length_map]
 refine DrawK.meet ⟨73, [(0, .pb 0 0), (10, vs 0 ks), (11, vi ks.length), (12, vi i), (6, vi k), (7, .pb (i + 1) 0), (34, vb (!fitsB r y.1 y.2))], walkC m y.1 y.2 (.sl 2 3 ((st ++ dn).map vStep)) :: (Rk 14 i ++ [cR r])⟩ ?_ ?_
 ·refine DrawK.walk 11 mixed (by kernel_rfl) ?_
  simp only [go_sem, n0]
  refine CallY.mk hF (by simp only [go_sem]) (by simp only [go_sem]) (.inl (by simp only [go_sem])) ?_
  simp only [go_sem, vss]
 cases hf : fitsB r y.1 y.2
 ·rw [hf, if_neg (by simp)] at hW
  simp only [go_sem, vss, hW, List.append_nil]
 rw [hf, if_pos rfl] at hW
 simp only [go_sem, vss]
 refine DrawK.meet ⟨73, [(0, .pb 0 0), (10, vs 0 ks), (11, vi ks.length), (12, vi i), (6, vi k), (7, .pb (i + 1) 0), (8, vs 0 (fireO r y.2)), (9, vb (!overO r y.2))], walkC m y.1 y.2 (.sl 2 3 ((st ++ dn).map vStep)) :: (Rk 14 i ++ [cR r])⟩ ?_ ?_
 ·refine DrawK.news0 [] [] [] (i + 1) [] [] 7 walkTree none (cR r) mixed (by kernel_rfl) (by kernel_rfl) (by kernel_rfl) (by simp only [go_sem, n0]) (by simp only [go_sem, hB', List.length_append, List.length_cons, List.length_nil]; omega) ⟨by simp only [go_sem], by simp only [go_sem]⟩ ⟨by simp only [go_sem], by simp only [go_sem]⟩ ?_
  unfold walkTree
  simp only [go_sem, vss, n0, s0']
  refine CallY.mk hA (by simp only [go_sem]) (by simp only [go_sem]) (.inl (by simp only [go_sem])) ?_
  simp only [go_sem, s0']
 cases ho : overO r y.2
 case true =>
  rw [ho, if_pos rfl] at hW
  simp only [go_sem, vss, hW, List.append_nil]
 rw [ho, if_neg (by simp)] at hW
 have hfin := fire_finV hy2 (by unfold fitsB at hf; rw [Bool.and_eq_true] at hf; exact hf.2) (fun j hj => (hsl.low j hj).2.2.1) ho
 have hfl : (fireO r y.2).length = m.places.length := hfin.1
 obtain ⟨q, eq⟩ : ∃ q : Nat, r.dst = q := ⟨r.dst.toNat, by omega⟩
 rw [eq] at hW f3 f4
 rw [show ((q : Int)).toNat = q from rfl] at hW
 have hro : roomFor ((st ++ dn).length + 1) 40 := by simp only [roomFor, List.length_append]; omega
 simp only [go_sem, vss, n0, eq]
 have hcf := con_sconfigF q (fireO r y.2) (by omega)
 rw [vV_eq (cfgC q (fireO r y.2)), show (cfgC q (fireO r y.2)).n = 0 from rfl] at hcf
 refine DrawK.front [0] 14 mixed (by kernel_rfl) ?_
 simp only [go_sem]
 refine CallY.mk hcf (by simp only [go_sem]) (by simp only [go_sem]) (.inl (by simp only [go_sem])) ?_
 simp only [go_sem, hro, hwi, List.length_map]
 refine roundK.intro (i + 1, ((q : Int), fireO r y.2), dn ++ [⟨k, q, fireO r y.2⟩]) ⟨by show i + 1 <= _; omega, by show (0 : Int) <= q; omega, f4, hfin, by simp; omega, by rw [hW]; simp⟩ (by show ks.length - (i + 1) < ks.length - i; omega) ?_
 simp only [go_sem, Rk_succ, List.map_append, List.map_cons, List.map_nil, List.append_assoc]
 all_goals exact leB_RkA ⟨leC_any _ 14 rfl, trivial⟩
end Go.AM
