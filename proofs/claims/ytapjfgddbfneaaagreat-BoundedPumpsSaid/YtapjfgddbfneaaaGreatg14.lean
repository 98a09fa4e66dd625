/- TF TH TI TJ TK TL TM TN LPump2 LPump3 LPump4 -/
import Derived.Test.YtapjfgddbfneaaaGreatg13
import Derived.Test.YtapjfgddbfneaaaGreatg12
import Derived.Test.YtapjfgddbfneaaaGreatg7
namespace Go.AM
open Go Go.Proofs Go.RowKit
set_option maxRecDepth 100000
set_option maxHeartbeats 8000000
theorem con_rfireF (r : RD) (v : List Int) (np : Nat) (hr : SlimR np r) (hv : okV np v) (h6 : np <= 6) : Con Tryz.prog 77 [vRule r, vs 0 v] [] fun x _ => x = fireR r v 0 :=
 (Con.freezeR (fun _ => true) (con_rfire r v np hr hv h6)).weak fun r b ⟨r0, h0, h1⟩ => by
  subst h0; subst h1
  refine ⟨_, rfl, ?_⟩
  unfold fireR
  split <;> exact leV_refl _
theorem plain_slim {m : MD} {s0 : Nat} {v0 : List Int} (h : PlainM m s0 v0) : ∀ r ∈ m.rules, SlimR m.places.length r := fun r hr => by
 have h1 := good_small h.good r hr
 unfold SmallR at h1
 refine ⟨h1.1, h1.2.1, fun i hi => ?_⟩
 have a := h1.2.2.1 _ (mem_bangI (show i < r.need.length by omega))
 have b := h1.2.2.2 _ (mem_bangI (show i < r.give.length by omega))
 exact ⟨a.1, a.2, b.1, b.2⟩
theorem conf_ok0 {m : MD} {v0 : List Int} (h : PlainM m 0 v0) : okV m.places.length v0 := ⟨h.conf.len, fun x hx => .inl (h.conf.low x hx)⟩
def rootN (v0 : List Int) : ND := ⟨0, v0, -1, -1⟩
theorem tree_root {m : MD} {v0 : List Int} (h : PlainM m 0 v0) : Tree m.rules m.states.length m.places.length 0 v0 [rootN v0] 0 := by
 have h1 := h.good.states
 refine ⟨⟨rootN v0, List.mem_singleton.2 rfl, rfl, rfl⟩, by simp, by simp, fun i hi => ?_, fun i hi => by omega⟩
 have : i = 0 := by simp at hi; exact hi
 subst this
 refine ⟨⟨Int.le_refl _, by show (0 : Int) < _; omega⟩, conf_ok0 h, ⟨Int.le_refl _, by show (-1 : Int) < 0; omega⟩, ⟨Int.le_refl _, by show (-1 : Int) < 12; omega⟩⟩
theorem con_rstart (m : MD) (v0 : List Int) (h : PlainM m 0 v0) : Con Tryz.prog 26 [vM m] [] fun x _ => x = .tup [.ag [.sl 2 4 [vND (rootN v0)], vi 0], vi 0] := by
 refine Con.intro Tryz.func26 rfl Tryz.ntmps26 Tryz.results26 (by kernel_rfl) (by simp) 0 (by simp) ?_
 have h2 := h.good.places
 have hl0 := h.conf.len
 have hk : m.start.kids = .mk 0 [] :: v0.map fun n => .mk n [] := by rw [h.start]; rfl
 have hg0 : (m.start.kids.map vV)[0]? = some (.ag [.sc (.int .i64 0), .sl 0 2 []]) := by rw [hk]; exact getvV (l := .mk 0 [] :: v0.map fun n => CV.mk n []) (by simp)
 have hkl : 0 < m.start.kids.length := by rw [hk]; simp
 have hn := con_rNumbers m.start.n (.mk 0 []) (v0.map fun n => .mk n []) (by simp; omega)
 rw [cfg_nums, <- hk] at hn
 have hnF : Con Tryz.prog 15 [.ag [vi m.start.n, .sl 0 2 (m.start.kids.map vV)]] [] fun r _ => r = vs 0 v0 :=
  (Con.freezeR (fun _ => true) hn).weak fun r b ⟨r0, h0, h1⟩ => by
   subst h0; subst h1
   exact ⟨_, rfl, leV_refl _⟩
 simp only [go_sem, vM, cM, vss]
 refine CallU.free (con_rplain m h.good h.still) (by simp only [go_sem]) (by simp only [go_sem, vM, cM, vss]) ?_
 rintro r bx rfl
 simp only [go_sem]
 refine DrawK.walk 11 mixed (by kernel_rfl) ?_
 simp only [go_sem, hkl, hg0, List.length_map]
 refine CallY.mk hnF (by simp only [go_sem]) (by simp only [go_sem]) (.inl (by simp only [go_sem])) ?_
 simp only [go_sem, rootN]
def fireTree : Tr := .alt (.one 9 (.alt (.one 10 (.alt (.one 11 (.one 12 (.one 13 (.one 14 .done)))) (.one 12 (.alt (.one 11 (.one 13 (.one 14 .done))) (.one 13 (.one 11 (.one 14 .done))))))) (.alt (.one 11 (.alt (.one 10 (.one 12 (.one 13 (.one 14 .done)))) (.one 12 (.one 10 (.one 13 (.one 14 .done)))))) (.one 12 (.alt (.one 10 (.alt (.one 11 (.one 13 (.one 14 .done))) (.one 13 (.one 11 (.one 14 .done))))) (.one 11 (.one 10 (.one 13 (.one 14 .done))))))))) (.alt (.one 10 (.alt (.one 9 (.alt (.one 11 (.one 12 (.one 13 (.one 14 .done)))) (.one 12 (.alt (.one 11 (.one 13 (.one 14 .done))) (.one 13 (.one 11 (.one 14 .done))))))) (.one 11 (.one 9 (.one 12 (.one 13 (.one 14 .done))))))) (.one 11 (.alt (.one 9 (.alt (.one 10 (.one 12 (.one 13 (.one 14 .done)))) (.one 12 (.one 10 (.one 13 (.one 14 .done)))))) (.one 10 (.one 9 (.one 12 (.one 13 (.one 14 .done))))))))
theorem con_rstep (m : MD) (v0 : List Int) (l : List ND) (next : Nat) (h : PlainM m 0 v0) (hT : Tree m.rules m.states.length m.places.length 0 v0 l next) (hM : MadeN m.rules 0 v0 l next) : Con Tryz.prog 54 [vM m, .ag [.sl 0 4 (l.map vND), vi next]] []
  fun x _ => ∃ l' next' b e t, (t = 0 \/ t = 2) /\ (e = 0 -> Tree m.rules m.states.length m.places.length 0 v0 l' next' /\ next' <= next + 1 /\ MadeN m.rules 0 v0 l' next') /\ x = .tup [.ag [.sl t 4 (l'.map vND), vi (next' : Nat)], vb b, vi e] := by
 refine Con.intro Tryz.func54 rfl Tryz.ntmps54 Tryz.results54 (by kernel_rfl) (by simp) 0 (by simp) ?_
 have h2 := h.good.places
 have h3 := h.good.few
 have hlen := hT.len
 have hok := hT.nodes
 have hnl := hT.nextle
 have a1 : ¬ (next : Int) < 0 := by omega
 simp only [go_sem, vM, cM, vss]
 refine CallU.free (con_rplain m h.good h.still) (by simp only [go_sem]) (by simp only [go_sem, vM, cM, vss]) ?_
 rintro r bx rfl
 by_cases hlt : next < l.length
 case neg =>
  have hge : (l.length : Int) <= (next : Int) := by omega
  simp only [go_sem, a1, hge, List.length_map]
  exact ⟨l, next, false, 0, 0, .inl rfl, fun _ => ⟨hT, by omega, hM⟩, rfl⟩
 have hge : ¬ (l.length : Int) <= (next : Int) := by omega
 have hw : IntKind.i64.wrap ((next : Int) + 1) = ((next + 1 : Nat) : Int) := by rw [wrap_in (by omega) (by omega)]; omega
 have hro0 : roomFor l.length 48 := by simp only [roomFor]; omega
 simp only [go_sem, a1, hge, List.length_map]
 refine DrawK.news0 [(7, 3)] [2] [(34, 38)] 1 [] [] 8 (.one 8 .done) none [.sl 0 4 (l.map vND), vi next] mixed (by kernel_rfl) (by kernel_rfl) (by kernel_rfl) (by simp only [go_sem]) (by simp only [go_sem]) ⟨by simp only [go_sem], by simp only [go_sem]⟩ ⟨by simp only [go_sem], by simp only [go_sem]⟩ ?_
 have hrep : List.replicate 2 AV.any = [.any, .any] := rfl
 simp only [go_sem, hw, hro0, hrep, List.length_map]
 refine ⟨?_, trivial⟩
 have gn := getND hlt
 have hx := hT.node next hlt
 have hxv := hx.vec
 have hpart := hT.part
 have hdone := fun e => Tree.step (e := e) hT hlt
 have hag := fun k => hT.again hlt (k := k)
 have hput := fun (e : List ND) (k : Nat) (hp : Part m.rules m.states.length m.places.length 0 v0 l next e k) => hp.put
 have hskip := fun (e : List ND) (k : Nat) (hp : Part m.rules m.states.length m.places.length 0 v0 l next e k) => hp.skip
 obtain ⟨x, ex⟩ : ∃ x, x = l[next]! := ⟨_, rfl⟩
 rw [<- ex] at gn hx hxv hag hput hskip
 refine CallU.free (con_again l next m.states.length m.places.length hok (by omega) hlt) (by simp only [go_sem]) (by simp only [go_sem]) ?_
 rintro r bx ⟨b, rfl, hb⟩
 cases b
 case true =>
  obtain ⟨k, hk, e1, e2⟩ := hb rfl
  rw [<- ex] at e1 e2
  simp only [go_sem]
  exact ⟨l, next + 1, true, 0, _, .inr rfl, fun _ => ⟨hag k hk e1 e2, by omega, hM.next (by omega)⟩, rfl⟩
 simp only [go_sem, hlt, gn, List.length_map]
 refine LoopK.intro (fun p : Nat × List ND => ⟨117, [(2, .pb 0 0), (3, .pb 1 0), (4, .pb 2 0), (8, .pb 3 0), (9, .pb 4 0), (10, vi p.1)], [cM m, [.sl 0 4 (l.map vND), vi next], [.nil, vi 0], [.sl 2240 4 ((l ++ p.2).map vND), vi (next + 1 : Nat)], [vi x.st, vs 0 x.vec, vi x.par, vi x.rule]]⟩)
  (fun p => m.rules.length - p.1) (fun p => p.1 <= m.rules.length /\ Part m.rules m.states.length m.places.length 0 v0 l next p.2 p.1 /\ MadeN m.rules 0 v0 (l ++ p.2) (next + 1)) (0, []) ⟨by show 0 <= _; omega, hpart, by rw [List.append_nil]; exact hM.next (by omega)⟩ ?_ ?_
 ·simp only [go_sem, cM, vss, List.append_nil]
  all_goals exact leB_self _
 rintro ⟨i, e⟩ ⟨hi, hP, hQ⟩
 simp only at hi hP hQ
 by_cases hi2 : i < m.rules.length
 case neg =>
  obtain rfl : i = m.rules.length := by omega
  simp only [go_sem, cM, vss, hi2, List.length_map]
  exact ⟨l ++ e, next + 1, true, 0, _, .inr rfl, fun _ => ⟨hdone e hP, by omega, hQ⟩, rfl⟩
 have hgr := getRule hi2
 have hsl := plain_slim h _ (mem_bangI hi2)
 have hfr := (h.fine _ (mem_bangI hi2)).right
 have hsk := hskip e i hP
 have hpt := hput e i hP
 have hmk := fun hs hc (ho : okV m.places.length (fireO m.rules[i]! l[next]!.vec)) => hQ.put hlt hi2 hs hc ho
 rw [<- ex] at hmk
 have hPl := hP.len
 have hPf := hP.few
 have hwi : IntKind.i64.wrap ((i : Int) + 1) = i + 1 := wrap_in (by omega) (by omega)
 generalize m.rules[i]! = r at *
 obtain ⟨f1, f2, f3, f4, f5, f6⟩ := hfr
 simp only [go_sem, cM, vss, hi2, List.length_map]
 refine DrawK.walk 9 mixed (by kernel_rfl) ?_
 simp only [go_sem, hi2, hgr, List.length_map]
 by_cases hs : r.src = x.st
 case neg =>
  have hs' : (r.src != x.st) = true := bne_iff_ne.2 hs
  simp only [go_sem, hs', hwi]
  refine roundK.intro (i + 1, e) ⟨by show i + 1 <= _; omega, hsk (fun hh => (hs hh).elim), hQ⟩ (by show m.rules.length - (i + 1) < m.rules.length - i; omega) ?_
  simp only [go_sem]
  all_goals exact leB_self _
 have hs' : (r.src != x.st) = false := by rw [hs]; simp
 have hF := con_rfireF r x.vec m.places.length hsl hxv (by omega)
 unfold fireR at hF
 simp only [go_sem, hs']
 cases hc : canV r x.vec
 case false =>
  rw [hc, if_neg (by simp)] at hF
  refine DrawK.meet ⟨117, [(2, .pb 0 0), (3, .pb 1 0), (4, .pb 2 0), (8, .pb 3 0), (9, .pb 4 0), (10, vi i), (11, .nil), (12, vb false), (13, vb false)], [cM m, [.sl 0 4 (l.map vND), vi next], [.nil, vi 0], [.sl 2240 4 ((l ++ e).map vND), vi (next + 1 : Nat)], [vi x.st, vs 0 x.vec, vi x.par, vi x.rule]]⟩ ?_ ?_
  ·refine DrawK.news0 [] [] [] 1 [] [] 9 fireTree none [.sl 0 4 (l.map vND), vi next] mixed (by kernel_rfl) (by kernel_rfl) (by kernel_rfl) (by simp only [go_sem]) (by simp only [go_sem]) ⟨by simp only [go_sem], by simp only [go_sem]⟩ ⟨by simp only [go_sem], by simp only [go_sem]⟩ ?_
   unfold fireTree
   simp only [go_sem, hi2, hgr, List.length_map]
   refine CallY.mk hF (by simp only [go_sem]) (by simp only [go_sem]) (.inl (by simp only [go_sem])) ?_
   simp only [go_sem]
  simp only [go_sem, cM, vss, hwi]
  refine roundK.intro (i + 1, e) ⟨by show i + 1 <= _; omega, hsk (fun _ hh => by rw [hc] at hh; cases hh), hQ⟩ (by show m.rules.length - (i + 1) < m.rules.length - i; omega) ?_
  simp only [go_sem]
  all_goals exact leB_self _
 rw [hc, if_pos rfl] at hF
 refine DrawK.meet ⟨117, [(2, .pb 0 0), (3, .pb 1 0), (4, .pb 2 0), (8, .pb 3 0), (9, .pb 4 0), (10, vi i), (11, vs 0 (fireO r x.vec)), (12, vb true), (13, vb (overO r x.vec))], [cM m, [.sl 0 4 (l.map vND), vi next], [.nil, vi 0], [.sl 2240 4 ((l ++ e).map vND), vi (next + 1 : Nat)], [vi x.st, vs 0 x.vec, vi x.par, vi x.rule]]⟩ ?_ ?_
 ·refine DrawK.news0 [] [] [] 1 [] [] 9 fireTree none [.sl 0 4 (l.map vND), vi next] mixed (by kernel_rfl) (by kernel_rfl) (by kernel_rfl) (by simp only [go_sem]) (by simp only [go_sem]) ⟨by simp only [go_sem], by simp only [go_sem]⟩ ⟨by simp only [go_sem], by simp only [go_sem]⟩ ?_
  unfold fireTree
  simp only [go_sem, hi2, hgr, List.length_map]
  refine CallY.mk hF (by simp only [go_sem]) (by simp only [go_sem]) (.inl (by simp only [go_sem])) ?_
  simp only [go_sem]
 cases ho : overO r x.vec
 case true =>
  simp only [go_sem, cM, vss]
  exact ⟨l, next, false, 1, 0, .inl rfl, fun hh => (by cases hh), rfl⟩
 by_cases hfull : (256 : Int) <= ((l ++ e).length : Int)
 ·simp only [go_sem, cM, vss, hfull, List.length_map]
  exact ⟨l, next, false, 1, 0, .inl rfl, fun hh => (by cases hh), rfl⟩
 have hfo := fire_ok hxv hc (fun j hj => (hsl.low j hj).2.2.1) ho
 have hrg := raiseF_good (l := l) (n := next) (s := r.dst) (np := m.places.length) (v0 := fireO r x.vec) (finN (fireO r x.vec) + 1) hfo hfo.1 (fun i _ => .inl rfl)
 have hR := con_raise l next r.dst (fireO r x.vec) m.states.length m.places.length hok hfo (by omega) hlt
 have hro : roomFor ((l ++ e).length + 1) 48 := by simp only [roomFor]; omega
 simp only [go_sem, cM, vss, hfull, List.length_map]
 refine DrawK.walk 25 mixed (by kernel_rfl) ?_
 simp only [go_sem, hi2, hgr, List.length_map]
 refine CallY.mk hR (by simp only [go_sem]) (by simp only [go_sem]) (.inl (by simp only [go_sem])) ?_
 change okV m.places.length (raiseT l next r.dst (fireO r x.vec)) /\ raised (fireO r x.vec) (raiseT l next r.dst (fireO r x.vec)) at hrg
 have hm2 := hmk hs hc hfo
 generalize raiseT l next r.dst (fireO r x.vec) = w at hrg hm2
 simp only [go_sem, hro, hwi, List.length_map]
 have hnode : NodeOk m.states.length m.places.length (l ++ e).length (⟨r.dst, w, next, i⟩ : ND) := by
  refine ⟨⟨f3, f4⟩, hrg.1, ⟨by show (-1 : Int) <= (next : Int); omega, ?_⟩, ⟨by show (-1 : Int) <= (i : Int); omega, by show (i : Int) < 12; omega⟩⟩
  show (next : Int) < ((l ++ e).length : Int)
  rw [List.length_append]; omega
 have hp2 := hpt (by omega) hnode rfl (by rw [hrg.1.1, hxv.1]) (fun j hj => hrg.2.le hfo (by rw [fireO_len]; exact hj))
 refine roundK.intro (i + 1, e ++ [⟨r.dst, w, next, i⟩]) ⟨by show i + 1 <= _; omega, hp2, hm2⟩ (by show m.rules.length - (i + 1) < m.rules.length - i; omega) ?_
 simp only [go_sem, List.map_append, List.map_cons, List.map_nil, List.append_assoc]
 all_goals exact leB_self _
theorem con_rstepF (m : MD) (v0 : List Int) (l : List ND) (next : Nat) (h : PlainM m 0 v0) (hT : Tree m.rules m.states.length m.places.length 0 v0 l next) (hM : MadeN m.rules 0 v0 l next) : Con Tryz.prog 54 [vM m, .ag [.sl 0 4 (l.map vND), vi next]] []
  fun x _ => ∃ l' next' b e, (e = 0 -> Tree m.rules m.states.length m.places.length 0 v0 l' next' /\ next' <= next + 1 /\ MadeN m.rules 0 v0 l' next') /\ x = .tup [.ag [.sl 0 4 (l'.map vND), vi (next' : Nat)], vb b, vi e] :=
 (Con.freezeR (fun _ => true) (con_rstep m v0 l next h hT hM)).weak fun r b ⟨r0, ⟨l', n', b', e', t, ht, h0, h1⟩, h2⟩ => by
  subst h1; subst h2
  refine ⟨_, ⟨l', n', b', e', h0, rfl⟩, ?_⟩
  rcases ht with rfl | rfl <;> exact leV_refl _
theorem con_rrun (m : MD) (v0 : List Int) (l : List ND) (next budget : Nat) (h : PlainM m 0 v0) (hT : Tree m.rules m.states.length m.places.length 0 v0 l next) (hM : MadeN m.rules 0 v0 l next) (hb : budget <= 1000000) : Con Tryz.prog 27 [vM m, .ag [.sl 0 4 (l.map vND), vi next], vi budget] []
  fun x _ => ∃ l' next' k e, (e = 0 -> Tree m.rules m.states.length m.places.length 0 v0 l' next' /\ next' <= next + budget /\ MadeN m.rules 0 v0 l' next') /\ x = .tup [.ag [.sl 0 4 (l'.map vND), vi (next' : Nat)], vi k, vi e] := by
 refine Con.intro Tryz.func27 rfl Tryz.ntmps27 Tryz.results27 (by kernel_rfl) (by simp) 0 (by simp) ?_
 simp only [go_sem, vM, cM, vss]
 refine LoopK.intro (fun p : Nat × List ND × Nat => ⟨35, [(2, vi budget), (3, .pb 0 0), (4, .pb 1 0), (6, .pb 2 0), (9, vi p.1)], cM m :: [.sl 0 4 (p.2.1.map vND), vi p.2.2] :: [.nil, vi 0] :: Rk 2 p.1⟩)
  (fun p => budget - p.1) (fun p => p.1 <= budget /\ Tree m.rules m.states.length m.places.length 0 v0 p.2.1 p.2.2 /\ p.2.2 <= next + p.1 /\ MadeN m.rules 0 v0 p.2.1 p.2.2) (0, l, next) ⟨by show 0 <= _; omega, hT, by show next <= next + 0; omega, hM⟩ ?_ ?_
 ·simp only [go_sem, cM, vss, Rk, List.replicate_zero]
 obtain ⟨nx0, hnx⟩ : ∃ n, n = next := ⟨_, rfl⟩
 rw [<- hnx]
 clear hT hnx hM
 rintro ⟨i, l, next⟩ ⟨hi, hT, hnx, hM⟩
 simp only at hi hT hnx hM
 by_cases hi2 : i < budget
 case neg =>
  simp only [go_sem, cM, vss, hi2]
  exact ⟨l, next, i, 0, fun _ => ⟨hT, by omega, hM⟩, rfl⟩
 have hB' := Rk_len 2 i
 have n0 := fun L : List (List AV) => app_at0 (L := L) hB'
 have s0' := fun (L : List (List AV)) z => app_set0 (L := L) (z := z) hB'
 have hw : IntKind.i64.wrap ((i : Int) + 1) = i + 1 := wrap_in (by omega) (by omega)
 simp only [go_sem, cM, vss, hi2]
 refine CallU.free (con_rstepF m v0 l next h hT hM) (by simp only [go_sem]) (by simp only [go_sem, vM, cM, vss]) ?_
 rintro r bx ⟨l', next', b, e, he, rfl⟩
 by_cases he0 : e = 0
 case neg =>
  have he' : (e != 0) = true := bne_iff_ne.2 he0
  simp only [go_sem, hB', n0, s0', he']
  exact ⟨l, next, i, e, fun hh => (he0 hh).elim, rfl⟩
 have hT' := he he0
 have he' : (e != 0) = false := by rw [he0]; rfl
 cases b
 ·simp only [go_sem, hB', n0, s0', he']
  exact ⟨l, next, i, 0, fun _ => ⟨hT, by omega, hM⟩, rfl⟩
 simp only [go_sem, hB', n0, s0', he', hw]
 refine roundK.intro (i + 1, l', next') ⟨by show i + 1 <= _; omega, hT'.1, by show next' <= nx0 + (i + 1); have := hT'.2.1; omega, hT'.2.2⟩ (by show budget - (i + 1) < budget - i; omega) ?_
 simp only [go_sem, Rk_succ]
 all_goals exact leB_RkA (x := [[_, _]]) ⟨⟨leV_any _, leV_any _, trivial⟩, trivial⟩
theorem con_fcovers1 (y : SV) (s : Int) (v : List Int) (hy : y.2.length <= 1000000) (hv : v.length <= 1000000) : Con Tryz.prog 61 [vLim y, .fp [vi s] 0, .fp [vs 0 v] 0] [] fun x _ => x = .sc (.bool (y.1 == s && leqV v y.2)) := by
 refine Con.intro Tryz.func61 rfl Tryz.ntmps61 Tryz.results61 (by kernel_rfl) (by simp) 0 (by simp) ?_
 cases hs : (y.1 == s)
 ·simp only [go_sem, hs, Bool.false_and]
 ·simp only [go_sem, hs, Bool.true_and]
  refine CallU.free (con_vleq v y.2 hv hy) (by simp only [go_sem]) (by simp only [go_sem]) ?_
  rintro r bx rfl
  simp only [go_sem]
theorem con_fcovers (L : List SV) (s : Int) (v : List Int) (hL : ∀ y ∈ L, y.2.length <= 1000000) (hl : L.length <= 1000000) (hv : v.length <= 1000000) : Con Tryz.prog 34 [.sl 0 2 (L.map vLim), vi s, vs 0 v] [] fun x _ => x = vb (coverB L s v) := by
 refine Con.intro Tryz.func34 rfl Tryz.ntmps34 Tryz.results34 (by kernel_rfl) (by simp) 0 (by simp) ?_
 unfold coverB
 simp only [go_sem]
 refine CallU.look (con_containsLim L 61 [.fp [vi s] 0, .fp [vs 0 v] 0] (fun y => y.1 == s && leqV v y.2) (by simp only [go_sem]) (fun y hy => con_fcovers1 y s v (hL y hy) hv) (by omega)) (by simp only [go_sem]) (by simp only [go_sem]) ?_
 rintro r bx rfl
 simp only [go_sem]
theorem start_facts {m : MD} {v0 : List Int} (h : PlainM m 0 v0) : m.start.kids = .mk 0 [] :: v0.map (fun n => .mk n []) /\ (m.start.kids.map vV)[0]? = some (.ag [.sc (.int .i64 0), .sl 0 2 []]) /\ 0 < m.start.kids.length := by
 have hk : m.start.kids = .mk 0 [] :: v0.map fun n => .mk n [] := by rw [h.start]; rfl
 refine ⟨hk, by rw [hk]; exact getvV (l := .mk 0 [] :: v0.map fun n => CV.mk n []) (by simp), by rw [hk]; simp⟩
theorem con_numbersS (m : MD) (v0 : List Int) (h : PlainM m 0 v0) : Con Tryz.prog 35 [.ag [vi m.start.n, .sl 0 2 (m.start.kids.map vV)]] [] fun r _ => r = vs 0 v0 := by
 have h2 := h.good.places
 have hl0 := h.conf.len
 have hn := con_numbers m.start.n (.mk 0 []) (v0.map fun n => .mk n []) (by simp; omega)
 rw [cfg_nums, <- (start_facts h).1] at hn
 exact (Con.freezeR (fun _ => true) hn).weak fun r b ⟨r0, h0, h1⟩ => by
  subst h0; subst h1
  exact ⟨_, rfl, leV_refl _⟩
theorem con_fstart (m : MD) (v0 : List Int) (h : PlainM m 0 v0) : Con Tryz.prog 32 [vM m] [] fun x _ => x = .tup [.ag [.sl 2 4 [vND (rootN v0)], vi 0], vi 0] := by
 refine Con.intro Tryz.func32 rfl Tryz.ntmps32 Tryz.results32 (by kernel_rfl) (by simp) 0 (by simp) ?_
 obtain ⟨hk, hg0, hkl⟩ := start_facts h
 simp only [go_sem, vM, cM, vss]
 refine CallU.free (con_counts m h.good h.still) (by simp only [go_sem]) (by simp only [go_sem, vM, cM, vss]) ?_
 rintro r bx rfl
 simp only [go_sem]
 refine DrawK.walk 11 mixed (by kernel_rfl) ?_
 simp only [go_sem, hkl, hg0, List.length_map]
 refine CallY.mk (con_numbersS m v0 h) (by simp only [go_sem]) (by simp only [go_sem]) (.inl (by simp only [go_sem])) ?_
 simp only [go_sem, rootN]
theorem con_fstartF (m : MD) (v0 : List Int) (h : PlainM m 0 v0) : Con Tryz.prog 32 [vM m] [] fun x _ => x = .tup [.ag [.sl 0 4 [vND (rootN v0)], vi 0], vi 0] :=
 (Con.freezeR (fun _ => true) (con_fstart m v0 h)).weak fun r b ⟨r0, h0, h1⟩ => by
  subst h0; subst h1
  exact ⟨_, rfl, leV_refl _⟩
def boundR (L : List SV) (k : Int) : AV := if boundB L k then .tup [vi (mostF L k.toNat), vb true] else .tup [vi 0, vb false]
def bndAt (k : Int) (y : SV) : Bool := decide (0 <= k) && decide (k < y.2.length) && (y.2[k.toNat]! != Om)
theorem bound_no {L : List SV} {k : Int} {i : Nat} (h : i < L.length) (hb : bndAt k L[i]! = false) : boundB L k = false := by
 show L.all (bndAt k) = false
 rw [List.all_eq_false]
 exact ⟨L[i]!, mem_bangL h, by rw [hb]; simp⟩
theorem bound_yes {L : List SV} {k : Int} (hb : ∀ i, i < L.length -> bndAt k L[i]! = true) : boundB L k = true := by
 show L.all (bndAt k) = true
 rw [List.all_eq_true]
 intro x hx
 obtain ⟨i, hi, rfl⟩ := mem_bangSV hx
 exact hb i hi
theorem most_take {L : List SV} {k i : Nat} (h : i < L.length) : mostF (L.take (i + 1)) k = max (mostF (L.take i) k) L[i]!.2[k]! := by
 unfold mostF
 rw [List.take_add_one, List.getElem?_eq_getElem h, List.foldl_append, getElem!_pos L i h]; rfl
theorem con_bound (L : List SV) (k : Int) (hl : L.length <= 1000000) : Con Tryz.prog 16 [.sl 0 2 (L.map vLim), vi k] [] fun x _ => x = boundR L k := by
 refine Con.intro Tryz.func16 rfl Tryz.ntmps16 Tryz.results16 (by kernel_rfl) (by simp) 0 (by simp) ?_
 unfold boundR
 simp only [go_sem]
 refine LoopK.intro (fun i : Nat => ⟨41, [(1, vi k), (6, vi (mostF (L.take i) k.toNat)), (9, .sl 0 2 (L.map vLim)), (10, vi L.length), (11, vi i)], Rk 2 i⟩) (fun i => L.length - i) (fun i => i <= L.length /\ ∀ j, j < i -> bndAt k L[j]! = true) 0 ⟨by omega, fun j hj => by omega⟩ ?_ ?_
 ·simp only [go_sem, Rk, List.replicate_zero, mostF, List.take_zero, List.foldl_nil]
  all_goals exact leV_refl _
 rintro i ⟨hi, hb⟩
 by_cases h : i < L.length
 case neg =>
  obtain rfl : i = L.length := by omega
  simp only [go_sem, h, bound_yes hb, List.take_length]
 have hg := getLim h
 have hw : IntKind.i64.wrap ((i : Int) + 1) = i + 1 := wrap_in (by omega) (by omega)
 have hB' := Rk_len 2 i
 have n0 := fun L : List (List AV) => app_at0 (L := L) hB'
 have s0' := fun (L : List (List AV)) z => app_set0 (L := L) (z := z) hB'
 have hno := fun e => bound_no (k := k) h e
 have hmt := most_take (k := k.toNat) h
 have hb2 : bndAt k L[i]! = true -> ∀ j, j < i + 1 -> bndAt k L[j]! = true := fun e j hj => by
  by_cases hji : j = i
  ·subst hji; exact e
  ·exact hb j (by omega)
 generalize L[i]! = y at *
 by_cases hk0 : k < 0
 ·have e : boundB L k = false := hno (by unfold bndAt; rw [decide_eq_false (by omega), Bool.false_and, Bool.false_and])
  simp only [go_sem, h, hg, hB', n0, s0', hk0, e]
 obtain ⟨n, rfl⟩ : ∃ n : Nat, k = n := ⟨k.toNat, by omega⟩
 have etn : ((n : Int)).toNat = n := rfl
 rw [etn] at hmt
 by_cases hk1 : (y.2.length : Int) <= (n : Int)
 ·have e : boundB L n = false := hno (by unfold bndAt; rw [decide_eq_false (p := (n : Int) < _) (by omega), Bool.and_false, Bool.false_and])
  simp only [go_sem, h, hg, hB', n0, s0', hk0, hk1, e]
 have hn : n < y.2.length := by omega
 have gn := getv hn
 by_cases ho : y.2[n]! = 1099511627776
 ·have ho' : (y.2[n]! == 1099511627776) = true := beq_iff_eq.2 ho
  have e : boundB L n = false := hno (by unfold bndAt; rw [etn, show (y.2[n]! != Om) = false by rw [ho]; rfl, Bool.and_false])
  simp only [go_sem, h, hg, hB', n0, s0', hk0, hk1, hn, gn, ho', e]
 have ho' : (y.2[n]! == 1099511627776) = false := beq_eq_false_iff_ne.2 ho
 have hgood : bndAt n y = true := by
  unfold bndAt
  rw [etn, decide_eq_true (by omega), decide_eq_true (by omega), bne_iff_ne.2 ho]; rfl
 simp only [go_sem, h, hg, hB', n0, s0', hk0, hk1, hn, gn, ho', hw]
 refine roundK.intro (i + 1) ⟨by omega, hb2 hgood⟩ (by omega) ?_
 simp only [go_sem, Rk_succ, hmt]
 all_goals exact leB_RkA (x := [[_, _]]) ⟨⟨leV_any _, leV_any _, trivial⟩, trivial⟩
theorem con_ball1 (y : SV) (hy : y.2.length <= 1000000) : Con Tryz.prog 45 [vLim y] [] fun x _ => x = .sc (.bool (y.2.contains Om)) := by
 refine Con.intro Tryz.func45 rfl Tryz.ntmps45 Tryz.results45 (by kernel_rfl) (by simp) 0 (by simp) ?_
 simp only [go_sem]
 refine CallU.free (con_containsI y.2 1099511627776 (by omega)) (by simp only [go_sem]) (by simp only [go_sem]) ?_
 rintro r bx rfl
 simp only [go_sem, List.any_beq]
theorem con_ball (L : List SV) (hL : ∀ y ∈ L, y.2.length <= 1000000) (hl : L.length <= 1000000) : Con Tryz.prog 18 [.sl 0 2 (L.map vLim)] [] fun x _ => x = vb (!hasOm L) := by
 refine Con.intro Tryz.func18 rfl Tryz.ntmps18 Tryz.results18 (by kernel_rfl) (by simp) 0 (by simp) ?_
 unfold hasOm
 simp only [go_sem]
 refine CallU.look (con_containsLim L 45 [] (fun y => y.2.contains Om) (by simp only [go_sem]) (fun y hy => con_ball1 y (hL y hy)) (by omega)) (by simp only [go_sem]) (by simp only [go_sem]) ?_
 rintro r bx rfl
 simp only [go_sem]
theorem con_holds1 (y : SV) (r : RD) (w : List Int) (h : w.length <= y.2.length) (hl : w.length <= 1000000) : Con Tryz.prog 39 [vLim y, .fp (cR r) 0, .fp [vs 0 w] 0] [] fun x _ => x = .sc (.bool (y.1 == r.dst && atB w y.2)) := by
 refine Con.intro Tryz.func39 rfl Tryz.ntmps39 Tryz.results39 (by kernel_rfl) (by simp) 0 (by simp) ?_
 cases hs : (y.1 == r.dst)
 ·simp only [go_sem, hs, Bool.false_and]
 ·simp only [go_sem, hs, Bool.true_and]
  refine CallU.free (con_atMost w y.2 h hl) (by simp only [go_sem]) (by simp only [go_sem]) ?_
  rintro r bx rfl
  simp only [go_sem]
def ruleOk (L : List SV) (x : SV) (r : RD) : Bool := !fitsB r x.1 x.2 || L.any fun y => y.1 == r.dst && atB (fireO r x.2) y.2
def limOk (rules : List RD) (L : List SV) (x : SV) : Bool := rules.all (ruleOk L x)
theorem closedB_eq (rules : List RD) (L : List SV) : closedB rules L = L.all (limOk rules L) := rfl
theorem all_hit {α : Type _} [Inhabited α] {l : List α} {p : α -> Bool} {i : Nat} (h : i < l.length) (hp : p l[i]! = false) : l.all p = false := by
 rw [List.all_eq_false]
 exact ⟨l[i]!, by rw [getElem!_pos l i h]; exact List.getElem_mem h, by rw [hp]; simp⟩
theorem all_yes {α : Type _} [Inhabited α] {l : List α} {p : α -> Bool} (h : ∀ i, i < l.length -> p l[i]! = true) : l.all p = true := by
 rw [List.all_eq_true]
 intro x hx
 obtain ⟨i, hi, rfl⟩ := List.mem_iff_getElem.1 hx
 have := h i hi
 rw [getElem!_pos l i hi] at this
 exact this
theorem con_bholds (m : MD) (v0 : List Int) (L : List SV) (h : PlainM m 0 v0) (hL : ∀ y ∈ L, 0 <= y.1 /\ y.1 < m.states.length /\ okV m.places.length y.2) (hl : L.length <= 256) : Con Tryz.prog 13 [vM m, .sl 0 2 (L.map vLim)] [] fun x _ => x = vi (holdsL m.rules L 0 v0) := by
 refine Con.intro Tryz.func13 rfl Tryz.ntmps13 Tryz.results13 (by kernel_rfl) (by simp) 0 (by simp) ?_
 have h1 := h.good.states
 have h2 := h.good.places
 have h3 := h.good.few
 have hl0 := h.conf.len
 obtain ⟨hk, hg0, hkl⟩ := start_facts h
 have h256 : ¬ (256 : Int) < (L.length : Int) := by omega
 simp only [go_sem, vM, cM, vss]
 refine CallU.free (con_fstartF m v0 h) (by simp only [go_sem]) (by simp only [go_sem, vM, cM, vss]) ?_
 rintro r bx rfl
 simp only [go_sem, h256, List.length_map]
 refine LoopK.intro (fun i : Nat => ⟨103, [(1, .sl 0 2 (L.map vLim)), (2, .pb 0 0), (26, .sl 0 2 (L.map vLim)), (27, vi L.length), (28, vi i)], cM m :: [.sl 0 4 [vND (rootN v0)], vi 0] :: Rk 2 i⟩) (fun i => L.length - i) (fun i => i <= L.length) 0 (by omega) ?_ ?_
 ·simp only [go_sem, cM, vss, Rk, List.replicate_zero]
  all_goals exact leV_refl _
 rintro i hi
 by_cases hlt : i < L.length
 ·have hg := getLim hlt
  have hy := hL _ (mem_bangL hlt)
  have hw : IntKind.i64.wrap ((i : Int) + 1) = i + 1 := wrap_in (by omega) (by omega)
  have hB' := Rk_len 2 i
  have n0 := fun L : List (List AV) => app_at0 (L := L) hB'
  have s0' := fun (L : List (List AV)) z => app_set0 (L := L) (z := z) hB'
  generalize L[i]! = y at *
  have a1 : ¬ y.1 < 0 := by omega
  have a2 : ¬ (m.states.length : Int) <= y.1 := by omega
  have a3 : ((y.2.length : Int) != (m.places.length : Int)) = false := by rw [hy.2.2.1]; simp
  have hv := con_vvalid y.2 (by have := hy.2.2.1; omega)
  rw [ok_vec hy.2.2 (by omega)] at hv
  simp only [go_sem, cM, vss, hlt, hg, hB', n0, s0', a1, a2, a3, List.length_map]
  refine CallU.free hv (by simp only [go_sem]) (by simp only [go_sem]) ?_
  rintro r bx rfl
  simp only [go_sem, hw]
  refine roundK.intro (i + 1) (by omega) (by omega) ?_
  simp only [go_sem, Rk_succ]
  all_goals exact leB_RkA (x := [[_, _]]) ⟨⟨leV_any _, leV_any _, trivial⟩, trivial⟩
 obtain rfl : i = L.length := by omega
 simp only [go_sem, cM, vss, hlt]
 refine DrawK.walk 12 mixed (by kernel_rfl) ?_
 simp only [go_sem, hkl, hg0, List.length_map]
 refine CallY.mk (con_numbersS m v0 h) (by simp only [go_sem]) (by simp only [go_sem]) (.inl (by simp only [go_sem])) ?_
 simp only [go_sem]
 refine CallY.mk (con_fcovers L 0 v0 (fun y hy => by have := (hL y hy).2.2.1; omega) (by omega) (by omega)) (by simp only [go_sem]) (by simp only [go_sem]) (.inl (by simp only [go_sem])) ?_
 unfold holdsL
 cases hc : coverB L 0 v0
 ·simp only [go_sem]
 simp only [go_sem, List.length_map]
 rw [closedB_eq]
 refine LoopK.intro (fun p : Nat × List Nat => ⟨103, [(1, .sl 0 2 (L.map vLim)), (2, .pb 0 0), (70, .sl 0 2 (L.map vLim)), (71, vi L.length), (72, vi p.1)], cM m :: [.sl 0 4 [vND (rootN v0)], vi 0] :: Jk p.2⟩) (fun p => L.length - p.1) (fun p => p.1 <= L.length /\ ∀ j, j < p.1 -> limOk m.rules L L[j]! = true) (0, List.replicate L.length 2) ⟨by show 0 <= _; omega, fun j hj => by omega⟩ ?_ ?_
 ·simp only [go_sem, cM, vss, Jk, Rk, List.map_replicate]
  all_goals first | exact leB_self _ | exact leV_refl _ | exact ⟨leV_refl _, leB_self _⟩ | exact ⟨leB_self _, leV_refl _⟩
 rintro ⟨i, ks⟩ ⟨hi, hb⟩
 simp only at hi hb
 have hB := Jk_len ks
 by_cases hlt2 : i < L.length
 case neg =>
  have e : L.all (limOk m.rules L) = true := all_yes fun j hj => hb j (by omega)
  simp only [go_sem, hlt2, e]
 have hg := getLim hlt2
 have hx := hL _ (mem_bangL hlt2)
 have hw : IntKind.i64.wrap ((i : Int) + 1) = i + 1 := wrap_in (by omega) (by omega)
 have n0 := fun L : List (List AV) => app_at0 (L := L) hB
 have n1 := fun (L : List (List AV)) (i : Nat) => app_at (L := L) (i := i) hB
 have s0 := fun (L : List (List AV)) z => app_set0 (L := L) (z := z) hB
 have s1 := fun (L : List (List AV)) (i : Nat) z => app_setN (L := L) (i := i) (z := z) hB
 have hbad := fun e => all_hit (p := limOk m.rules L) hlt2 e
 have hb2 : limOk m.rules L L[i]! = true -> ∀ j, j < i + 1 -> limOk m.rules L L[j]! = true := fun e j hj => by
  by_cases hji : j = i
  ·subst hji; exact e
  ·exact hb j (by omega)
 generalize L[i]! = x at *
 have hxl := hx.2.2.1
 simp only [go_sem, cM, vss, hlt2, hg, hB, n0, s0, List.length_map]
 refine LoopK.intro (fun p : Nat × List Nat => ⟨103, [(1, .sl 0 2 (L.map vLim)), (2, .pb 0 0), (70, .sl 0 2 (L.map vLim)), (71, vi L.length), (72, vi i), (10, .pb (ks.length + 1 + 1) 0), (77, .sl 0 14 (m.rules.map vRule)), (78, vi m.rules.length), (79, vi p.1)], cM m :: [.sl 0 4 [vND (rootN v0)], vi 0] :: (Jk ks ++ ([vi x.1, vs 0 x.2] :: Jk p.2))⟩)
  (fun p => m.rules.length - p.1) (fun p => p.1 <= m.rules.length /\ ∀ j, j < p.1 -> ruleOk L x m.rules[j]! = true) (0, []) ⟨by show 0 <= _; omega, fun j hj => by omega⟩ ?_ ?_
 ·simp only [go_sem, cM, vss, Jk, List.map_nil]
  all_goals first | exact leB_self _ | exact leV_refl _ | exact ⟨leV_refl _, leB_self _⟩ | exact ⟨leB_self _, leV_refl _⟩
 rintro ⟨k, ds⟩ ⟨hk2, hbk⟩
 simp only at hk2 hbk
 have hD := Jk_len ds
 have m0 := fun L : List (List AV) => app_at0 (L := L) hD
 have m1 := fun (L : List (List AV)) (i : Nat) => app_at (L := L) (i := i) hD
 have t0 := fun (L : List (List AV)) z => app_set0 (L := L) (z := z) hD
 have t1 := fun (L : List (List AV)) (i : Nat) z => app_setN (L := L) (i := i) (z := z) hD
 by_cases hr2 : k < m.rules.length
 case neg =>
  have e : limOk m.rules L x = true := all_yes fun j hj => hbk j (by omega)
  simp only [go_sem, cM, vss, hr2, hw]
  refine roundK.intro (i + 1, ks ++ (2 :: ds)) ⟨by show i + 1 <= _; omega, hb2 e⟩ (by show L.length - (i + 1) < L.length - i; omega) ?_
  simp only [go_sem]
  all_goals exact leB_JkA ⟨⟨leV_any _, leV_any _, trivial⟩, leB_self _⟩
 have hgr := getRule hr2
 have hsl := plain_slim h _ (mem_bangI hr2)
 have hwk : IntKind.i64.wrap ((k : Int) + 1) = k + 1 := wrap_in (by omega) (by omega)
 have hbadk := fun e => all_hit (p := ruleOk L x) hr2 e
 have hbk2 : ruleOk L x m.rules[k]! = true -> ∀ j, j < k + 1 -> ruleOk L x m.rules[j]! = true := fun e j hj => by
  by_cases hji : j = k
  ·subst hji; exact e
  ·exact hbk j (by omega)
 generalize m.rules[k]! = r at *
 have hF := con_fitsV r x.1 x.2 (by rw [hsl.need, hxl]) (by omega)
 have hA := con_afterF r x.2 m.places.length hsl hx.2.2 (by omega) h2.1
 have hfl : (fireO r x.2).length = m.places.length := by rw [fireO_len, hxl]
 simp only [go_sem, cM, vss, hr2, hgr, hB, hD, n0, n1, s1, m0, t0, List.length_map, List.append_assoc, List.cons_append, List.length_append, List.length_cons, List.length_nil]
 refine CallU.free hF (by simp only [go_sem]) (by simp only [go_sem]) ?_
 rintro z bx rfl
 cases hf : fitsB r x.1 x.2
 ·simp only [go_sem, hwk]
  refine roundK.intro (k + 1, ds ++ [14]) ⟨by show k + 1 <= _; omega, hbk2 (by unfold ruleOk; rw [hf]; rfl)⟩ (by show m.rules.length - (k + 1) < m.rules.length - k; omega) ?_
  simp only [go_sem]
  all_goals exact leB_app (leB_self _) ⟨leC_self _, leB_JkA ⟨leC_any _ 14 rfl, trivial⟩⟩
 simp only [go_sem, n0, n1, m0, List.length_cons, List.length_nil]
 refine CallU.free hA (by simp only [go_sem]) (by simp only [go_sem]) ?_
 rintro z bx rfl
 simp only [go_sem, hB, hD, n1, s1, m1, t1, List.append_assoc, List.cons_append, List.nil_append, List.length_append, List.length_cons, List.length_nil]
 refine CallU.look (con_containsLim L 39 [.fp (cR r) 0, .fp [vs 0 (fireO r x.2)] 0] (fun y => y.1 == r.dst && atB (fireO r x.2) y.2) (by simp only [go_sem]) (fun y hy => con_holds1 y r (fireO r x.2) (by have := (hL y hy).2.2.1; omega) (by omega)) (by omega)) (by simp only [go_sem]) (by simp only [go_sem, n1, m0, m1]) ?_
 rintro z bx rfl
 cases hq : (L.any fun y => y.1 == r.dst && atB (fireO r x.2) y.2)
 ·have e := hbad (hbadk (by unfold ruleOk; rw [hf, hq]; rfl))
  simp only [go_sem, e]
 ·simp only [go_sem, hwk]
  refine roundK.intro (k + 1, ds ++ [14, 1]) ⟨by show k + 1 <= _; omega, hbk2 (by unfold ruleOk; rw [hf, hq]; rfl)⟩ (by show m.rules.length - (k + 1) < m.rules.length - k; omega) ?_
  simp only [go_sem]
  all_goals exact leB_app (leB_self _) ⟨leC_self _, leB_JkA ⟨leC_any _ 14 rfl, ⟨leV_any _, trivial⟩, trivial⟩⟩
theorem con_sconfig (s : Nat) (v : List Int) (hv : v.length <= 100) : Con Tryz.prog 69 [vi s, vs 0 v] [] fun r _ => r = cfgN 2 s v := by
 refine Con.intro Tryz.func69 rfl Tryz.ntmps69 Tryz.results69 (by kernel_rfl) (by simp) 0 (by simp) ?_
 simp only [go_sem]
 refine LoopK.intro (fun i : Nat => ⟨27, [(4, .pb 0 0), (5, .pb 1 0), (12, vs 0 v), (13, vi v.length), (14, vi i)], [[.any, .any], [vi 0, .sl 704 2 (((s : Int) :: v.take i).map kidN)]]⟩)
  (fun i => v.length - i) (fun i => i <= v.length) 0 (by omega) ?_ ?_
 ·simp only [go_sem, List.take_zero, List.map_cons, List.map_nil]
  all_goals first | exact leV_refl _ | exact leB_self _ | exact ⟨leV_refl _, leB_self _⟩
 rintro i hi
 by_cases h : i < v.length
 ·have hw : IntKind.i64.wrap (i + 1) = i + 1 := wrap_in (by omega) (by omega)
  have hg := getv h
  have e : v.take (i + 1) = v.take i ++ [v[i]!] := by rw [List.take_add_one, List.getElem?_eq_getElem h, getElem!_pos v i h]; rfl
  simp only [go_sem, h, hg, hw, List.map_cons]
  refine ⟨by simp only [roomFor, List.length_take]; omega, roundK.intro (i + 1) (by omega) (by omega) ?_⟩
  simp only [go_sem, e, List.map_append, List.map_cons, List.map_nil]
 ·have e : i = v.length := by omega
  subst e
  simp only [go_sem, h, List.take_length, List.map_cons]
theorem con_sconfigF (s : Nat) (v : List Int) (hv : v.length <= 100) : Con Tryz.prog 69 [vi s, vs 0 v] [] fun r _ => r = vV (cfgC s v) :=
 (Con.freezeR (fun _ => true) (con_sconfig s v hv)).weak fun r b ⟨r0, h0, h1⟩ => by
  subst h0; subst h1
  exact ⟨_, rfl, cfg_le _ _⟩
def walkC (m : MD) (s : Int) (v : List Int) (a : AV) : List AV := [vi m.kind, vss m.states, vss m.places, vss m.letters, vs 0 m.ranks, vi m.levels, vi m.age, .sl 0 14 (m.rules.map vRule), vi m.start.n, .sl 0 2 (m.start.kids.map vV), vi s, vs 0 v, a]
attribute [go_sem] walkC
theorem con_bstart (m : MD) (v0 : List Int) (h : PlainM m 0 v0) : Con Tryz.prog 43 [vM m] [] fun r b => r = .pb 1 0 /\ b = [cM m, walkC m 0 v0 .nil] := by
 refine Con.intro Tryz.func43 rfl Tryz.ntmps43 Tryz.results43 (by kernel_rfl) (by simp) 2 (by simp) ?_
 obtain ⟨hk, hg0, hkl⟩ := start_facts h
 simp only [go_sem, vM, cM, vss]
 refine DrawK.walk 11 mixed (by kernel_rfl) ?_
 simp only [go_sem, hkl, hg0, List.length_map]
 refine CallY.mk (con_numbersS m v0 h) (by simp only [go_sem]) (by simp only [go_sem]) (.inl (by simp only [go_sem])) ?_
 simp only [go_sem]
def walkTree : Tr := .alt (.one 7 (.alt (.one 8 (.one 9 (.one 10 .done))) (.one 9 (.one 8 (.one 10 .done))))) (.one 8 (.one 7 (.one 9 (.one 10 .done))))
theorem walk_drop {rules : List RD} {ks : List Int} {i : Nat} (h : i < ks.length) (y : SV) : walkF rules y (ks.drop i) = if fitsB rules[ks[i]!.toNat]! y.1 y.2 then if overO rules[ks[i]!.toNat]! y.2 then (1, y, []) else
   ((walkF rules (rules[ks[i]!.toNat]!.dst, fireO rules[ks[i]!.toNat]! y.2) (ks.drop (i + 1))).1, (walkF rules (rules[ks[i]!.toNat]!.dst, fireO rules[ks[i]!.toNat]! y.2) (ks.drop (i + 1))).2.1, ⟨ks[i]!.toNat, rules[ks[i]!.toNat]!.dst.toNat, fireO rules[ks[i]!.toNat]! y.2⟩ :: (walkF rules (rules[ks[i]!.toNat]!.dst, fireO rules[ks[i]!.toNat]! y.2) (ks.drop (i + 1))).2.2) else (18, y, []) := by
 rw [List.drop_eq_getElem_cons h, getElem!_pos ks i h, walkF]
theorem con_walk (m : MD) (v0 : List Int) (s : Int) (v : List Int) (ks : List Int) (st : List StD) (a : AV) (h : PlainM m 0 v0) (hs : 0 <= s /\ s < m.states.length) (hv : finV m.places.length v) (hk : ∀ k ∈ ks, 0 <= k /\ k < m.rules.length) (hl : ks.length <= 64) (hst : st.length <= 1000) (ha : leV a (.sl 2 3 (st.map vStep))) :
  ConX Tryz.prog 44 [.pb 0 0, vs 0 ks] [walkC m s v a] fun x b => x = vi (walkF m.rules (s, v) ks).1 /\ b = [walkC m (walkF m.rules (s, v) ks).2.1.1 (walkF m.rules (s, v) ks).2.1.2 (.sl 2 3 ((st ++ (walkF m.rules (s, v) ks).2.2).map vStep))] := by
 refine ConX.intro Tryz.func44 rfl Tryz.ntmps44 Tryz.results44 (by kernel_rfl) (by simp) 1 (by simp) ?_
 have h2 := h.good.places
 have h3 := h.good.few
 simp only [go_sem, vss]
 refine LoopK.intro (fun p : Nat × SV × List StD => ⟨73, [(0, .pb 0 0), (10, vs 0 ks), (11, vi ks.length), (12, vi p.1)], walkC m p.2.1.1 p.2.1.2 (.sl 2 3 ((st ++ p.2.2).map vStep)) :: Rk 14 p.1⟩)
  (fun p => ks.length - p.1) (fun p => p.1 <= ks.length /\ 0 <= p.2.1.1 /\ p.2.1.1 < m.states.length /\ finV m.places.length p.2.1.2 /\ p.2.2.length <= p.1 /\ walkF m.rules (s, v) ks = ((walkF m.rules p.2.1 (ks.drop p.1)).1, (walkF m.rules p.2.1 (ks.drop p.1)).2.1, p.2.2 ++ (walkF m.rules p.2.1 (ks.drop p.1)).2.2)) (0, (s, v), []) ⟨by show 0 <= _; omega, hs.1, hs.2, hv, by simp, by simp⟩ ?_ ?_
 ·simp only [go_sem, vss, Rk, List.replicate_zero, List.append_nil]
  exact ha
 rintro ⟨i, y, dn⟩ ⟨hi, hy0, hy1, hy2, hdn, hW⟩
 simp only at hi hy0 hy1 hy2 hdn hW
 obtain ⟨R, hR⟩ : ∃ R, walkF m.rules (s, v) ks = R := ⟨_, rfl⟩
 rw [hR] at hW ⊢
 by_cases hlt : i < ks.length
 case neg =>
  obtain rfl : i = ks.length := by omega
  rw [List.drop_length, walkF] at hW
  simp only [go_sem, vss, hlt, hW, List.append_nil]
 have hg := getv hlt
 have hki := hk _ (mem_bangI hlt)
 have hwi : IntKind.i64.wrap ((i : Int) + 1) = i + 1 := wrap_in (by omega) (by omega)
 rw [walk_drop hlt] at hW
 obtain ⟨k, ek⟩ : ∃ k : Nat, ks[i]! = k := ⟨ks[i]!.toNat, by omega⟩
 rw [ek] at hg hki hW
 rw [show ((k : Int)).toNat = k from rfl] at hW
 have hkl : k < m.rules.length := by omega
 have hgr := getRule hkl
 have hsl := plain_slim h _ (mem_bangI hkl)
 have hfr := (h.fine _ (mem_bangI hkl)).right
 have hyl := hy2.1
 generalize m.rules[k]! = r at *
 obtain ⟨f1, f2, f3, f4, f5, f6⟩ := hfr
 have hF := con_fitsV r y.1 y.2 (by rw [hsl.need, hyl]) (by omega)
 have hA := con_afterF r y.2 m.places.length hsl hy2.ok (by omega) h2.1
 have hB' := Rk_len 14 i
 have n0 := fun L : List (List AV) => app_at0 (L := L) hB'
 have n1 := fun (L : List (List AV)) (i : Nat) => app_at (L := L) (i := i) hB'
 have s0' := fun (L : List (List AV)) z => app_set0 (L := L) (z := z) hB'
 simp only [go_sem, vss, hlt, hg, hkl, hgr, hB', n0, s0', List.length_map]
 refine DrawK.meet ⟨73, [(0, .pb 0 0), (10, vs 0 ks), (11, vi ks.length), (12, vi i), (6, vi k), (7, .pb (i + 1) 0), (34, vb (!fitsB r y.1 y.2))], walkC m y.1 y.2 (.sl 2 3 ((st ++ dn).map vStep)) :: (Rk 14 i ++ [cR r])⟩ ?_ ?_
 ·refine DrawK.walk 11 mixed (by kernel_rfl) ?_
  simp only [go_sem, n0]
  refine CallY.mk hF (by simp only [go_sem]) (by simp only [go_sem]) (.inl (by simp only [go_sem])) ?_
  simp only [go_sem, vss]
 cases hf : fitsB r y.1 y.2
 ·rw [hf, if_neg (by simp)] at hW
  simp only [go_sem, vss, hW, List.append_nil]
 rw [hf, if_pos rfl] at hW
 simp only [go_sem, vss]
 refine DrawK.meet ⟨73, [(0, .pb 0 0), (10, vs 0 ks), (11, vi ks.length), (12, vi i), (6, vi k), (7, .pb (i + 1) 0), (8, vs 0 (fireO r y.2)), (9, vb (!overO r y.2))], walkC m y.1 y.2 (.sl 2 3 ((st ++ dn).map vStep)) :: (Rk 14 i ++ [cR r])⟩ ?_ ?_
 ·refine DrawK.news0 [] [] [] (i + 1) [] [] 7 walkTree none (cR r) mixed (by kernel_rfl) (by kernel_rfl) (by kernel_rfl) (by simp only [go_sem, n0]) (by simp only [go_sem, hB', List.length_append, List.length_cons, List.length_nil]; omega) ⟨by simp only [go_sem], by simp only [go_sem]⟩ ⟨by simp only [go_sem], by simp only [go_sem]⟩ ?_
  unfold walkTree
  simp only [go_sem, vss, n0, s0']
  refine CallY.mk hA (by simp only [go_sem]) (by simp only [go_sem]) (.inl (by simp only [go_sem])) ?_
  simp only [go_sem, s0']
 cases ho : overO r y.2
 case true =>
  rw [ho, if_pos rfl] at hW
  simp only [go_sem, vss, hW, List.append_nil]
 rw [ho, if_neg (by simp)] at hW
 have hfin := fire_finV hy2 (by unfold fitsB at hf; rw [Bool.and_eq_true] at hf; exact hf.2) (fun j hj => (hsl.low j hj).2.2.1) ho
 have hfl : (fireO r y.2).length = m.places.length := hfin.1
 obtain ⟨q, eq⟩ : ∃ q : Nat, r.dst = q := ⟨r.dst.toNat, by omega⟩
 rw [eq] at hW f3 f4
 rw [show ((q : Int)).toNat = q from rfl] at hW
 have hro : roomFor ((st ++ dn).length + 1) 40 := by simp only [roomFor, List.length_append]; omega
 simp only [go_sem, vss, n0, eq]
 have hcf := con_sconfigF q (fireO r y.2) (by omega)
 rw [vV_eq (cfgC q (fireO r y.2)), show (cfgC q (fireO r y.2)).n = 0 from rfl] at hcf
 refine DrawK.front [0] 14 mixed (by kernel_rfl) ?_
 simp only [go_sem]
 refine CallY.mk hcf (by simp only [go_sem]) (by simp only [go_sem]) (.inl (by simp only [go_sem])) ?_
 simp only [go_sem, hro, hwi, List.length_map]
 refine roundK.intro (i + 1, ((q : Int), fireO r y.2), dn ++ [⟨k, q, fireO r y.2⟩]) ⟨by show i + 1 <= _; omega, by show (0 : Int) <= q; omega, f4, hfin, by simp; omega, by rw [hW]; simp⟩ (by show ks.length - (i + 1) < ks.length - i; omega) ?_
 simp only [go_sem, Rk_succ, List.map_append, List.map_cons, List.map_nil, List.append_assoc]
 all_goals exact leB_RkA ⟨leC_any _ 14 rfl, trivial⟩
theorem con_growInt0 : Con Tryz.prog 68 [.nil, vi 0] [] fun r _ => r = .nil := by
 refine Con.intro Tryz.func68 rfl Tryz.ntmps68 Tryz.results68 (by kernel_rfl) (by simp) 0 (by simp) ?_
 have hz : IntKind.i64.wrap 0 = 0 := wrap_in (by omega) (by omega)
 have hz2 : IntKind.i64.wrap (0 - 0) = 0 := wrap_in (by omega) (by omega)
 simp only [go_sem, hz]
theorem con_concatInt0 (ls : List (List Int)) (h1 : ls.flatten.length = 0) (hl : ls.length <= 1000000) : Con Tryz.prog 42 [.sl 0 1 (ls.map (vs 0))] [] fun r _ => r = .sl 2 1 (ls.flatten.map vi) := by
 refine Con.intro Tryz.func42 rfl Tryz.ntmps42 Tryz.results42 (by kernel_rfl) (by simp) 0 (by simp) ?_
 simp only [go_sem]
 refine LoopK.intro (fun i : Nat => ⟨36, [(0, .sl 0 1 (ls.map (vs 0))), (2, .nil), (3, vi (sumL ls i)), (9, .sl 0 1 (ls.map (vs 0))), (10, vi ls.length), (11, vi i)], []⟩)
  (fun i => ls.length - i) (fun i => i <= ls.length) 0 (by omega) ?_ ?_
 ·simp only [go_sem, sumL_zero]
  all_goals exact leV_refl _
 rintro i hi
 have hm := sumL_mono (ls := ls) (i := i)
 have h2 : ls.flatten.length <= 1000000 := by omega
 by_cases h : i < ls.length
 ·have hg := getRowI h
  have hw : IntKind.i64.wrap (i + 1) = i + 1 := wrap_in (by omega) (by omega)
  have hm2 := sumL_mono (ls := ls) (i := i + 1)
  have hs := sumL_succ h
  have hw2 : IntKind.i64.wrap ((sumL ls i : Int) + (ls[i]!.length : Int)) = (sumL ls (i + 1) : Int) := by rw [wrap_in (by omega) (by omega)]; omega
  have a1 : ¬ ((sumL ls (i + 1) : Int) < 0) := by omega
  simp only [go_sem, h, hg, hw, hw2, a1]
  refine roundK.intro (i + 1) (by omega) (by omega) ?_
  simp only [go_sem]
 ·obtain rfl : i = ls.length := by omega
  have e : sumL ls ls.length = ls.flatten.length := by unfold sumL; rw [List.take_length, <- List.length_flatten]
  rw [h1] at e
  simp only [go_sem, h, e]
  refine CallU.free con_growInt0 (by simp only [go_sem]) (by simp only [go_sem]) ?_
  rintro r bx rfl
  simp only [go_sem]
  refine LoopK.intro (fun i : Nat => ⟨36, [(0, .sl 0 1 (ls.map (vs 0))), (2, .nil), (6, .sl 1602 1 (((ls.take i).flatten).map vi)), (25, .sl 0 1 (ls.map (vs 0))), (26, vi ls.length), (27, vi i)], []⟩)
   (fun i => ls.length - i) (fun i => i <= ls.length) 0 (by omega) ?_ ?_
  ·simp only [go_sem, List.take_zero, List.flatten_nil, List.map_nil]
   all_goals exact leV_refl _
  rintro i hi
  by_cases h : i < ls.length
  ·have hg := getRowI h
   have hw : IntKind.i64.wrap (i + 1) = i + 1 := wrap_in (by omega) (by omega)
   have hm2 := sumL_mono (ls := ls) (i := i + 1)
   have hs := sumL_succ h
   have hf := flat_succ h
   have el : (ls.take i).flatten.length = sumL ls i := by unfold sumL; rw [List.length_flatten]
   simp only [go_sem, h, hg, hw]
   refine ⟨by simp only [roomFor, el]; omega, ?_⟩
   refine roundK.intro (i + 1) (by omega) (by omega) ?_
   simp only [go_sem, hf, List.map_append]
  ·obtain rfl : i = ls.length := by omega
   simp only [go_sem, h, List.take_length]
theorem con_concat2 (b a : List Int) (h : b.length + a.length <= 1000) : Con Tryz.prog 42 [.sl 0 1 [vs 0 b, vs 0 a]] [] fun r _ => r = vs 0 (b ++ a) := by
 have e : [b, a].flatten = b ++ a := by simp
 by_cases h0 : (b ++ a).length = 0
 ·exact (Con.freezeR (fun _ => true) (con_concatInt0 [b, a] (by rw [e]; exact h0) (by simp))).weak fun r x ⟨r0, h1, h2⟩ => by
   subst h1; subst h2
   rw [e]
   exact ⟨_, rfl, leV_refl _⟩
 ·exact (Con.freezeR (fun _ => true) (con_concatInt [b, a] (by rw [e]; omega) (by rw [e, List.length_append]; omega) (by simp))).weak fun r x ⟨r0, h1, h2⟩ => by
   subst h1; subst h2
   rw [e]
   exact ⟨_, rfl, leV_refl _⟩
theorem walk_len (rules : List RD) : ∀ (x : SV) (ks : List Int), (walkF rules x ks).2.2.length <= ks.length
 | x, [] => by simp [walkF]
 | x, k :: ks => by
  unfold walkF
  split
  ·split
   ·simp
   ·have := walk_len rules (rules[k.toNat]!.dst, fireO rules[k.toNat]! x.2) ks
    simp only [List.length_cons]; omega
  ·simp
def growA (g : Int × List Int) : AV := if g.1 = 0 then .tup [vs 2 g.2, vi 0] else .tup [.nil, vi g.1]
def growN (v w : List Int) (i : Nat) : List Int := ((List.range i).filter fun i => decide (v[i]! < w[i]!)).map Int.ofNat
theorem grow_all (v w : List Int) : growN v w w.length = growL v w := rfl
theorem growN_zero (v w : List Int) : growN v w 0 = [] := rfl
theorem growN_len (v w : List Int) (i : Nat) : (growN v w i).length <= i := by
 unfold growN
 have := List.length_filter_le (fun i => decide (v[i]! < w[i]!)) (List.range i)
 rw [List.length_range] at this
 rw [List.length_map]; exact this
theorem growN_succ {v w : List Int} {i : Nat} : growN v w (i + 1) = growN v w i ++ (if v[i]! < w[i]! then [(i : Int)] else []) := by
 unfold growN
 rw [List.range_succ, List.filter_append, List.map_append]
 congr 1
 by_cases hh : v[i]! < w[i]!
 ·rw [if_pos hh, List.filter_cons, if_pos (decide_eq_true hh)]; rfl
 ·rw [if_neg hh, List.filter_cons, if_neg (by simpa using hh)]; rfl
theorem con_grows (m : MD) (v0 : List Int) (b a : List Int) (h : PlainM m 0 v0) (hb : ∀ k ∈ b, 0 <= k /\ k < m.rules.length) (ha : ∀ k ∈ a, 0 <= k /\ k < m.rules.length) (hl : b.length + a.length <= 64) :
  Con Tryz.prog 17 [vM m, .ag [vs 0 b, vs 0 a]] [] fun x _ => x = growA (growsF m.rules (0, v0) b a) := by
 refine Con.intro Tryz.func17 rfl Tryz.ntmps17 Tryz.results17 (by kernel_rfl) (by simp) 0 (by simp) ?_
 have h1 := h.good.states
 have h2 := h.good.places
 have h3 := h.good.few
 have hfin0 : finV m.places.length v0 := ⟨h.conf.len, h.conf.low⟩
 have hab : ∀ k ∈ b ++ a, 0 <= k /\ k < m.rules.length := fun k hk => by
  rcases List.mem_append.1 hk with hk | hk
  ·exact hb k hk
  ·exact ha k hk
 have hwl : IntKind.i64.wrap ((b.length : Int) + a.length) = b.length + a.length := wrap_in (by omega) (by omega)
 have h64 : ¬ (64 : Int) < (b.length : Int) + a.length := by omega
 have hg5 : ∀ r ∈ m.rules, 0 <= r.dst /\ r.dst < m.states.length /\ ∀ i, i < m.places.length -> 0 <= r.give[i]! := fun r hr => by
  have f := (h.fine r hr).right
  have g := plain_slim h r hr
  unfold RightR at f
  exact ⟨f.2.2.1, f.2.2.2.1, fun i hi => (g.low i hi).2.2.1⟩
 simp only [go_sem, vM, cM, vss]
 refine CallU.free (con_fstartF m v0 h) (by simp only [go_sem]) (by simp only [go_sem, vM, cM, vss]) ?_
 rintro r bx rfl
 simp only [go_sem, hwl, h64, List.length_map]
 refine CallU.freeze (con_concat2 b a (by omega)) (by simp only [go_sem]) (by simp only [go_sem]) ?_
 rintro r bx rfl
 simp only [go_sem]
 refine LoopK.intro (fun i : Nat => ⟨119, [(2, .pb 0 0), (3, .pb 1 0), (39, vs 0 (b ++ a)), (40, vi (b ++ a).length), (41, vi i)], [cM m, [vs 0 b, vs 0 a], [.sl 0 4 [vND (rootN v0)], vi 0]]⟩) (fun i => (b ++ a).length - i) (fun i => i <= (b ++ a).length) 0 (by omega) ?_ ?_
 ·simp only [go_sem, cM, vss]
  all_goals first | exact leV_refl _ | exact leB_self _ | exact ⟨leV_refl _, leB_self _⟩
 rintro i hi
 by_cases hlt : i < (b ++ a).length
 ·have hg := getv hlt
  have hk := hab _ (mem_bangI hlt)
  have hw : IntKind.i64.wrap ((i : Int) + 1) = i + 1 := wrap_in (by omega) (by rw [List.length_append] at hlt; omega)
  have a1 : ¬ (b ++ a)[i]! < 0 := by omega
  have a2 : ¬ (m.rules.length : Int) <= (b ++ a)[i]! := by omega
  generalize b ++ a = c at *
  simp only [go_sem, cM, vss, hlt, hg, a1, a2, hw, List.length_map]
  refine roundK.intro (i + 1) (by omega) (by omega) ?_
  simp only [go_sem]
  all_goals first | exact leV_refl _ | exact leB_self _ | exact ⟨leV_refl _, leB_self _⟩
 simp only [go_sem, cM, vss, hlt]
 refine CallU.news (bx0 := []) (con_bstart m v0 h) (by simp only [go_sem]) (by simp only [go_sem]) (by simp only [go_sem]) (by simp only [go_sem, vM, cM, vss]) (by simp only [go_sem]) ?_
 rintro r bx ⟨rfl, rfl⟩
 simp only [go_sem, cM, vss]
 refine CallU.own (i := 4) (is := []) (bx0 := [walkC m 0 v0 .nil]) (con_walk m v0 0 v0 b [] .nil h ⟨by omega, by omega⟩ hfin0 hb (by omega) (by simp) (leV_nil _ _)) (by simp only [go_sem]) (by simp only [go_sem, vss]) [] (by simp only [go_sem, vss]) (by simp only [go_sem, vss]) (by simp only [go_sem]) (by simp only [go_sem, vss]) ?_
 rintro x bb ⟨rfl, rfl⟩
 obtain ⟨p, hp⟩ : ∃ p, walkF m.rules (0, v0) b = p := ⟨_, rfl⟩
 have hG : growsF m.rules (0, v0) b a = if p.1 ≠ 0 then (p.1, []) else
   if (walkF m.rules p.2.1 a).1 ≠ 0 then ((walkF m.rules p.2.1 a).1, []) else
   if (walkF m.rules p.2.1 a).2.1.1 ≠ p.2.1.1 \/ atB p.2.1.2 (walkF m.rules p.2.1 a).2.1.2 = false then (43, []) else
   if (growL p.2.1.2 (walkF m.rules p.2.1 a).2.1.2).length = 0 then (11, []) else (0, growL p.2.1.2 (walkF m.rules p.2.1 a).2.1.2) := by rw [<- hp]; rfl
 have hlen1 := walk_len m.rules (0, v0) b
 rw [hp] at hlen1 ⊢
 rw [hG]
 simp only [go_sem, vss]
 by_cases hp0 : p.1 = 0
 case neg =>
  have hp0' : (p.1 != 0) = true := bne_iff_ne.2 hp0
  have e : growA (p.1, []) = .tup [.nil, vi p.1] := by unfold growA; rw [if_neg hp0]
  rw [if_pos hp0, e]
  simp only [go_sem, hp0']
 have hp0' : (p.1 != 0) = false := by rw [hp0]; rfl
 have w1 := walk_run hg5 (ks := b) (x := (0, v0)) (y := p.2.1) (st := p.2.2) hb ⟨Int.le_refl _, by show (0 : Int) < _; omega⟩ hfin0 (by rw [hp]; exact Prod.ext hp0 rfl)
 rw [if_neg (by rw [hp0]; simp)]
 simp only [go_sem, hp0']
 refine DrawK.walk 10 mixed (by kernel_rfl) ?_
 simp only [go_sem]
 obtain ⟨e0, y, st1⟩ := p
 simp only at hlen1 w1
 obtain ⟨s1, v1⟩ := y
 have hv1 := w1.2.1
 have hs1 := w1.2.2
 simp only at hv1 hs1
 have hv1l := hv1.1
 refine CallU.own (i := 4) (is := []) (bx0 := [walkC m s1 v1 (.sl 3906 3 (st1.map vStep))]) (con_walk m v0 s1 v1 a st1 (.sl 2 3 (st1.map vStep)) h hs1 hv1 ha (by omega) (by omega) (leV_refl _)) (by simp only [go_sem]) (by simp only [go_sem, vss]) [3906] (by simp only [go_sem, vss]) (by simp only [go_sem, vss]) (by simp only [go_sem]) (by simp only [go_sem, vss]) ?_
 rintro x bb ⟨rfl, rfl⟩
 obtain ⟨q, hq⟩ : ∃ q, walkF m.rules (s1, v1) a = q := ⟨_, rfl⟩
 rw [hq]
 simp only [go_sem, vss]
 by_cases hq0 : q.1 = 0
 case neg =>
  have hq0' : (q.1 != 0) = true := bne_iff_ne.2 hq0
  have e : growA (q.1, []) = .tup [.nil, vi q.1] := by unfold growA; rw [if_neg hq0]
  rw [if_pos hq0, e]
  simp only [go_sem, hq0']
 have hq0' : (q.1 != 0) = false := by rw [hq0]; rfl
 have w2 := walk_run hg5 (ks := a) (x := (s1, v1)) (y := q.2.1) (st := q.2.2) ha hs1 hv1 (by rw [hq]; exact Prod.ext hq0 rfl)
 rw [if_neg (by rw [hq0]; simp)]
 obtain ⟨e1, z, st2⟩ := q
 obtain ⟨s2, w⟩ := z
 have hw2 := w2.2.1
 simp only at hw2
 have hwl2 := hw2.1
 have e43 : growA (43, []) = .tup [.nil, vi 43] := rfl
 by_cases hs : s2 = s1
 case neg =>
  have hs' : (s2 != s1) = true := bne_iff_ne.2 hs
  rw [if_pos (.inl hs), e43]
  simp only [go_sem, hq0', hs']
 have hs' : (s2 != s1) = false := by rw [hs]; simp
 simp only [go_sem, hq0', hs']
 refine CallU.free (con_atMost v1 w (by omega) (by omega)) (by simp only [go_sem]) (by simp only [go_sem]) ?_
 rintro x bx rfl
 cases hat : atB v1 w
 ·rw [if_pos (.inr rfl), e43]
  simp only [go_sem]
 rw [if_neg (by simp [hs])]
 simp only [go_sem]
 refine LoopK.intro (fun i : Nat => ⟨119, [(13, vs 0 v1), (15, .sl 1024 1 ((growN v1 w i).map vi)), (97, vs 0 w), (98, vi w.length), (99, vi i)], [cM m, [vs 0 b, vs 0 a], [.sl 0 4 [vND (rootN v0)], vi 0], cM m, [.any, .any, .any, .any, .any, .any, .any, .any, .any, .any, .any, .any, .any]]⟩) (fun i => w.length - i) (fun i => i <= w.length) 0 (by omega) ?_ ?_
 ·simp only [go_sem, cM, vss, growN_zero, List.map_nil]
  all_goals first | exact leV_refl _ | exact leB_self _ | exact ⟨leV_refl _, leB_self _⟩ | skip
 rintro i hi
 have hfl := growN_len v1 w i
 by_cases hlt2 : i < w.length
 case neg =>
  obtain rfl : i = w.length := by omega
  rw [grow_all] at hfl ⊢
  by_cases hz : (growL v1 w).length = 0
  ·have hz' : (((growL v1 w).length : Int) == 0) = true := beq_iff_eq.2 (by omega)
   have e11 : growA (11, []) = .tup [.nil, vi 11] := rfl
   rw [if_pos hz, e11]
   simp only [go_sem, hlt2, hz', List.length_map]
  ·have hz' : (((growL v1 w).length : Int) == 0) = false := beq_eq_false_iff_ne.2 (by omega)
   have e0 : growA (0, growL v1 w) = .tup [vs 2 (growL v1 w), vi 0] := rfl
   rw [if_neg hz, e0]
   simp only [go_sem, hlt2, hz', List.length_map]
 have hg := getv hlt2
 have hlt3 : i < v1.length := by omega
 have hg' := getv hlt3
 have hwi : IntKind.i64.wrap ((i : Int) + 1) = i + 1 := wrap_in (by omega) (by omega)
 have hgt := growN_succ (v := v1) (w := w) (i := i)
 by_cases hc : v1[i]! < w[i]!
 ·rw [if_pos hc] at hgt
  have hro : roomFor ((growN v1 w i).length + 1) 8 := by simp only [roomFor]; omega
  simp only [go_sem, hlt2, hlt3, hg, hg', hc, hwi, hro, List.length_map]
  refine roundK.intro (i + 1) (by omega) (by omega) ?_
  simp only [go_sem, hgt, List.map_append, List.map_cons, List.map_nil]
  all_goals first | exact leV_refl _ | exact leB_self _ | exact ⟨leV_refl _, leB_self _⟩
 ·rw [if_neg hc, List.append_nil] at hgt
  simp only [go_sem, hlt2, hlt3, hg, hg', hc, hwi]
  refine roundK.intro (i + 1) (by omega) (by omega) ?_
  simp only [go_sem, hgt]
  all_goals first | exact leV_refl _ | exact leB_self _ | exact ⟨leV_refl _, leB_self _⟩
def upR : RD := bareR ⟨#[114]⟩ 0 0 [0] [1] []
def upM : MD := dealM 1 1 [upR] [0]
theorem deal_up : DealM 1 1 [upR] [0] := by
 refine ⟨by omega, by omega, by simp, rfl, fun r hr => ?_, rfl, fun x hx => ?_⟩
 ·rw [List.mem_singleton] at hr
  subst hr
  refine ⟨rfl, ⟨Int.le_refl _, by show (0 : Int) < 1; omega⟩, ⟨Int.le_refl _, by show (0 : Int) < 1; omega⟩, ⟨rfl, fun x hx => ?_⟩, ⟨rfl, fun x hx => ?_⟩⟩
  ·have : x = 0 := List.mem_singleton.1 hx
   omega
  ·have : x = 1 := List.mem_singleton.1 hx
   omega
 ·have : x = 0 := List.mem_singleton.1 hx
  omega
theorem plain_up : PlainM upM 0 [0] := deal_plain deal_up
theorem con_up0 : Con Tryz.prog 22 [] [] fun r _ => r = .ag [vi 1, .sl 2 1 [vStr ⟨#[97]⟩], .sl 3 1 [vStr ⟨#[120]⟩], .nil, .nil, vi 0, vi 0, .sl 4 14 [ruleN upR], vi 0, .sl 5 2 [kidN 0, kidN 0]] := by
 refine Con.intro Tryz.func22 rfl Tryz.ntmps22 Tryz.results22 (by kernel_rfl) (by simp) 0 (by simp) ?_
 simp only [go_sem, upR]
theorem con_up : Con Tryz.prog 22 [] [] fun r _ => r = vM upM :=
 (Con.freezeR (fun _ => true) con_up0).weak fun r b ⟨r0, h0, h1⟩ => by
  subst h0; subst h1
  exact ⟨_, rfl, model_le (m := upM) plain_up.good (fun r hr => by rw [List.mem_singleton.1 hr]; rfl) rfl⟩
def rowsK (y : List Int) (k : Nat) : List AV := List.replicate k (vs 0 y) ++ List.replicate (5 - k) .nil
theorem con_repeatS (y : List Int) : Con Tryz.prog 50 [.sl 0 1 [vs 0 y], vi 5] [] fun r _ => r = .sl 2 1 [vs 0 y, vs 0 y, vs 0 y, vs 0 y, vs 0 y] := by
 refine Con.intro Tryz.func50 rfl Tryz.ntmps50 Tryz.results50 (by kernel_rfl) (by simp) 0 (by simp) ?_
 have w1 : IntKind.u64.wrap (1 : Int) = 1 := by kernel_rfl
 have w2 : IntKind.u64.wrap (5 : Int) = 5 := by kernel_rfl
 have w3 : IntKind.i64.wrap (5 : Int) = 5 := by kernel_rfl
 simp only [go_sem, w1, w2]
 refine CallU.free (con_mul 5 (by omega)) (by simp only [go_sem]) (by simp only [go_sem]) ?_
 rintro r bx rfl
 simp only [go_sem, w3]
 refine ⟨by simp, ?_⟩
 have e1 : rowsK y 1 = [.sl 0 1 (y.map vi), .nil, .nil, .nil, .nil] := rfl
 have e2 : rowsK y 2 = [.sl 0 1 (y.map vi), .sl 0 1 (y.map vi), .nil, .nil, .nil] := rfl
 have e4 : rowsK y 4 = [.sl 0 1 (y.map vi), .sl 0 1 (y.map vi), .sl 0 1 (y.map vi), .sl 0 1 (y.map vi), .nil] := rfl
 have e5 : rowsK y 5 = [.sl 0 1 (y.map vi), .sl 0 1 (y.map vi), .sl 0 1 (y.map vi), .sl 0 1 (y.map vi), .sl 0 1 (y.map vi)] := rfl
 have wk : ∀ a b : Int, -9223372036854775808 <= a + b -> a + b < 9223372036854775808 -> IntKind.i64.wrap (a + b) = a + b := fun a b h1 h2 => wrap_in (by omega) (by omega)
 refine LoopK.intro (fun k : Nat => ⟨48, [(7, .sl 1984 1 (rowsK y k)), (8, vi k)], []⟩) (fun k => 5 - k) (fun k => k = 1 \/ k = 2 \/ k = 4 \/ k = 5) 1 (.inl rfl) ?_ ?_
 ·simp only [go_sem, e1]
  exact ⟨leV_refl _, leV_refl _⟩
 rintro k hk
 rcases hk with rfl | rfl | rfl | rfl
 ·simp only [go_sem, e1, List.length_cons, List.length_nil]
  refine DrawK.front [0] 7 mixed (by kernel_rfl) ?_
  simp only [go_sem, List.length_cons, List.length_nil, List.take]
  refine roundK.intro 2 (.inr (.inl rfl)) (by omega) ?_
  have ew : IntKind.i64.wrap (1 + ((min 1 4 : Nat) : Int)) = 2 := by kernel_rfl
  simp only [go_sem, e2, ew]
  all_goals exact leV_refl _
 ·simp only [go_sem, e2, List.length_cons, List.length_nil]
  refine DrawK.front [0] 7 mixed (by kernel_rfl) ?_
  simp only [go_sem, List.length_cons, List.length_nil, List.take]
  refine roundK.intro 4 (.inr (.inr (.inl rfl))) (by omega) ?_
  have ew : IntKind.i64.wrap (2 + ((min 2 3 : Nat) : Int)) = 4 := by kernel_rfl
  simp only [go_sem, e4, ew]
  all_goals exact leV_refl _
 ·simp only [go_sem, e4, List.length_cons, List.length_nil]
  refine DrawK.front [0] 7 mixed (by kernel_rfl) ?_
  simp only [go_sem, List.length_cons, List.length_nil, List.take]
  refine roundK.intro 5 (.inr (.inr (.inr rfl))) (by omega) ?_
  have ew : IntKind.i64.wrap (4 + ((min 4 1 : Nat) : Int)) = 5 := by kernel_rfl
  simp only [go_sem, e5, ew]
  all_goals exact leV_refl _
 ·simp only [go_sem, e5, List.length_cons, List.length_nil]
def stU (k : Nat) : List StD := (List.range k).map fun j : Nat => ⟨0, 0, [((j + 1 : Nat) : Int)]⟩
theorem stU_len (k : Nat) : (stU k).length = k := by simp [stU]
theorem stU_succ (k : Nat) : stU (k + 1) = stU k ++ [⟨0, 0, [((k + 1 : Nat) : Int)]⟩] := by unfold stU; rw [List.range_succ, List.map_append]; rfl
theorem up_walk {k : Nat} (h : k < 5) : walkF upM.rules (0, [(k : Int)]) [0] = (0, (0, [((k + 1 : Nat) : Int)]), [⟨0, 0, [((k + 1 : Nat) : Int)]⟩]) := by
 obtain rfl | rfl | rfl | rfl | rfl : k = 0 \/ k = 1 \/ k = 2 \/ k = 3 \/ k = 4 := by omega
 all_goals rfl
theorem up_grows : growsF upM.rules (0, [0]) [] [0] = (0, [0]) := by decide +kernel
def repTree : Tr := .front 0 (.front 3 (.front 6 (.front 10 (.alt (.one 1 (.alt (.one 2 (.one 4 (.one 5 (.one 7 (.one 8 (.one 9 .done)))))) (.one 4 (.alt (.one 2 (.one 5 (.one 7 (.one 8 (.one 9 .done))))) (.one 5 (.alt (.one 2 (.one 7 (.one 8 (.one 9 .done)))) (.one 7 (.one 2 (.one 8 (.one 9 .done)))))))))) (.one 4 (.alt (.one 1 (.alt (.one 2 (.one 5 (.one 7 (.one 8 (.one 9 .done))))) (.one 5 (.alt (.one 2 (.one 7 (.one 8 (.one 9 .done)))) (.one 7 (.one 2 (.one 8 (.one 9 .done)))))))) (.one 5 (.alt (.one 1 (.alt (.one 2 (.one 7 (.one 8 (.one 9 .done)))) (.one 7 (.one 2 (.one 8 (.one 9 .done)))))) (.one 7 (.one 1 (.one 2 (.one 8 (.one 9 .done)))))))))))))
theorem con_brepeat : Con Tryz.prog 20 [vM upM, .ag [vs 0 [], vs 0 [0]], vi 5] [] fun x _ => x = .tup [.sl 2 3 ((stU 5).map vStep), vi 0] := by
 refine Con.intro Tryz.func20 rfl Tryz.ntmps20 Tryz.results20 (by kernel_rfl) (by simp) 0 (by simp) ?_
 have hP := plain_up
 have hrl : upM.rules.length = 1 := rfl
 have hsl : upM.states.length = 1 := rfl
 have hpl : upM.places.length = 1 := rfl
 have hg := con_grows upM [0] [] [0] hP (by simp) (fun k hk => by rw [List.mem_singleton.1 hk, hrl]; omega) (by simp)
 rw [up_grows, show growA (0, [0]) = .tup [vs 2 [0], vi 0] from rfl] at hg
 have hst := con_bstart upM [0] hP
 have hrow : ∀ k ∈ [(0 : Int)], 0 <= k /\ k < upM.rules.length := fun k hk => by rw [List.mem_singleton.1 hk, hrl]; omega
 have hwk : ∀ k : Nat, k < 5 -> _ := fun k hk => con_walk upM [0] 0 [(k : Int)] [0] (stU k) (.sl 2 3 ((stU k).map vStep)) hP ⟨Int.le_refl _, by rw [hsl]; omega⟩ ⟨rfl, fun x hx => by rw [List.mem_singleton.1 hx]; omega⟩ hrow (by simp) (by rw [stU_len]; omega) (leV_refl _)
 have hW : ∀ k : Nat, k < 5 -> walkF upM.rules (0, [(k : Int)]) [0] = (0, (0, [((k + 1 : Nat) : Int)]), [⟨0, 0, [((k + 1 : Nat) : Int)]⟩]) := fun k hk => up_walk hk
 have hwk0 := con_walk upM [0] 0 [0] [] (stU 0) (.sl 2 3 ((stU 0).map vStep)) hP ⟨Int.le_refl _, by rw [hsl]; omega⟩ ⟨rfl, fun x hx => by rw [List.mem_singleton.1 hx]; omega⟩ (fun k hk => by cases hk) (by simp) (by rw [stU_len]; omega) (leV_refl _)
 generalize upM = m at *
 simp only [go_sem, vM, cM, vss]
 refine CallU.free hg (by simp only [go_sem]) (by simp only [go_sem, vM, cM, vss]) ?_
 rintro r bx rfl
 have q1 : IntKind.i64.wrap ((IntKind.i64.wrap 64).tdiv 1) = 64 := by kernel_rfl
 simp only [go_sem, List.length_nil, List.length_cons, q1]
 refine CallU.news (bx0 := []) hst (by simp only [go_sem]) (by simp only [go_sem]) (by simp only [go_sem]) (by simp only [go_sem, vM, cM, vss]) (by simp only [go_sem]) ?_
 rintro r bx ⟨rfl, rfl⟩
 simp only [go_sem, cM, vss]
 refine DrawK.meet ⟨64, [(10, .pb 3 0), (47, .sl 2688 1 [vs 0 [], vs 0 [0], vs 0 [0], vs 0 [0], vs 0 [0], vs 0 [0]]), (48, vi 6), (49, vi 0)], [cM m, [vs 0 [], vs 0 [0]], cM m, walkC m 0 [0] .nil]⟩ ?_ ?_
 ·refine DrawK.tree repTree mixed (by kernel_rfl) ?_
  unfold repTree
  simp only [go_sem, List.length_cons, List.length_nil]
  have hro : roomFor 6 24 := by simp only [roomFor]; omega
  repeat' (first | with_reducible apply andK_mk | (refine CallU.freeze (con_repeatS [0]) (by simp only [go_sem]) (by simp only [go_sem, List.map_cons, List.map_nil]) ?_; rintro r bx rfl; simp only [go_sem, cM, vss, hro, List.length_cons, List.length_nil]) | simp only [go_sem, List.length_cons, List.length_nil])
 simp only [go_sem, cM, vss]
 have e0 : stU 0 = [] := rfl
 refine LoopK.intro (fun i : Nat => ⟨64, [(10, .pb 3 0), (47, .sl 2688 1 [vs 0 [], vs 0 [0], vs 0 [0], vs 0 [0], vs 0 [0], vs 0 [0]]), (48, vi 6), (49, vi i)], [cM m, [vs 0 [], vs 0 [0]], cM m, walkC m 0 [((i - 1 : Nat) : Int)] (.sl 1026 3 ((stU (i - 1)).map vStep))]⟩) (fun i => 6 - i) (fun i => i <= 6) 0 (by omega) ?_ ?_
 ·simp only [go_sem, cM, vss, e0, List.map_nil, Nat.zero_sub, List.map_cons]
 rintro i hi
 have hwi : i < 6 -> IntKind.i64.wrap ((i : Int) + 1) = i + 1 := fun h => wrap_in (by omega) (by omega)
 cases i with
 | zero =>
  have hw0 : IntKind.i64.wrap (0 + 1) = 1 := by kernel_rfl
  have hw1 : IntKind.i64.wrap 1 = 1 := by kernel_rfl
  simp only [go_sem, cM, vss, List.map_nil, List.map_cons]
  refine CallU.own (i := 3) (is := []) (bx0 := [walkC m 0 [0] (.sl 1026 3 ((stU 0).map vStep))]) hwk0 (by simp only [go_sem]) (by simp only [go_sem, vss]) [1026] (by simp only [go_sem, vss]) (by simp only [go_sem, vss]) (by simp only [go_sem, List.map_nil]) (by simp only [go_sem, vss]) ?_
  rintro x bb ⟨rfl, rfl⟩
  simp only [go_sem, cM, vss, walkF, List.append_nil]
  refine roundK.mv 3586 1026 (by omega) (by omega) (by omega) 1 (by omega) (by omega) ?_
  simp only [go_sem, hw1]
  exact leV_refl _
 | succ k =>
  by_cases hk : k < 5
  case neg =>
   obtain rfl : k = 5 := by omega
   simp only [go_sem, cM, vss]
  have hgr : ([AV.sl 0 1 [AV.sc (.int .i64 0)], AV.sl 0 1 [AV.sc (.int .i64 0)], AV.sl 0 1 [AV.sc (.int .i64 0)], AV.sl 0 1 [AV.sc (.int .i64 0)], AV.sl 0 1 [AV.sc (.int .i64 0)]])[k]? = some (AV.sl 0 1 [AV.sc (.int .i64 0)]) := by
   obtain rfl | rfl | rfl | rfl | rfl : k = 0 \/ k = 1 \/ k = 2 \/ k = 3 \/ k = 4 := by omega
   all_goals rfl
  have hk6 : (k : Int) + 1 < 6 := by omega
  have hk6' : k + 1 < 6 := by omega
  have hwi2 : IntKind.i64.wrap ((k : Int) + 1 + 1) = k + 1 + 1 := wrap_in (by omega) (by omega)
  have hwkk := hwk k hk
  rw [hW k hk] at hwkk
  have ht : ((k : Int) + 1).toNat = k + 1 := by omega
  have h0 : (0 : Int) <= (k : Int) + 1 := by omega
  simp only [go_sem, cM, vss, List.map_nil, List.map_cons, hgr, hk6, ht, h0]
  refine CallU.own (i := 3) (is := []) (bx0 := [walkC m 0 [(k : Int)] (.sl 1026 3 ((stU k).map vStep))]) hwkk (by simp only [go_sem]) (by simp only [go_sem, vss, Nat.add_sub_cancel]) [1026] (by simp only [go_sem, vss]) (by simp only [go_sem, vss]) (by simp only [go_sem, List.map_nil, List.map_cons]) (by simp only [go_sem, vss]) ?_
  rintro x bb ⟨rfl, rfl⟩
  simp only [go_sem, vss, hwi2]
  refine roundK.mv 3586 1026 (by omega) (by omega) (by omega) (k + 1 + 1) (by omega) (by omega) ?_
  simp only [go_sem, cM, vss, List.map_nil, List.map_cons, Nat.add_sub_cancel, stU_succ, List.map_append]
  exact leV_refl _
theorem up_holds0 : holdsL upM.rules [(0, [Om])] 0 [0] = 0 := by decide +kernel
theorem up_holds1 : holdsL upM.rules [(0, [9])] 0 [0] = 41 := by decide +kernel
theorem up_bound : boundR [(0, [3]), (0, [5])] 0 = .tup [vi 5, vb true] := by
 unfold boundR
 rw [show boundB [(0, [3]), (0, [5])] 0 = true by decide +kernel, if_pos rfl, show mostF [(0, [3]), (0, [5])] ((0 : Int).toNat) = 5 by decide +kernel]
theorem stU_four : ((stU 5).map vStep)[4]? = some (.ag [vi 0, vi 0, .sl 0 2 [.ag [vi 0, .sl 0 2 []], .ag [vi 5, .sl 0 2 []]]]) := by
 show some (vStep ⟨0, 0, [5]⟩) = _
 simp only [vStep, cfgC, CV.kids, List.map_cons, List.map_nil, vV_eq, CV.n]
 rfl
theorem pw2_le {G : Nat -> Status} {w : World} {x a b : AV} (h : leV a b) {vs : List Value} (hv : PW (VRel G w) [x, a] vs) : PW (VRel G w) [x, b] vs := by
 refine ⟨hv.1, fun j y u hy hu => ?_⟩
 match j, hy with
 | 0, hy => exact hv.2 0 y u hy hu
 | 1, hy =>
  cases hy
  exact (hv.2 1 a u rfl hu).le h
 | j + 2, hy => cases hy
theorem pw3_le {G : Nat -> Status} {w : World} {x a b z : AV} (h : leV a b) {vs : List Value} (hv : PW (VRel G w) [x, a, z] vs) : PW (VRel G w) [x, b, z] vs := by
 refine ⟨hv.1, fun j y u hy hu => ?_⟩
 match j, hy with
 | 0, hy => exact hv.2 0 y u hy hu
 | 1, hy =>
  cases hy
  exact (hv.2 1 a u rfl hu).le h
 | 2, hy => exact hv.2 2 y u hy hu
 | j + 3, hy => cases hy
theorem con_sane29 : Con Tryz.prog 7 [] [] fun x _ => x = vb true := by
 refine Con.intro Tryz.func7 rfl Tryz.ntmps7 Tryz.results7 (by kernel_rfl) (by simp) 0 (by simp) ?_
 have hP := plain_up
 have hrl : upM.rules.length = 1 := rfl
 have hsl : upM.states.length = 1 := rfl
 have hg := con_grows upM [0] [] [0] hP (by simp) (fun k hk => by rw [List.mem_singleton.1 hk, hrl]; omega) (by simp)
 rw [up_grows, show growA (0, [0]) = .tup [vs 2 [0], vi 0] from rfl] at hg
 have hrp := con_brepeat
 have hlen5 : ((stU 5).map vStep).length = 5 := rfl
 have h4 := stU_four
 have hb := con_bound [(0, [3]), (0, [5])] 0 (by simp)
 rw [up_bound] at hb
 have hh0 := con_bholds upM [0] [(0, [Om])] hP (fun y hy => by rw [List.mem_singleton.1 hy]; exact ⟨Int.le_refl _, by rw [hsl]; show (0 : Int) < 1; omega, rfl, fun x hx => by rw [List.mem_singleton.1 hx]; exact .inr rfl⟩) (by simp)
 rw [up_holds0] at hh0
 have hh1 := con_bholds upM [0] [(0, [9])] hP (fun y hy => by rw [List.mem_singleton.1 hy]; exact ⟨Int.le_refl _, by rw [hsl]; show (0 : Int) < 1; omega, rfl, fun x hx => by rw [List.mem_singleton.1 hx]; left; omega⟩) (by simp)
 rw [up_holds1] at hh1
 have hup := con_up
 have hnil : leV (.ag [.nil, vs 0 [0]]) (.ag [vs 0 [], vs 0 [0]]) := leV_ag ⟨leV_nil _ _, leV_refl _, trivial⟩
 have hg2 := Con.args (args' := [vM upM, .ag [.nil, vs 0 [0]]]) hg fun G w vs hv => pw2_le hnil hv
 have hrp2 := Con.args (args' := [vM upM, .ag [.nil, vs 0 [0]], vi 5]) hrp fun G w vs hv => pw3_le hnil hv
 clear hg hrp
 generalize (stU 5).map vStep = S at *
 generalize upM = m at *
 simp only [go_sem]
 refine CallU.free hup (by simp only [go_sem]) (by simp only [go_sem]) ?_
 rintro r bx rfl
 simp only [go_sem, vM, cM, vss]
 refine CallU.freeze hg2 (by simp only [go_sem]) (by simp only [go_sem, vM, cM, vss, List.map_cons, List.map_nil]) ?_
 rintro r bx rfl
 simp only [go_sem, List.map_cons, List.map_nil]
 refine CallU.free hup (by simp only [go_sem]) (by simp only [go_sem]) ?_
 rintro r bx rfl
 simp only [go_sem, vM, cM, vss]
 refine CallU.freeze hrp2 (by simp only [go_sem]) (by simp only [go_sem, vM, cM, vss, List.map_cons, List.map_nil]) ?_
 rintro r bx rfl
 simp only [go_sem, List.map_cons, List.map_nil]
 refine CallU.freeze hb (by simp only [go_sem]) (by simp only [go_sem, List.map_cons, List.map_nil]) ?_
 rintro r bx rfl
 simp only [go_sem, List.length_cons, List.length_nil, hlen5, h4]
 refine CallU.free hup (by simp only [go_sem]) (by simp only [go_sem]) ?_
 rintro r bx rfl
 simp only [go_sem, vM, cM, vss]
 refine CallU.freeze hh0 (by simp only [go_sem]) (by simp only [go_sem, vM, cM, vss, List.map_cons, List.map_nil]) ?_
 rintro r bx rfl
 simp only [go_sem]
 refine CallU.free hup (by simp only [go_sem]) (by simp only [go_sem]) ?_
 rintro r bx rfl
 simp only [go_sem, vM, cM, vss]
 refine CallU.freeze hh1 (by simp only [go_sem]) (by simp only [go_sem, vM, cM, vss, List.map_cons, List.map_nil]) ?_
 rintro r bx rfl
 simp only [go_sem]
end Go.AM
namespace Go.AM
theorem runS_run {rules : List RD} {np : Nat} (hg : ∀ r ∈ rules, ∀ i, i < np -> 0 <= r.give[i]!) : ∀ {ks : List Nat} {s t : SV}, finV np s.2 -> runS rules s ks = some t -> runV rules s ks = some t /\ finV np t.2
 | [], s, t, hs, h => by
  simp only [runS, Option.some.injEq] at h
  rw [<- h]
  exact ⟨rfl, hs⟩
 | k :: ks, s, t, hs, h => by
  unfold runS at h
  split at h
  ·rename_i g
   have hf := fire_finV hs g.2.2.1 (hg _ (mem_bangW g.1)) g.2.2.2
   have ih := runS_run hg (ks := ks) (s := (rules[k]!.dst, fireO rules[k]! s.2)) hf h
   refine ⟨?_, ih.2⟩
   unfold runV
   rw [if_pos ⟨g.1, g.2.1, fun i hi => canV_iff.1 g.2.2.1 i hi⟩, <- fire_fin hs]
   exact ih.1
  ·cases h
theorem walk_runS {rules : List RD} : ∀ {ks : List Nat} {s t : SV}, runS rules s ks = some t -> (walkF rules s (ks.map Int.ofNat)).1 = 0 /\ (walkF rules s (ks.map Int.ofNat)).2.1 = t
 | [], s, t, h => by
  simp only [runS, Option.some.injEq] at h
  rw [<- h]
  exact ⟨rfl, rfl⟩
 | k :: ks, s, t, h => by
  unfold runS at h
  split at h
  ·rename_i g
   have ih := walk_runS (ks := ks) h
   rw [List.map_cons]
   unfold walkF
   have e : (Int.ofNat k).toNat = k := rfl
   rw [e]
   have hf : fitsB rules[k]! s.1 s.2 = true := by
    unfold fitsB
    rw [Bool.and_eq_true, beq_iff_eq]
    exact ⟨g.2.1, g.2.2.1⟩
   rw [if_pos hf, if_neg (by rw [g.2.2.2]; simp)]
   exact ih
  ·cases h
theorem walk_runV {rules : List RD} {np : Nat} (hg : ∀ r ∈ rules, ∀ i, i < np -> 0 <= r.give[i]!) : ∀ {ks : List Nat} {s t : SV}, finV np s.2 -> runV rules s ks = some t -> (walkF rules s (ks.map Int.ofNat)).1 = 1 \/ ((walkF rules s (ks.map Int.ofNat)).1 = 0 /\ (walkF rules s (ks.map Int.ofNat)).2.1 = t)
 | [], s, t, _, h => by
  simp only [runV, Option.some.injEq] at h
  rw [<- h]
  exact .inr ⟨rfl, rfl⟩
 | k :: ks, s, t, hs, h => by
  unfold runV at h
  split at h
  ·rename_i g
   rw [List.map_cons]
   unfold walkF
   have e : (Int.ofNat k).toNat = k := rfl
   rw [e]
   have hc : canV rules[k]! s.2 = true := canV_iff.2 g.2.2
   have hf : fitsB rules[k]! s.1 s.2 = true := by
    unfold fitsB
    rw [Bool.and_eq_true, beq_iff_eq]
    exact ⟨g.2.1, hc⟩
   rw [if_pos hf]
   cases ho : overO rules[k]! s.2 with
   | true => rw [if_pos rfl]; exact .inl rfl
   | false =>
    rw [if_neg (by simp)]
    have hfv := fire_finV hs hc (hg _ (mem_bangW g.1)) ho
    rw [<- fire_fin hs] at h
    exact walk_runV hg (ks := ks) (s := (rules[k]!.dst, fireO rules[k]! s.2)) hfv h
  ·cases h
theorem growL_ne {v w : List Int} {np : Nat} (hw : w.length = np) (h : ∃ x, x < np /\ v[x]! < w[x]!) : (growL v w).length ≠ 0 := by
 obtain ⟨x, hx, hlt⟩ := h
 unfold growL
 rw [List.length_map]
 have : x ∈ (List.range w.length).filter fun i => decide (v[i]! < w[i]!) := List.mem_filter.2 ⟨List.mem_range.2 (by omega), decide_eq_true hlt⟩
 have := List.length_pos_of_mem this
 omega
theorem grows_pump {rules : List RD} {v0 : List Int} {np : Nat} {st : Int} {v w : List Int} {kb ka : List Nat} (hb : runS rules (0, v0) kb = some (st, v)) (ha : runS rules (st, v) ka = some (st, w)) (hv : v.length = np) (hw : w.length = np) (hle : ∀ x, x < np -> v[x]! <= w[x]!) (hlt : ∃ x, x < np /\ v[x]! < w[x]!) :
  growsF rules (0, v0) (kb.map Int.ofNat) (ka.map Int.ofNat) = (0, growL v w) /\ (growL v w).length ≠ 0 := by
 have h1 := walk_runS hb
 have h2 := walk_runS ha
 have hn := growL_ne (v := v) hw hlt
 refine ⟨?_, hn⟩
 unfold growsF
 simp only
 rw [if_neg (by rw [h1.1]; simp), h1.2, if_neg (by rw [h2.1]; simp), h2.2]
 have hat : atB v w = true := at_iff.2 fun i hi => hle i (by omega)
 rw [if_neg (by simp [hat]), if_neg hn]
theorem walk_step {rules : List RD} {k : Int} {s : SV} {ks : List Int} (hf : fitsB rules[k.toNat]! s.1 s.2 = true) (ho : overO rules[k.toNat]! s.2 = false) :
  walkF rules s (k :: ks) = ((walkF rules (rules[k.toNat]!.dst, fireO rules[k.toNat]! s.2) ks).1, (walkF rules (rules[k.toNat]!.dst, fireO rules[k.toNat]! s.2) ks).2.1, ⟨k.toNat, rules[k.toNat]!.dst.toNat, fireO rules[k.toNat]! s.2⟩ :: (walkF rules (rules[k.toNat]!.dst, fireO rules[k.toNat]! s.2) ks).2.2) := by
 conv => lhs; unfold walkF
 rw [if_pos hf, if_neg (by rw [ho]; simp)]
theorem walk_over {rules : List RD} {k : Int} {s : SV} {ks : List Int} (hf : fitsB rules[k.toNat]! s.1 s.2 = true) (ho : overO rules[k.toNat]! s.2 = true) : walkF rules s (k :: ks) = (1, s, []) := by
 unfold walkF
 rw [if_pos hf, if_pos ho]
theorem walk_not {rules : List RD} {k : Int} {s : SV} {ks : List Int} (hf : fitsB rules[k.toNat]! s.1 s.2 = false) : walkF rules s (k :: ks) = (18, s, []) := by
 unfold walkF
 rw [if_neg (by rw [hf]; simp)]
theorem walk_app {rules : List RD} : ∀ {a b : List Int} {s : SV}, (walkF rules s a).1 = 0 -> walkF rules s (a ++ b) = ((walkF rules (walkF rules s a).2.1 b).1, (walkF rules (walkF rules s a).2.1 b).2.1, (walkF rules s a).2.2 ++ (walkF rules (walkF rules s a).2.1 b).2.2)
 | [], b, s, _ => by simp [walkF]
 | k :: a, b, s, h => by
  rw [List.cons_append]
  cases hf : fitsB rules[k.toNat]! s.1 s.2 with
  | false => rw [walk_not hf] at h; exact absurd h (by simp)
  | true =>
   cases ho : overO rules[k.toNat]! s.2 with
   | true => rw [walk_over hf ho] at h; exact absurd h (by simp)
   | false =>
    rw [walk_step hf ho] at h
    have ih := walk_app (b := b) h
    rw [walk_step hf ho, walk_step hf ho, ih]
    simp
theorem walk_stop {rules : List RD} : ∀ {a b : List Int} {s : SV}, (walkF rules s a).1 ≠ 0 -> (walkF rules s (a ++ b)).1 = (walkF rules s a).1
 | [], b, s, h => absurd rfl h
 | k :: a, b, s, h => by
  rw [List.cons_append]
  cases hf : fitsB rules[k.toNat]! s.1 s.2 with
  | false => rw [walk_not hf, walk_not hf]
  | true =>
   cases ho : overO rules[k.toNat]! s.2 with
   | true => rw [walk_over hf ho, walk_over hf ho]
   | false =>
    rw [walk_step hf ho] at h
    rw [walk_step hf ho, walk_step hf ho]
    exact walk_stop (a := a) (b := b) h
def repI (a : List Int) : Nat -> List Int
 | 0 => []
 | n + 1 => repI a n ++ a
theorem repI_rep (a : List Nat) : ∀ n, repI (a.map Int.ofNat) n = (repV a n).map Int.ofNat
 | 0 => rfl
 | n + 1 => by rw [repI, repV, repI_rep a n, List.map_append]
theorem pump_far {rules : List RD} {v0 : List Int} {np : Nat} {st : Int} {v w : List Int} {kb ka : List Nat} (hg : ∀ r ∈ rules, ∀ i, i < np -> 0 <= r.give[i]!) (h0 : finV np v0) (hb : runS rules (0, v0) kb = some (st, v)) (ha : runS rules (st, v) ka = some (st, w)) (hle : ∀ x, x < np -> v[x]! <= w[x]!) (n : Nat) :
  (walkF rules (0, v0) (kb.map Int.ofNat ++ repI (ka.map Int.ofNat) n)).1 = 1 \/ ((walkF rules (0, v0) (kb.map Int.ofNat ++ repI (ka.map Int.ofNat) n)).1 = 0 /\ ∃ u, (walkF rules (0, v0) (kb.map Int.ofNat ++ repI (ka.map Int.ofNat) n)).2.1 = (st, u) /\ u.length = np /\ ∀ x, x < np -> u[x]! = v[x]! + n * (w[x]! - v[x]!)) := by
 have hB := walk_runS hb
 have r1 := runS_run hg h0 hb
 have r2 := runS_run hg r1.2 ha
 have hvl : v.length = np := r1.2.1
 obtain ⟨u, e1, e2, e3⟩ := pump_run r2.1 (fun i hi => hle i (by omega)) n
 rw [walk_app hB.1, hB.2, repI_rep]
 rcases walk_runV hg (np := np) (ks := repV ka n) r1.2 e1 with h | ⟨h1, h2⟩
 ·exact .inl h
 ·exact .inr ⟨h1, u, h2, by omega, fun x hx => e3 x (by omega)⟩
theorem lim_om {ns np : Nat} {l : List ND} {L : List SV} (hL : LimOk ns np l l.length L) (ho : ∀ i, i < l.length -> okV np l[i]!.vec) : (∃ y ∈ L, ¬ noOm y.2) ↔ ∃ i, i < l.length /\ ¬ noOm l[i]!.vec := by
 constructor
 ·rintro ⟨y, hy, h⟩
  obtain ⟨_, _, _, x, hx, e1, e2⟩ := hL.real y hy
  obtain ⟨i, hi, rfl⟩ := mem_bang_nd hx
  exact ⟨i, hi, by rw [e2]; exact h⟩
 ·rintro ⟨i, hi, h⟩
  obtain ⟨y, hy, e1, e2⟩ := hL.all i hi
  refine ⟨y, hy, fun hn => h fun x hx e => ?_⟩
  obtain ⟨j, hj, rfl⟩ := List.mem_iff_getElem.1 hx
  have hyo := (hL.real y hy).2.2.1
  have hjn : j < np := by rw [<- (ho i hi).1]; exact hj
  have h1 := e2 j hjn
  rw [getElem!_pos l[i]!.vec j hj, e] at h1
  have h2 := hn.at (i := j) (by rw [hyo.1]; exact hjn)
  have h3 := (hyo.at hjn).le
  exact h2 (by omega)
theorem om_first {rules : List RD} {s0 : Int} {v0 : List Int} {l : List ND} (hm : Made rules s0 v0 l) (h0 : noOm v0) : ∀ (n i : Nat), i < n -> i < l.length -> ¬ noOm l[i]!.vec -> ∃ i' p k, i' < l.length /\ MadeBy rules l i' p k /\ ¬ noOm l[i']!.vec /\ noOm l[p]!.vec
 | 0, i, h, _, _ => by omega
 | n + 1, i, h, hl, ho => by
  rcases hm i hl with ⟨_, _, h3⟩ | ⟨p, k, hb⟩
  ·rw [h3] at ho; exact absurd h0 ho
  ·have hlt := hb.lt
   by_cases hp : noOm l[p]!.vec
   ·exact ⟨i, p, k, hl, hb, ho, hp⟩
   ·exact om_first hm h0 n p (by omega) (by omega) hp
theorem fire_small {r : RD} {v : List Int} {np : Nat} (hv : okV np v) (hn : noOm v) (hg : ∀ x, x < np -> r.give[x]! <= 16 /\ 0 <= r.need[x]!) : noOm (fireO r v) := by
 intro x hx
 obtain ⟨i, hi, rfl⟩ := List.mem_iff_getElem.1 hx
 have hi' : i < v.length := by rw [fireO_len] at hi; exact hi
 have hin : i < np := by rw [<- hv.1]; exact hi'
 rw [<- getElem!_pos (fireO r v) i hi, fireO_at hi', if_neg (hn.at hi')]
 have h1 := hv.at hin
 have h2 := hg i hin
 have h3 := hn.at hi'
 have h8 : Om = 1099511627776 := rfl
 rcases h1 with h1 | h1
 ·omega
 ·exact absurd h1 h3
theorem first_grew {rules : List RD} {l : List ND} {np : Nat} (ho : ∀ i, i < l.length -> okV np l[i]!.vec) (hg : ∀ r ∈ rules, ∀ x, x < np -> r.give[x]! <= 16 /\ 0 <= r.need[x]!) {i p k : Nat} (hb : MadeBy rules l i p k) (hi : i < l.length) (hn : ¬ noOm l[i]!.vec) (hp : noOm l[p]!.vec) :
  noOm (fireO rules[k]! l[p]!.vec) /\ ∃ j ks, Anc l j p ks /\ j < l.length /\ l[j]!.st = l[i]!.st /\ (∀ x, x < l[j]!.vec.length -> l[j]!.vec[x]! <= (fireO rules[k]! l[p]!.vec)[x]!) /\ ∃ x, x < l[j]!.vec.length /\ l[j]!.vec[x]! < (fireO rules[k]! l[p]!.vec)[x]! := by
 have hpl : p < l.length := by have := hb.lt; omega
 have hf := fire_small (ho p hpl) hp (hg _ (mem_bangW hb.there))
 exact ⟨hf, hb.grew hf hn⟩
theorem grown_by {v w u : List Int} {np n : Nat} (hw : w.length = np) (hu : ∀ x, x < np -> u[x]! = v[x]! + n * (w[x]! - v[x]!)) {k : Int} (hk : k ∈ growL v w) : ∃ i : Nat, k = i /\ i < np /\ v[i]! + n <= u[i]! := by
 obtain ⟨i, e, hi, hlt⟩ := mem_growL hk
 refine ⟨i, e, by omega, ?_⟩
 rw [hu i (by omega)]
 have : (n : Int) * 1 <= n * (w[i]! - v[i]!) := Int.mul_le_mul_of_nonneg_left (by omega) (by omega)
 omega
def ChainS (rules : List RD) (s : Nat) (v : List Int) : List StD -> Prop
 | [] => True
 | x :: l => (x.rule < rules.length /\ rules[x.rule]!.src = s /\ canV rules[x.rule]! v = true /\ overO rules[x.rule]! v = false /\ x.state = rules[x.rule]!.dst.toNat /\ x.v = fireO rules[x.rule]! v) /\ ChainS rules x.state x.v l
def endS (s : Nat) (v : List Int) : List StD -> Nat × List Int
 | [] => (s, v)
 | x :: l => endS x.state x.v l
theorem walk_chain {rules : List RD} (hd : ∀ r ∈ rules, 0 <= r.dst) : ∀ {ks : List Int} {x y : SV} {st : List StD}, (∀ k ∈ ks, 0 <= k /\ k < rules.length) -> 0 <= x.1 -> walkF rules x ks = (0, y, st) -> ChainS rules x.1.toNat x.2 st /\ endS x.1.toNat x.2 st = (y.1.toNat, y.2)
 | [], x, y, st, _, h0, h => by
  simp only [walkF, Prod.mk.injEq, true_and] at h
  rw [<- h.1, <- h.2]
  exact ⟨trivial, rfl⟩
 | k :: ks, x, y, st, hk, h0, h => by
  have hk0 := hk k (List.mem_cons_self ..)
  have hlt : k.toNat < rules.length := by omega
  have hr := hd _ (mem_bangW hlt)
  unfold walkF at h
  split at h
  ·rename_i hf
   unfold fitsB at hf
   rw [Bool.and_eq_true, beq_iff_eq] at hf
   split at h
   ·simp at h
   ·rename_i ho
    simp only [Prod.mk.injEq] at h
    have ih := walk_chain hd (ks := ks) (x := (rules[k.toNat]!.dst, fireO rules[k.toNat]! x.2)) (y := y) (st := (walkF rules (rules[k.toNat]!.dst, fireO rules[k.toNat]! x.2) ks).2.2) (fun j hj => hk j (List.mem_cons_of_mem _ hj)) hr (Prod.ext h.1 (Prod.ext h.2.1 rfl))
    rw [<- h.2.2]
    exact ⟨⟨⟨hlt, by show rules[k.toNat]!.src = _; rw [hf.1]; omega, hf.2, Bool.not_eq_true _ ▸ ho, rfl, rfl⟩, ih.1⟩, ih.2⟩
  ·simp at h
def rowsR (b a : List Int) (n : Nat) : List (List Int) := b :: List.replicate n a
theorem rowsR_len (b a : List Int) (n : Nat) : (rowsR b a n).length = n + 1 := by simp [rowsR]
def firstR (b a : List Int) : Nat -> List Int
 | 0 => []
 | i + 1 => b ++ repI a i
theorem firstR_succ (b a : List Int) (n : Nat) {i : Nat} (h : i < n + 1) : firstR b a (i + 1) = firstR b a i ++ (rowsR b a n)[i]! := by
 cases i with
 | zero => simp [firstR, repI, rowsR]
 | succ i =>
  have e : (rowsR b a n)[i + 1]! = a := by
   rw [getElem!_pos _ _ (by rw [rowsR_len]; omega)]
   simp [rowsR]
  rw [e, firstR, firstR, repI, List.append_assoc]
theorem firstR_len (b a : List Int) (i : Nat) : (firstR b a (i + 1)).length = b.length + i * a.length := by
 have : ∀ i, (repI a i).length = i * a.length := by
  intro i
  induction i with
  | zero => simp [repI]
  | succ i ih => rw [repI, List.length_append, ih, Nat.succ_mul]
 rw [firstR, List.length_append, this]
theorem mem_rows {b a : List Int} {n : Nat} {x : List Int} (h : x ∈ rowsR b a n) : x = b \/ x = a := by
 rcases List.mem_cons.1 h with h | h
 ·exact .inl h
 ·exact .inr (List.eq_of_mem_replicate h)
theorem walk_first {rules : List RD} {b a : List Int} {n i : Nat} {s : SV} (h : i <= n + 1) (hs : (walkF rules s (firstR b a i)).1 ≠ 0) : (walkF rules s (firstR b a (n + 1))).1 = (walkF rules s (firstR b a i)).1 := by
 have key : ∀ m, i + m <= n + 1 -> (walkF rules s (firstR b a (i + m))).1 = (walkF rules s (firstR b a i)).1 := by
  intro m
  induction m with
  | zero => intro _; rfl
  | succ m ih =>
   intro hm
   have h1 := ih (by omega)
   rw [<- Nat.add_assoc, firstR_succ b a n (by omega), walk_stop (by rw [h1]; exact hs), h1]
 have := key (n + 1 - i) (by omega)
 rwa [show i + (n + 1 - i) = n + 1 by omega] at this
def repF (rules : List RD) (s : SV) (b a : List Int) (n : Nat) : Int × List StD :=
 if (64 - b.length) / a.length < n then (1, []) else
 let q := walkF rules s (firstR b a (n + 1))
 if q.1 = 0 then (0, q.2.2) else (q.1, [])
end Go.AM
