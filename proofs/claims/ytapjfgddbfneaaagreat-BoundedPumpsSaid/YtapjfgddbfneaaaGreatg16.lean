/- HD TY TP -/
import Derived.Test.YtapjfgddbfneaaaGreatg15
import Derived.Test.YtapjfgddbfneaaaGreatg11
import Derived.Test.YtapjfgddbfneaaaGreatg12
namespace Go.AM
open Go Go.Proofs Go.RowKit
set_option maxRecDepth 100000
set_option maxHeartbeats 8000000
def ownV (t : Nat) (c : CV) : AV := .ag [vi c.n, .sl t 2 (c.kids.map vV)]
attribute [go_sem] ownV
theorem Con.froz {P : Program} {f : FuncId} {args : List AV} {c : CV} (h : Con P f args [] fun r _ => r = ownV 2 c) : Con P f args [] fun r _ => r = ownV 0 c :=
 (Con.freezeR (fun _ => true) h).weak fun r b ⟨r0, h0, h1⟩ => by
  subst h0; subst h1
  exact ⟨_, rfl, leV_refl _⟩
inductive CV.Slim : CV -> Prop
 | mk (n : Int) (k : List CV) : k.length <= 1000000 -> (∀ x ∈ k, CV.Slim x) -> CV.Slim (.mk n k)
theorem CV.Slim.len {a : CV} (h : a.Slim) : a.kids.length <= 1000000 := by cases h; assumption
theorem CV.Slim.kid {a : CV} (h : a.Slim) {x : CV} (hx : x ∈ a.kids) : x.Slim := by cases h with | mk n k _ h2 => exact h2 x hx
theorem CV.Slim.leaf (n : Int) : (CV.mk n []).Slim := .mk n [] (by simp) (fun x hx => by cases hx)
theorem slim_cfg {s : Nat} {v : List Int} (h : v.length <= 100000) : (cfgC s v).Slim := by
 refine .mk _ _ (by rw [List.length_cons, List.length_map]; omega) fun x hx => ?_
 rcases List.mem_cons.1 hx with rfl | hx
 ·exact .leaf _
 ·obtain ⟨n, _, rfl⟩ := List.mem_map.1 hx
  exact .leaf _
theorem con_rcopyV (c : CV) (hc : c.Slim) : Con Tryz.prog 52 [vV c] [] fun r _ => r = ownV 2 c := by
 have key : ∀ (N : Nat) (c : CV), SizeOf.sizeOf c <= N -> c.Slim -> Con Tryz.prog 52 [vV c] [] fun r _ => r = ownV 2 c := by
  intro N
  induction N with
  | zero => intro v hs; cases v; rw [CV.mk.sizeOf_spec] at hs; omega
  | succ N ih =>
   intro v hs hv
   have hlen := hv.len
   rw [vV_eq]
   refine Con.intro Tryz.func52 rfl Tryz.ntmps52 Tryz.results52 (by kernel_rfl) (by simp) 0 (by simp) ?_
   simp only [go_sem]
   refine LoopK.intro (fun i : Nat => ⟨27, [(1, .pb 0 0), (2, .pb 1 0), (3, .pb 2 0), (4, vi i)], [[vi v.n, .sl 0 2 (v.kids.map vV)], [vi 0, .nil], [vi v.n, .sl 1600 2 ((v.kids.take i).map vV)]]⟩)
    (fun i => v.kids.length - i) (fun i => i <= v.kids.length) 0 (by omega) ?_ ?_
   ·simp only [go_sem, List.take_zero, List.map_nil]
    all_goals exact ⟨leV_refl _, leV_nil _ _, trivial⟩
   rintro i hi
   by_cases h : i < v.kids.length
   ·have hg := getvV h
    have hw : IntKind.i64.wrap (i + 1) = i + 1 := wrap_in (by omega) (by omega)
    have hmem : v.kids[i]! ∈ v.kids := mem_bangI h
    have hsz := kid_size hmem
    have e : (v.kids.take (i + 1)).map vV = (v.kids.take i).map vV ++ [.ag [vi v.kids[i]!.n, .sl 0 2 (v.kids[i]!.kids.map vV)]] := by
     rw [<- vV_eq, List.take_add_one, List.getElem?_eq_getElem h, getElem!_pos v.kids i h, List.map_append]; rfl
    simp only [go_sem, h]
    refine DrawK.walk 9 mixed (by kernel_rfl) ?_
    simp only [go_sem, h, hg]
    refine CallY.mk (Con.froz (ih v.kids[i]! (by omega) (hv.kid hmem))) (by simp only [go_sem, vV_eq]) (by simp only [go_sem]) (.inl (by simp only [go_sem])) ?_
    simp only [go_sem, hw]
    refine ⟨by simp only [roomFor, List.length_take]; omega, ?_⟩
    refine roundK.intro (i + 1) (by omega) (by omega) ?_
    simp only [go_sem, e]
   ·have e : v.kids.take i = v.kids := List.take_of_length_le (by omega)
    simp only [go_sem, h, e]
 exact key _ c (Nat.le_refl _) hc
theorem con_rsameC (a b : CV) (ha : a.Ok) (hb : b.Ok) : Con Tryz.prog 74 [vV a, vV b] [] fun r _ => r = vb (cmpV a b == 0) := by
 have hc := con_rcompare _ a b (Nat.le_refl _) ha hb
 rw [vV_eq, vV_eq] at hc ⊢
 refine Con.intro Tryz.func74 rfl Tryz.ntmps74 Tryz.results74 (by kernel_rfl) (by simp) 0 (by simp) ?_
 simp only [go_sem]
 refine CallU.free hc (by simp only [go_sem]) (by simp only [go_sem]) ?_
 rintro r bx rfl
 simp only [go_sem]
theorem fireF_fin {r : RD} {v : List Int} {np : Nat} (hv : finV np v) (hn : r.need.length = np) (hg : r.give.length = np) : fireF r v = fireO r v := by
 have hvl := hv.1
 refine ext_bang (by rw [fireO_len]; exact fireL_len (by omega) (by omega)) fun i hi => ?_
 have hi' : i < v.length := by rw [show (fireF r v).length = v.length from fireL_len (by omega) (by omega)] at hi; exact hi
 have h8 : Om = 1099511627776 := rfl
 have := hv.at (i := i) (by omega)
 rw [show (fireF r v)[i]! = v[i]! - r.need[i]! + r.give[i]! from fireL_at (by omega) (by omega) hi', fireO_at hi', if_neg (by omega)]
 omega
theorem en_of {r : RD} {s : Nat} {v : List Int} (hs : r.src = s) (hc : canV r v = true) (hl : r.need.length = v.length) : enF r s v = true := by
 unfold enF
 rw [Bool.and_eq_true, beq_iff_eq, List.all_eq_true]
 exact ⟨hs.symm, fun i hi => decide_eq_true (canV_iff.1 hc i (by have := List.mem_range.1 hi; omega))⟩
theorem chain_step {m : MD} {v0 : List Int} (h : PlainM m 0 v0) {s : Nat} {v : List Int} {x : StD} {l : List StD} (hc : GoodC m s v) (hch : ChainS m.rules s v (x :: l)) : x.rule < m.rules.length /\ enF m.rules[x.rule]! s v = true /\ (∀ j, j < v.length -> (fireF m.rules[x.rule]! v)[j]! <= 1048576) /\ x.state = m.rules[x.rule]!.dst.toNat /\ x.v = fireF m.rules[x.rule]! v /\ GoodC m x.state x.v /\ ChainS m.rules x.state x.v l := by
 obtain ⟨⟨h1, h2, h3, h4, h5, h6⟩, h7⟩ := hch
 have hsl := plain_slim h _ (mem_bangI h1)
 have hfin : finV m.places.length v := ⟨hc.len, hc.low⟩
 have hfv := fire_finV hfin h3 (fun i hi => (hsl.low i hi).2.2.1) h4
 have e := fireF_fin hfin hsl.need hsl.give
 obtain ⟨f1, f2, f3, f4, f5, f6⟩ := (h.fine _ (mem_bangI h1)).right
 have hlen := hc.len
 refine ⟨h1, en_of h2 h3 (by rw [hsl.need, hlen]), fun j hj => ?_, h5, by rw [e]; exact h6, ⟨by rw [h5]; omega, by rw [h6]; exact hfv.1, by rw [h6]; exact hfv.2⟩, h7⟩
 rw [e]
 exact (hfv.at (by omega)).2
mutual
theorem cmpV_eq0 : ∀ a : CV, cmpV a a = 0
 | .mk n k => by rw [cmpV, if_neg (fun h => h rfl), if_neg (fun h => h rfl)]; exact cmpVs_eq0 k
theorem cmpVs_eq0 : ∀ k : List CV, cmpVs k k = 0
 | [] => by simp [cmpVs]
 | x :: k => by rw [cmpVs, cmpV_eq0 x, if_neg (fun h => h rfl)]; exact cmpVs_eq0 k
end
theorem ok_cfgC (s : Nat) (v : List Int) (h : v.length <= 1000) : (cfgC s v).Ok := by
 refine .mk _ _ (by rw [List.length_cons, List.length_map]; omega) fun x hx => ?_
 rcases List.mem_cons.1 hx with rfl | hx
 ·exact .mk _ _ (by simp) fun y hy => by cases hy
 ·obtain ⟨n, _, rfl⟩ := List.mem_map.1 hx
  exact .mk _ _ (by simp) fun y hy => by cases hy
theorem con_r22yesF (m : MD) (i s : Nat) (v : List Int) (h : GoodM m) (hst : m.rules.all stillB = true) (hi : i < m.rules.length) (hc : GoodC m s v) (hb : ∀ j, j < v.length -> (fireF m.rules[i]! v)[j]! <= 1048576) (he : enF m.rules[i]! s v = true) : Con Tryz.prog 67 [vM m, vi i, vV (cfgC s v)] [] fun x _ => x = .tup [.sl 0 2 [vV (cfgC m.rules[i]!.dst.toNat (fireF m.rules[i]! v))], vi 0] :=
 (Con.freezeR (fun _ => true) (con_r22yesB m i s v h hst hi hc hb he)).weak fun r b ⟨r0, h0, h1⟩ => by
  subst h0; subst h1
  have e : vV (cfgC m.rules[i]!.dst.toNat (fireF m.rules[i]! v)) = .ag [vi 0, .sl 0 2 ((((m.rules[i]!.dst.toNat : Int) :: fireF m.rules[i]! v).map fun n => CV.mk n []).map vV)] := vV_eq _
  rw [e]
  refine ⟨_, rfl, leV_tup ⟨leV_slE (by simp) (fun y hy => by rw [List.mem_singleton] at hy; subst hy; rfl) ?_, leV_refl _, trivial⟩⟩
  exact PW.cons (Sub.refl _) (PW.cons (Sub.slE (by simp) (fun y hy => by
   obtain ⟨x, _, rfl⟩ := List.mem_map.1 hy
   rw [vV_eq]; rfl) (kids_pw _)) (PW.nil _))
theorem con_check23 (m : MD) (v0 : List Int) (st : List StD) (h : PlainM m 0 v0) (hch : ChainS m.rules 0 v0 st) (hl : st.length <= 64) : Con Tryz.prog 51 [vM m, vV (cfgC 0 v0), .sl 0 3 (st.map vStep)] [] fun x _ => x = .tup [vi st.length, vi 0] := by
 have e0 := vV_eq (cfgC 0 v0)
 rw [show (cfgC 0 v0).n = 0 from rfl] at e0
 rw [e0]
 refine Con.intro Tryz.func51 rfl Tryz.ntmps51 Tryz.results51 (by kernel_rfl) (by simp) 0 (by simp) ?_
 have hG := h.good
 have h2 := hG.places
 simp only [go_sem, vM, cM, vss]
 refine CallU.free (con_rkind m hG) (by simp only [go_sem]) (by simp only [go_sem, vM, cM, vss]) ?_
 rintro x bx rfl
 simp only [go_sem]
 refine CallU.free (con_rmvalid m (cfgC 0 v0) hG h.conf.conf) (by simp only [go_sem]) (by simp only [go_sem, vM, cM, vss, e0]) ?_
 rintro x bx rfl
 have h64 : ¬ (64 : Int) < (st.length : Int) := by omega
 simp only [go_sem, h64, List.length_map]
 refine LoopK.intro (fun p : Nat × Nat × List Int => ⟨78, [(2, .sl 0 3 (st.map vStep)), (3, .pb 0 0), (9, .pb 2 0), (10, vi p.1)], [cM m, [vi 0, .sl 0 2 ((cfgC 0 v0).kids.map vV)], [vi 0, .sl 0 2 ((cfgC p.2.1 p.2.2).kids.map vV)]]⟩) (fun p => st.length - p.1) (fun p => p.1 <= st.length /\ GoodC m p.2.1 p.2.2 /\ ChainS m.rules p.2.1 p.2.2 (st.drop p.1)) (0, 0, v0) ⟨by show 0 <= _; omega, h.conf, hch⟩ ?_ ?_
 ·simp only [go_sem, cM, vss]
 rintro ⟨i, s, v⟩ ⟨hi, hc, hcs⟩
 simp only at hi hc hcs
 by_cases hlt : i < st.length
 case neg =>
  obtain rfl : i = st.length := by omega
  simp only [go_sem, cM, vss, hlt, List.length_map]
 rw [List.drop_eq_getElem_cons hlt] at hcs
 have hg : (st.map vStep)[i]? = some (vStep st[i]) := by rw [List.getElem?_map, List.getElem?_eq_getElem hlt]; rfl
 obtain ⟨x, ex⟩ : ∃ x, x = st[i] := ⟨_, rfl⟩
 rw [<- ex] at hg hcs
 obtain ⟨c1, c2, c3, c4, c5, c6, c7⟩ := chain_step h hc hcs
 have hap := con_r22yesF m x.rule s v hG h.still c1 hc c3 c2
 rw [<- c4, <- c5] at hap
 have hw : IntKind.i64.wrap (i + 1) = i + 1 := wrap_in (by omega) (by omega)
 have hw0 : IntKind.i64.wrap (0 + 1) = 1 := by kernel_rfl
 have hw1 : IntKind.i64.wrap 1 = 1 := by kernel_rfl
 have hxl := c6.len
 have hokx := ok_cfgC x.state x.v (by omega)
 have hsm := con_rsameC (cfgC x.state x.v) (cfgC x.state x.v) hokx hokx
 rw [cmpV_eq0] at hsm
 have ev := vV_eq (cfgC s v)
 have ex2 := vV_eq (cfgC x.state x.v)
 have en : (cfgC s v).n = 0 := rfl
 have enx : (cfgC x.state x.v).n = 0 := rfl
 rw [ev, en] at hap
 rw [ex2, enx] at hap hsm
 simp only [go_sem, cM, vss, hlt, List.length_map]
 refine DrawK.meet ⟨78, [(2, .sl 0 3 (st.map vStep)), (3, .pb 0 0), (9, .pb 2 0), (10, vi i), (11, .sl 0 2 [.ag [vi 0, .sl 0 2 ((cfgC x.state x.v).kids.map vV)]]), (12, vi 0)], [cM m, [vi 0, .sl 0 2 ((cfgC 0 v0).kids.map vV)], [vi 0, .sl 0 2 ((cfgC s v).kids.map vV)]]⟩ ?_ ?_
 ·refine DrawK.news0 [] [] [] 2 [] [10] 11 (.one 11 (.one 12 .done)) none [vi 0, .sl 0 2 ((cfgC s v).kids.map vV)] mixed (by kernel_rfl) (by kernel_rfl) (by kernel_rfl) (by simp only [go_sem]) (by simp only [go_sem]) ⟨by simp only [go_sem], by simp only [go_sem]⟩ ⟨by simp only [go_sem], by simp only [go_sem]⟩ ?_
  simp only [go_sem, cM, vss, hlt, hg, List.length_map]
  refine CallY.mk hap (by simp only [go_sem, vM, cM, vss]) (by simp only [go_sem]) (.inl (by simp only [go_sem])) ?_
  simp only [go_sem]
 simp only [go_sem, cM, vss]
 refine LoopK.intro (fun k : Nat => ⟨78, [(2, .sl 0 3 (st.map vStep)), (3, .pb 0 0), (9, .pb 2 0), (10, vi i), (11, .sl 0 2 [.ag [vi 0, .sl 0 2 ((cfgC x.state x.v).kids.map vV)]]), (12, vi 0), (13, vb (decide (k = 1))), (14, vi k)], [cM m, [vi 0, .sl 0 2 ((cfgC 0 v0).kids.map vV)], [vi 0, .sl 0 2 ((cfgC s v).kids.map vV)]]⟩) (fun k => 1 - k) (fun k => k = 0 \/ k = 1) 0 (.inl rfl) ?_ ?_
 ·simp only [go_sem, cM, vss]
 rintro k (rfl | rfl)
 ·simp only [go_sem, cM, vss, List.length_cons, List.length_nil]
  refine DrawK.walk 13 mixed (by kernel_rfl) ?_
  simp only [go_sem, hlt, hg, List.length_map, List.length_cons, List.length_nil]
  refine CallY.mk hsm (by simp only [go_sem]) (by simp only [go_sem]) (.inl (by simp only [go_sem])) ?_
  simp only [go_sem, hw1]
  refine roundK.intro 1 (.inr rfl) (by omega) ?_
  simp only [go_sem, cM, vss]
 ·simp only [go_sem, cM, vss, hlt, hg, hw, List.length_map, List.length_cons, List.length_nil]
  refine roundK.intro (i + 1, x.state, x.v) ⟨by show i + 1 <= _; omega, c6, c7⟩ (by show st.length - (i + 1) < st.length - i; omega) ?_
  simp only [go_sem]
theorem endS_last : ∀ {st : List StD} {s : Nat} {v : List Int} (h : 0 < st.length), endS s v st = ((st[st.length - 1]'(by omega)).state, (st[st.length - 1]'(by omega)).v)
 | [x], s, v, _ => rfl
 | x :: y :: r, s, v, _ => by
  rw [endS, endS_last (st := y :: r) (by simp)]
  simp
theorem chain_good {m : MD} {v0 : List Int} (h : PlainM m 0 v0) : ∀ {st : List StD} {s : Nat} {v : List Int}, GoodC m s v -> ChainS m.rules s v st -> GoodC m (endS s v st).1 (endS s v st).2
 | [], s, v, hc, _ => hc
 | x :: l, s, v, hc, hch => by
  obtain ⟨_, _, _, _, _, c6, c7⟩ := chain_step h hc hch
  show GoodC m (endS x.state x.v l).1 (endS x.state x.v l).2
  exact chain_good (st := l) h c6 c7
theorem con_replay (m : MD) (v0 : List Int) (st : List StD) (h : PlainM m 0 v0) (hch : ChainS m.rules 0 v0 st) (hl : st.length <= 64) : Con Tryz.prog 21 [vM m, .sl 0 3 (st.map vStep)] [] fun x _ => x = .tup [.ag [vi 0, .sl 0 2 ((cfgC (endS 0 v0 st).1 (endS 0 v0 st).2).kids.map vV)], vi st.length, vi 0] := by
 refine Con.intro Tryz.func21 rfl Tryz.ntmps21 Tryz.results21 (by kernel_rfl) (by simp) 0 (by simp) ?_
 have h2 := h.good.places
 have e0 := vV_eq (cfgC 0 v0)
 rw [show (cfgC 0 v0).n = 0 from rfl] at e0
 have hck := con_check23 m v0 st h hch hl
 rw [e0] at hck
 have hgc := chain_good h h.conf hch
 have hcp := Con.froz (con_rcopyV (cfgC (endS 0 v0 st).1 (endS 0 v0 st).2) (slim_cfg (by have := hgc.len; omega)))
 rw [vV_eq, show (cfgC (endS 0 v0 st).1 (endS 0 v0 st).2).n = 0 from rfl] at hcp
 unfold ownV at hcp
 rw [show (cfgC (endS 0 v0 st).1 (endS 0 v0 st).2).n = 0 from rfl] at hcp
 have hs := h.start
 have hn0 : (cfgC 0 v0).n = 0 := rfl
 simp only [go_sem, vM, cM, vss, hs, hn0]
 refine CallU.free hck (by simp only [go_sem]) (by simp only [go_sem, vM, cM, vss, hs, hn0]) ?_
 rintro x bx rfl
 by_cases h0 : st.length = 0
 ·have e : st = [] := List.eq_nil_of_length_eq_zero h0
  subst e
  simp only [go_sem, List.length_nil, List.map_nil]
  refine CallU.free hcp (by simp only [go_sem]) (by simp only [go_sem, endS]) ?_
  rintro x bx rfl
  simp only [go_sem, endS]
 ·have hz : ((st.length : Int) == 0) = false := beq_eq_false_iff_ne.2 (by omega)
  have hw : IntKind.i64.wrap ((st.length : Int) - 1) = ((st.length - 1 : Nat) : Int) := by rw [wrap_in (by omega) (by omega)]; omega
  have hlt : st.length - 1 < st.length := by omega
  have hg : (st.map vStep)[st.length - 1]? = some (vStep (st[st.length - 1]'hlt)) := by rw [List.getElem?_map, List.getElem?_eq_getElem hlt]; rfl
  have he := endS_last (s := 0) (v := v0) (st := st) (by omega)
  rw [he] at hcp ⊢
  simp only [go_sem, hz, hw, hlt, hg, List.length_map]
  refine CallU.free hcp (by simp only [go_sem]) (by simp only [go_sem]) ?_
  rintro x bx rfl
  simp only [go_sem]
end Go.AM
