/- LoT -/
import Derived.Test.YtebcmlhgfmkpnaaGreatg18
import Derived.Test.YtebcmlhgfmkpnaaGreatg20
import Derived.Test.YtebcmlhgfmkpnaaGreatg21
import Derived.Test.YtebcmlhgfmkpnaaGreatg17
namespace Go.AM
open Go Go.Proofs Go.RowKit
set_option maxRecDepth 100000
set_option maxHeartbeats 8000000
theorem con_lexp1 (m : MD) (a b : ClD) (ha : CloudOk m a.1 a.2) (hb : CloudOk m b.1 b.2) : Con Tryz.prog 47 [vCP b, .fp (cM m) 0, .fp [vi a.1, .sl 0 1 (a.2.map vPr)] 0] [] fun r _ => r = .sc (.bool (clLeq m.letters.length a b)) := by
 refine Con.intro Tryz.func47 rfl Tryz.ntmps47 Tryz.results47 (by kernel_rfl) (by simp) 0 (by simp) ?_
 have c1 := con_lleq m a b ha hb
 simp only [vM, cM, vss, vCl] at c1
 simp only [go_sem, cM, vss, vCP, vCl]
 refine CallU.free c1 (by simp only [go_sem]) (by simp only [go_sem]) ?_
 rintro q bx rfl
 simp only [go_sem]
theorem con_lhold11 (m : MD) (a b : ClD) (ha : CloudOk m a.1 a.2) (hb : CloudOk m b.1 b.2) : Con Tryz.prog 52 [vCP b, .fp (cM m) 0, .fp [vi a.1, .sl 0 1 (a.2.map vPr)] 0] [] fun r _ => r = .sc (.bool (clLeq m.letters.length a b)) := by
 refine Con.intro Tryz.func52 rfl Tryz.ntmps52 Tryz.results52 (by kernel_rfl) (by simp) 0 (by simp) ?_
 have c1 := con_lleq m a b ha hb
 simp only [vM, cM, vss, vCl] at c1
 simp only [go_sem, cM, vss, vCP, vCl]
 refine CallU.free c1 (by simp only [go_sem]) (by simp only [go_sem]) ?_
 rintro q bx rfl
 simp only [go_sem]
theorem con_lhold1 (m : MD) (l : List ClD) (a : ClD) (ha : CloudOk m a.1 a.2) (hl : ∀ b ∈ l, CloudOk m b.1 b.2) (hll : l.length <= 1000000) : Con Tryz.prog 51 [vCP a, .fp [.sl 0 2 (l.map vCP)] 0, .fp (cM m) 0] [] fun r _ => r = .sc (.bool (l.any fun b => clLeq m.letters.length a b)) := by
 refine Con.intro Tryz.func51 rfl Tryz.ntmps51 Tryz.results51 (by kernel_rfl) (by simp) 0 (by simp) ?_
 have cx := con_containsCl l 52 [.fp (cM m) 0, .fp [vi a.1, .sl 0 1 (a.2.map vPr)] 0] (fun b => clLeq m.letters.length a b) (by simp only [go_sem, cM, vss]) (fun b hb => con_lhold11 m a b ha (hl b hb)) hll
 simp only [cM, vss] at cx
 simp only [go_sem, cM, vss, vCP, vCl]
 refine CallU.look cx (by simp only [go_sem]) (by simp only [go_sem]) ?_
 rintro q bx rfl
 simp only [go_sem]
def lR0 : RD := chanR ⟨#[114]⟩ 0 0 0 1 0
def lM0 : MD := chanM 1 1 2 [lR0] [[]]
def lC0 : ClD := (0, [[⟨true, [0]⟩]])
theorem l0_deal : DealC 1 1 2 [lR0] [[]] := by
 refine ⟨by omega, by omega, by omega, by decide, by decide +kernel, fun r hr => ?_, by decide, fun w hw => ?_⟩
 ·rw [List.mem_singleton.1 hr]
  exact ⟨rfl, by decide, by decide, by decide, by decide, by decide, by decide⟩
 ·rw [List.mem_singleton.1 hw]; exact ⟨by decide, fun x hx => by cases hx⟩
theorem l0_one : sentF lM0.rules 0 0 = [0] := by decide
theorem l0_loop (p : List TmD) (hp : normP (normP p ++ [starT [0]]) = [⟨true, [0]⟩]) : loopW lM0.rules 0 [p] = [[⟨true, [0]⟩]] := by
 unfold loopW
 show [starF (normP p) (lettersF (sentF lM0.rules 0 0))] = _
 rw [l0_one, letters_one (by decide)]
 unfold starF
 rw [if_neg (by decide), hp]
theorem l0_post : postF lM0.rules[0]! 0 [[⟨true, [0]⟩]] = some (0, [[⟨true, [0]⟩]]) := by decide +kernel
theorem l0_val (p : List TmD) (hp : ValidP 2 p) : CloudOk lM0 0 [p] := ⟨by decide, rfl, fun q hq => by rw [List.mem_singleton.1 hq]; exact hp, by decide⟩
theorem l0_vs : ValidP 2 [⟨true, [0]⟩] := check_zero.1 (by decide +kernel)
theorem l0_vn : ValidP 2 [] := check_zero.1 (by decide +kernel)
theorem l0_ok : CloudOk lM0 lC0.1 lC0.2 := l0_val _ l0_vs
theorem l0_leq : clLeq 2 lC0 lC0 = true := clLeq_refl (np := 1) ⟨rfl, fun q hq => by rw [List.mem_singleton.1 hq]; exact l0_vs⟩
theorem l0_max : maxCl 2 [lC0] = [lC0] := by
 have e : baseCl [lC0] = [lC0] := by
  unfold baseCl
  have e1 : ascFC ([lC0].map normC) = [lC0] := List.perm_singleton.1 (asc_permC _)
  rw [e1]
  exact uniqC_short (by decide)
 unfold maxCl
 rw [e]
 decide +kernel
theorem l0_rules : ∀ r ∈ lM0.rules, 0 <= r.channel /\ r.channel < lM0.places.length /\ 0 <= r.letter /\ r.letter < lM0.letters.length := fun r hr => by
 have : r = lR0 := List.mem_singleton.1 hr
 rw [this]; decide
def expTree : Tr := .front 1 (.front 2 (.front 3 (.front 4 (.alt (.one 0 (.alt (.one 5 (.alt (.one 6 (.front 7 (.front 8 (.front 9 (.front 10 (.one 11 (.one 12 (.one 13 (.one 14 .done))))))))) (.one 11 (.one 6 (.front 7 (.front 8 (.front 9 (.front 10 (.one 12 (.one 13 (.one 14 .done))))))))))) (.one 11 (.one 5 (.one 6 (.front 7 (.front 8 (.front 9 (.front 10 (.one 12 (.one 13 (.one 14 .done)))))))))))) (.alt (.one 5 (.alt (.one 0 (.alt (.one 6 (.front 7 (.front 8 (.front 9 (.front 10 (.one 11 (.one 12 (.one 13 (.one 14 .done))))))))) (.one 11 (.one 6 (.front 7 (.front 8 (.front 9 (.front 10 (.one 12 (.one 13 (.one 14 .done))))))))))) (.one 11 (.one 0 (.one 6 (.front 7 (.front 8 (.front 9 (.front 10 (.one 12 (.one 13 (.one 14 .done)))))))))))) (.one 11 (.alt (.one 0 (.one 5 (.one 6 (.front 7 (.front 8 (.front 9 (.front 10 (.one 12 (.one 13 (.one 14 .done)))))))))) (.one 5 (.one 0 (.one 6 (.front 7 (.front 8 (.front 9 (.front 10 (.one 12 (.one 13 (.one 14 .done)))))))))))))))))
theorem l0_begin : Con Tryz.prog 35 [vM lM0] [] fun r _ => r = .tup [vCl 0 [[]], vi 0] :=
 con_lBegin lM0 [[]] (con_dealLossy l0_deal) rfl rfl (by decide) (by decide) (fun w hw => by rw [List.mem_singleton.1 hw]; exact ⟨by decide, fun x hx => by cases hx⟩)
theorem l0_looped (p : List TmD) (hv : ValidP 2 p) (hp : normP (normP p ++ [starT [0]]) = [⟨true, [0]⟩]) (hl : p.length <= 23) : Con Tryz.prog 44 [vM lM0, vCl 0 [p]] [] fun r _ => r = .tup [vCl 0 [[⟨true, [0]⟩]], vi 0] := by
 have := con_lloop lM0 0 [p] (l0_val p hv) l0_rules (by decide) (fun q hq => by rw [List.mem_singleton.1 hq]; exact hl)
 rw [l0_loop p hp] at this
 exact this
theorem l0_posted : Con Tryz.prog 45 [vM lM0, vi 0, vCl 0 [[⟨true, [0]⟩]]] [] fun r _ => r = .tup [vCl 0 [[⟨true, [0]⟩]], vb true, vi 0] := by
 have := con_lpost lM0 0 0 [[⟨true, [0]⟩]] l0_ok (by decide) (by decide) (by decide) (fun q hq => by rw [List.mem_singleton.1 hq]; decide)
 rw [l0_post] at this
 exact this
theorem l0_maxed : Con Tryz.prog 49 [vM lM0, .sl 0 2 [vCP lC0]] [] fun r _ => r = .tup [.sl 0 2 [vCP lC0], vi 0] := by
 have := con_lmaximise lM0 [lC0] (by decide) (by decide) (fun a ha => by rw [List.mem_singleton.1 ha]; exact l0_ok)
 rw [show (lM0.letters.length : Int) = 2 from rfl, l0_max] at this
 exact this
theorem l0_inside (f : FuncId) (hf : f = 47) : Con Tryz.prog 46 [.sl 0 2 [vCP lC0], .fn f [.fp (cM lM0) 0, .fp [vi 0, .sl 0 1 [vPr [⟨true, [0]⟩]]] 0]] [] fun r _ => r = .sc (.bool true) := by
 subst hf
 have := con_containsCl [lC0] 47 [.fp (cM lM0) 0, .fp [vi lC0.1, .sl 0 1 (lC0.2.map vPr)] 0] (fun b => clLeq lM0.letters.length lC0 b) (by simp only [go_sem, cM, vss]) (fun b hb => con_lexp1 lM0 lC0 b l0_ok (by rw [List.mem_singleton.1 hb]; exact l0_ok)) (by decide)
 have e : [lC0].any (fun b => clLeq lM0.letters.length lC0 b) = true := by
  show (clLeq 2 lC0 lC0 || false) = true
  rw [l0_leq]; rfl
 rw [e] at this
 exact this
theorem con_lexplore0 : Con Tryz.prog 11 [vM lM0, vi 9] [] fun r _ => r = .tup [.sl 0 2 [vCP lC0], vb true, vi 0] := by
  refine Con.frozX ?_
  refine Con.intro Tryz.func11 rfl Tryz.ntmps11 Tryz.results11 (by kernel_rfl) (by simp) 0 (by simp) ?_
  have c1 := l0_begin
  have c2 := l0_looped [] l0_vn (by decide +kernel) (by decide)
  have c3 := l0_posted
  have c4 := l0_looped [⟨true, [0]⟩] l0_vs (by decide +kernel) (by decide)
  have c5 := l0_inside _ rfl
  have c6 := l0_maxed
  simp only [vM, cM, vss, vCl, vCP, lC0, List.map_cons, List.map_nil] at c1 c2 c3 c4 c5 c6
  have hrl : lM0.rules.length = 1 := rfl
  simp only [go_sem, cM, vss]
  refine CallU.free c1 (by simp only [go_sem]) (by simp only [go_sem]) ?_
  rintro q bx rfl
  simp only [go_sem]
  refine CallU.free c2 (by simp only [go_sem]) (by simp only [go_sem]) ?_
  rintro q bx rfl
  simp only [go_sem]
  refine LoopK.intro (fun p : Nat => ⟨103, [(1, vi 9), (2, .pb 0 0), (10, .sl 2304 2 [.ag [vi 0, .sl 0 1 [vPr [⟨true, [0]⟩]]]]), (11, vi p)], cM lM0 :: [.any, .any] :: [.any, .any] :: Rk 2 p⟩)
    (fun p => 1 - p) (fun p => p <= 1) 0 (by omega) ?_ ?_
  · simp only [go_sem, cM, vss, Rk, List.replicate_zero]
  have hR1 : Rk 2 1 = [[.any, .any]] := rfl
  have hw1 : IntKind.i64.wrap 1 = 1 := wrap_in (by omega) (by omega)
  rintro p hp
  obtain rfl | rfl : p = 0 \/ p = 1 := by omega
  case inr =>
    simp only [go_sem, cM, vss, hR1]
    refine CallU.freeze c6 (by simp only [go_sem]) (by simp only [go_sem]) ?_
    rintro q bx rfl
    simp only [go_sem]
    exact leV_refl _
  simp only [go_sem, cM, vss, Rk, List.replicate_zero]
  refine LoopK.intro (fun k : Nat => ⟨103, [(1, vi 9), (2, .pb 0 0), (10, .sl 2304 2 [.ag [vi 0, .sl 0 1 [vPr [⟨true, [0]⟩]]]]), (11, vi 0), (48, .sl 0 14 (lM0.rules.map vRule)), (49, vi lM0.rules.length), (50, vi k)], cM lM0 :: [.any, .any] :: [.any, .any] :: Rk 2 k⟩)
    (fun k => 1 - k) (fun k => k <= 1) 0 (by omega) ?_ ?_
  · simp only [go_sem, cM, vss, Rk, List.replicate_zero]
  rintro k hk
  obtain rfl | rfl : k = 0 \/ k = 1 := by omega
  case inr =>
    simp only [go_sem, cM, vss, hR1, hrl, hw1]
    refine roundK.intro 1 (by omega) (by omega) ?_
    simp only [go_sem, cM, vss, hR1]
  simp only [go_sem, cM, vss, Rk, hrl, List.replicate_zero]
  refine DrawK.meet ⟨103, [(1, vi 9), (2, .pb 0 0), (10, .sl 2304 2 [.ag [vi 0, .sl 0 1 [vPr [⟨true, [0]⟩]]]]), (11, vi 0), (13, .pb 3 0), (14, vb true), (15, vi 0), (48, .sl 0 14 (lM0.rules.map vRule)), (49, vi 1), (50, vi 0)], cM lM0 :: [.any, .any] :: [.any, .any] :: [[vi 0, .sl 0 1 [vPr [⟨true, [0]⟩]]]]⟩ ?_ ?_
  · refine DrawK.tree expTree mixed (by kernel_rfl) ?_
    unfold expTree
    simp only [go_sem]
    repeat' (first
      | with_reducible apply andK_mk
      | (refine CallU.free c3 (by simp only [go_sem]) (by simp only [go_sem]) ?_
         rintro r bx rfl
         simp only [go_sem, cM, vss])
      | simp only [go_sem])
  simp only [go_sem, cM, vss]
  refine CallU.free c4 (by simp only [go_sem]) (by simp only [go_sem]) ?_
  rintro q bx rfl
  simp only [go_sem]
  refine CallU.look c5 (by simp only [go_sem]) (by simp only [go_sem]) ?_
  rintro q bx rfl
  simp only [go_sem, hw1]
  refine roundK.intro 1 (by omega) (by omega) ?_
  simp only [go_sem, cM, vss, hR1]
  exact leV_refl _
theorem l0_in : clLeq 2 (0, [[]]) lC0 = true := by decide +kernel
theorem con_lholds0 : Con Tryz.prog 12 [vM lM0, .sl 0 2 [vCP lC0]] [] fun r _ => r = vi 0 := by
 refine Con.intro Tryz.func12 rfl Tryz.ntmps12 Tryz.results12 (by kernel_rfl) (by simp) 0 (by simp) ?_
 have hok : ∀ b ∈ [lC0], CloudOk lM0 b.1 b.2 := fun b hb => by rw [List.mem_singleton.1 hb]; exact l0_ok
 have c1 := l0_begin
 have c2 := con_lcheckAll lM0 [lC0] hok (by decide)
 have c3 := con_lhold1 lM0 [lC0] (0, [[]]) (l0_val [] l0_vn) hok (by decide)
 have c4 := l0_posted
 have c5 := con_lhold1 lM0 [lC0] lC0 l0_ok hok (by decide)
 have e3 : ([lC0].any fun b => clLeq lM0.letters.length (0, [[]]) b) = true := by
  show (clLeq 2 (0, [[]]) lC0 || false) = true
  rw [l0_in]; rfl
 have e5 : ([lC0].any fun b => clLeq lM0.letters.length lC0 b) = true := by
  show (clLeq 2 lC0 lC0 || false) = true
  rw [l0_leq]; rfl
 rw [e3] at c3
 rw [e5] at c5
 simp only [vM, cM, vss, vCl, vCP, lC0, List.map_cons, List.map_nil] at c1 c2 c3 c4 c5
 have hrl : lM0.rules.length = 1 := rfl
 simp only [go_sem, cM, vss, vCP, vCl, lC0, List.map_cons, List.map_nil]
 refine CallU.free c1 (by simp only [go_sem]) (by simp only [go_sem]) ?_
 rintro q bx rfl
 simp only [go_sem]
 refine CallU.free c2 (by simp only [go_sem]) (by simp only [go_sem]) ?_
 rintro q bx rfl
 simp only [go_sem]
 refine CallU.look c3 (by simp only [go_sem]) (by simp only [go_sem]) ?_
 rintro q bx rfl
 simp only [go_sem]
 have hR1 : Rk 2 1 = [[.any, .any]] := rfl
 have hw1 : IntKind.i64.wrap 1 = 1 := wrap_in (by omega) (by omega)
 refine LoopK.intro (fun p : Nat => ⟨69, [(2, .pb 0 0), (3, .pb 1 0), (8, .cl 51 [.pb 1 0, .pb 0 0]), (37, .sl 0 2 [.ag [vi 0, .sl 0 1 [vPr [⟨true, [0]⟩]]]]), (38, vi 1), (39, vi p)], cM lM0 :: [.sl 0 2 [.ag [vi 0, .sl 0 1 [vPr [⟨true, [0]⟩]]]]] :: [.any, .any] :: Rk 2 (2 * p)⟩)
  (fun p => 1 - p) (fun p => p <= 1) 0 (by omega) ?_ ?_
 ·simp only [go_sem, cM, vss, Nat.mul_zero, Rk, List.replicate_zero]
 rintro p hp
 obtain rfl | rfl : p = 0 \/ p = 1 := by omega
 case inr =>
  simp only [go_sem, cM, vss, Rk]
 simp only [go_sem, cM, vss, Nat.mul_zero, Rk, List.replicate_zero]
 refine LoopK.intro (fun k : Nat => ⟨69, [(2, .pb 0 0), (3, .pb 1 0), (8, .cl 51 [.pb 1 0, .pb 0 0]), (10, .pb 3 0), (37, .sl 0 2 [.ag [vi 0, .sl 0 1 [vPr [⟨true, [0]⟩]]]]), (38, vi 1), (39, vi 0), (44, .sl 0 14 (lM0.rules.map vRule)), (45, vi 1), (46, vi k)], cM lM0 :: [.sl 0 2 [.ag [vi 0, .sl 0 1 [vPr [⟨true, [0]⟩]]]]] :: [.any, .any] :: [vi 0, .sl 0 1 [vPr [⟨true, [0]⟩]]] :: Rk 2 k⟩)
  (fun k => 1 - k) (fun k => k <= 1) 0 (by omega) ?_ ?_
 ·simp only [go_sem, cM, vss, hrl, Rk, List.replicate_zero]
 rintro k hk
 obtain rfl | rfl : k = 0 \/ k = 1 := by omega
 case inr =>
  simp only [go_sem, cM, vss, hR1, hw1]
  refine roundK.intro 1 (by omega) (by omega) ?_
  have hR2 : Rk 2 (2 * 1) = [[.any, .any], [.any, .any]] := rfl
  simp only [go_sem, cM, vss, hR2]
 simp only [go_sem, cM, vss, Rk, List.replicate_zero]
 refine CallU.free c4 (by simp only [go_sem]) (by simp only [go_sem]) ?_
 rintro q bx rfl
 simp only [go_sem]
 refine CallU.look c5 (by simp only [go_sem]) (by simp only [go_sem]) ?_
 rintro q bx rfl
 simp only [go_sem, hw1]
 refine roundK.intro 1 (by omega) (by omega) ?_
 simp only [go_sem, cM, vss, hR1]
def lA0 : AV := .ag [vi 2, .sl 0 1 [vStr ⟨#[97]⟩], .sl 0 1 [vStr ⟨#[120]⟩], .sl 0 1 [vStr ⟨#[112]⟩, vStr ⟨#[113]⟩], .nil, vi 0, vi 0, .sl 0 14 [chanN lR0], vi 0, .sl 0 2 [kidN 0, kidN 0]]
def lT0 (w : List Int) : AV := .ag [vi 0, .sl 0 2 [kidN 0, .ag [vi 0, .sl 0 2 (w.map kidN)]]]
theorem lA0_le : leV lA0 (vM lM0) := by
 unfold lA0 vM cM
 refine leV_ag ⟨leV_refl _, leV_refl _, leV_refl _, leV_refl _, leV_nil 0 1, leV_refl _, leV_refl _, ?_, leV_refl _, ?_, trivial⟩
 ·exact leV_slE rfl (fun y hy => by obtain ⟨x, _, rfl⟩ := List.mem_map.1 hy; rfl) (chan_pw [lR0] l0_deal.rules)
 ·exact leV_slE rfl (fun y hy => by
   obtain ⟨x, _, rfl⟩ := List.mem_map.1 hy
   rw [vV_eq]; rfl) (kids_pw [0, 0])
theorem lT0_le (w : List Int) : leV (lT0 w) (vV (chanV 0 [w])) := by
 rw [vV_eq]
 exact leV_ag ⟨leV_refl _, kids_le 0 [w], trivial⟩
theorem l0_Valid (w : List Int) (hw : w.length <= 2 /\ ∀ x ∈ w, 0 <= x /\ x < (2 : Nat)) : Con Tryz.prog 55 [vM lM0, vV (chanV 0 [w])] [] fun r _ => r = vb true := by
 have := con_ValidG lM0 (chanV 0 [w]) l0_deal.len (chanV_ok (by simp) fun x hx => by rw [List.mem_singleton.1 hx]; omega)
 have e : confG lM0 (chanV 0 [w]) = true := by
  unfold confG
  rw [show checkF lM0 = 0 from l0_deal.check, decide_eq_true rfl, Bool.true_and]
  exact chan_valid (ns := 1) (np := 1) (nl := 2) (by omega) (by omega) (by omega) (by omega) ⟨rfl, fun x hx => by rw [List.mem_singleton.1 hx]; exact hw⟩ [lR0] [[]]
 rw [e] at this
 exact this
theorem l0_excl (w : List Int) (hw : w.length <= 2 /\ ∀ x ∈ w, 0 <= x /\ x < (2 : Nat)) : Con Tryz.prog 14 [lA0, .sl 0 2 [vCP lC0], lT0 w] [] fun r _ => r = .tup [vb (!hasCl 2 lC0 0 [w]), vi 0] := by
 have := con_lExcludes lM0 [lC0] 0 [w] (con_dealLossy l0_deal) (fun a ha => by rw [List.mem_singleton.1 ha]; exact l0_ok) (by decide) (l0_Valid w hw) rfl (fun x hx => by rw [List.mem_singleton.1 hx]; omega)
 have e : ([lC0].any fun a => hasCl lM0.letters.length a 0 [w]) = hasCl 2 lC0 0 [w] := by
  show (hasCl 2 lC0 0 [w] || false) = _
  rw [Bool.or_false]
 rw [e] at this
 exact this.leA ⟨lA0_le, leV_refl _, lT0_le w, trivial⟩
theorem l0_h1 : hasCl 2 lC0 0 [[1]] = false := by decide +kernel
theorem l0_h2 : hasCl 2 lC0 0 [[0, 0]] = true := by decide +kernel
theorem con_lsane : Con Tryz.prog 8 [] [] fun r _ => r = vb true := by
 refine Con.intro Tryz.func8 rfl Tryz.ntmps8 Tryz.results8 (by kernel_rfl) (by simp) 0 (by simp) ?_
 have c1 := con_lexplore0.leA (args' := [lA0, vi 9]) ⟨lA0_le, leV_refl _, trivial⟩
 have c2 := l0_excl [1] ⟨by decide, fun x hx => by rw [List.mem_singleton.1 hx]; omega⟩
 have c3 := l0_excl [0, 0] ⟨by decide, fun x hx => by simp only [List.mem_cons, List.not_mem_nil, or_false, or_self] at hx; omega⟩
 have c4 := con_lholds0.leA (args' := [lA0, .sl 0 2 [vCP lC0]]) ⟨lA0_le, leV_refl _, trivial⟩
 rw [l0_h1] at c2
 rw [l0_h2] at c3
 simp only [lA0, lT0, chanN, lR0, chanR, vCP, vCl, lC0, List.map_cons, List.map_nil] at c1 c2 c3 c4
 simp only [go_sem]
 refine CallU.freeze c1 (by simp only [go_sem]) (by simp only [go_sem]) ?_
 rintro r bx rfl
 simp only [go_sem]
 refine CallU.freeze c2 (by simp only [go_sem]) (by simp only [go_sem]) ?_
 rintro r bx rfl
 simp only [go_sem]
 refine CallU.freeze c3 (by simp only [go_sem]) (by simp only [go_sem]) ?_
 rintro r bx rfl
 simp only [go_sem]
 refine CallU.freeze c4 (by simp only [go_sem]) (by simp only [go_sem]) ?_
 rintro r bx rfl
 simp only [go_sem]
end Go.AM
