/- ExA LoA ExDel MxW9 ExB ExC EyA LMod ExD ExE ExF ExD2 ExG EyB MxSort LBra LBra2 LBra5 LBra7 LBra8 LBra9 LEx5 LExC EyC Am7 CmO CmP -/
import Derived.Test.YtebcmlhgfmkpnaaGreatg9
import Derived.Test.YtebcmlhgfmkpnaaGreatg11
import Derived.Shelf.RegionOpenPlain
import Derived.WalkKit
import Derived.Lib.Walk
import Derived.Lib.SliceRun
import Derived.Laws.Externs
import Derived.Test.YtebcmlhgfmkpnaaGreatg8
namespace Go.AM
open Go Go.Proofs Go.RowKit
set_option maxRecDepth 100000
set_option maxHeartbeats 8000000
def vTm (t : TmD) : AV := .ag [vb t.star, vs 0 t.ls]
def vPr (p : List TmD) : AV := .sl 0 2 (p.map vTm)
attribute [go_sem] vTm vPr
theorem getTm {p : List TmD} {i : Nat} (h : i < p.length) : (p.map vTm)[i]? = some (.ag [.sc (.bool p[i]!.star), .sl 0 1 (p[i]!.ls.map vi)]) := by
 rw [List.getElem?_map, List.getElem?_eq_getElem h, getElem!_pos p i h]; rfl
def ascN (n : Int) (l : List Int) : Bool := l.all (fun x => decide (0 <= x /\ x < n)) && ascI l
def ascAt (n : Int) (l : List Int) (j : Nat) : Prop := (0 <= l[j]! /\ l[j]! < n) /\ (0 < j -> l[j - 1]! < l[j]!)
theorem ascI_iff : ∀ {l : List Int}, ascI l = true ↔ ∀ j, 0 < j -> j < l.length -> l[j - 1]! < l[j]!
 | [] => by simp [ascI]
 | [x] => by
  simp only [ascI, List.length_cons, List.length_nil, true_iff]
  intro j h1 h2; omega
 | x :: y :: l => by
  rw [ascI, Bool.and_eq_true, decide_eq_true_eq, ascI_iff]
  constructor
  ·rintro ⟨h1, h2⟩ j hj hl
   match j, hj with
   | 1, _ => exact h1
   | j + 2, _ => exact h2 (j + 1) (by omega) (by simp only [List.length_cons] at hl ⊢; omega)
  ·intro h
   refine ⟨h 1 (by omega) (by simp), fun j hj hl => ?_⟩
   match j, hj with
   | j + 1, _ => exact h (j + 2) (by omega) (by simp only [List.length_cons] at hl ⊢; omega)
theorem ascN_iff {n : Int} {l : List Int} : ascN n l = true ↔ ∀ j, j < l.length -> ascAt n l j := by
 unfold ascN
 rw [Bool.and_eq_true, ascI_iff, List.all_eq_true]
 constructor
 ·rintro ⟨h1, h2⟩ j hj
  have := h1 _ (mem_bangI hj)
  exact ⟨of_decide_eq_true this, fun h => h2 j h hj⟩
 ·intro h
  refine ⟨fun x hx => ?_, fun j h1 h2 => (h j h2).2 h1⟩
  obtain ⟨j, hj, rfl⟩ := List.getElem_of_mem hx
  have := (h j hj).1
  rw [getElem!_pos l j hj] at this
  exact decide_eq_true this
theorem con_xAsc (n : Int) (l : List Int) (hl : l.length <= 9223372036854775806) : Con Tryz.prog 207 [vi n, vs 0 l] [] fun r _ => r = vb (ascN n l) := by
 refine Con.intro Tryz.func207 rfl Tryz.ntmps207 Tryz.results207 (by kernel_rfl) (by simp) 0 (by simp) ?_
 simp only [go_sem]
 refine LoopK.intro (fun i : Nat => ⟨35, [(0, vi n), (1, vs 0 l), (7, vs 0 l), (8, vi l.length), (9, vi i)], []⟩)
  (fun i => l.length - i) (fun i => i <= l.length /\ ∀ j, j < i -> ascAt n l j) 0 ⟨Nat.zero_le _, fun j hj => by omega⟩ ?_ ?_
 ·simp only [go_sem]
 rintro i ⟨hi, ha⟩
 by_cases h : i < l.length
 case neg =>
  have e : ascN n l = true := ascN_iff.2 fun j hj => ha j (by omega)
  simp only [go_sem, h, e]
 have hg := getv h
 have hw : IntKind.i64.wrap (i + 1) = i + 1 := wrap_in (by omega) (by omega)
 have hbad : ¬ ascAt n l i -> ascN n l = false := fun hn => by
  rw [Bool.eq_false_iff]
  exact fun e => hn (ascN_iff.1 e i h)
 by_cases h1 : l[i]! < 0
 ·simp only [go_sem, h, hg, h1, hbad (fun hx => by have := hx.1.1; omega)]
 by_cases h2 : n <= l[i]!
 ·simp only [go_sem, h, hg, h1, h2, hbad (fun hx => by have := hx.1.2; omega)]
 have h3 : 0 <= l[i]! /\ l[i]! < n := by omega
 by_cases h0 : (0 : Int) < (i : Int)
 case neg =>
  simp only [go_sem, h, hg, h1, h2, h0, hw]
  refine roundK.intro (i + 1) ⟨by omega, fun j hj => ?_⟩ (by omega) ?_
  ·have : j = i := by omega
   subst this
   exact ⟨h3, fun h => by omega⟩
  ·simp only [go_sem]
 have hk : i - 1 < l.length := by omega
 have hgk := getv hk
 have hw2 : IntKind.i64.wrap ((i : Int) - 1) = ((i - 1 : Nat) : Int) := by rw [wrap_in (by omega) (by omega)]; omega
 by_cases h4 : l[i]! <= l[i - 1]!
 ·simp only [go_sem, h, hg, h1, h2, h0, hw2, hk, hgk, h4, hbad (fun hx => by have := hx.2 (by omega); omega)]
 ·simp only [go_sem, h, hg, h1, h2, h0, hw2, hk, hgk, h4, hw]
  refine roundK.intro (i + 1) ⟨by omega, fun j hj => ?_⟩ (by omega) ?_
  ·by_cases e : j = i
   ·subst e
    exact ⟨h3, fun _ => by omega⟩
   ·exact ha j (by omega)
  ·simp only [go_sem]
def TellsTm (f : FuncId) (caps : List AV) (l : List TmD) (p : TmD -> Bool) : Prop := ∀ x ∈ l, Con Tryz.prog f ([vTm x] ++ caps) [] fun r _ => r = .sc (.bool (p x))
theorem con_indexTm (l : List TmD) (f : FuncId) (caps : List AV) (p : TmD -> Bool) (hc : mapTops (viewV []) caps = caps) (hf : TellsTm f caps l p) (hl : l.length <= 9223372036854775806) : Con Tryz.prog 144 [vPr l, .fn f caps] [] fun r _ => r = vi (findI p l) := by
 refine Con.intro Tryz.func144 rfl Tryz.ntmps144 Tryz.results144 (by kernel_rfl) (by simp) 0 (by simp) ?_
 simp only [go_sem]
 refine LoopK.intro (fun i : Nat => ⟨19, [(0, .sl 0 2 (l.map vTm)), (1, .fn f caps), (7, vi l.length), (8, vi i)], []⟩)
  (fun i => l.length - i) (fun i => i <= l.length /\ ∀ j, j < i -> p l[j]! = false) 0 ⟨by omega, fun j hj => by omega⟩ ?_ ?_
 ·simp only [go_sem]
  all_goals exact leV_refl _
 ·rintro i ⟨hi, hb⟩
  by_cases h : i < l.length
  ·have hg := getTm h
   have hw : IntKind.i64.wrap (i + 1) = i + 1 := wrap_in (by omega) (by omega)
   have hx := hf l[i]! (mem_bangI h)
   simp only [vTm] at hx
   simp only [go_sem, h, hg, List.length_map]
   refine CallU.look hx (by simp only [go_sem]) (by simp only [go_sem, hc]) ?_
   rintro r bx rfl
   cases hp : p l[i]!
   ·simp only [go_sem, hw]
    refine roundK.intro (i + 1) ⟨by omega, fun j hj => ?_⟩ (by omega) ?_
    ·by_cases hji : j = i
     ·subst hji; exact hp
     ·exact hb j (by omega)
    ·simp only [go_sem]
     all_goals exact leV_refl _
   ·simp only [go_sem]
    rw [findI_stop h hb hp]
  ·simp only [go_sem, h]
   rw [findI_none (fun j hj => hb j (by omega))]
theorem con_containsTm (l : List TmD) (f : FuncId) (caps : List AV) (p : TmD -> Bool) (hc : mapTops (viewV []) caps = caps) (hf : TellsTm f caps l p) (hl : l.length <= 9223372036854775806) : Con Tryz.prog 205 [vPr l, .fn f caps] [] fun r _ => r = .sc (.bool (l.any p)) := by
 refine Con.intro Tryz.func205 rfl Tryz.ntmps205 Tryz.results205 (by kernel_rfl) (by simp) 0 (by simp) ?_
 have hx := con_indexTm l f caps p hc hf hl
 simp only [vPr] at hx
 simp only [go_sem]
 refine CallU.look hx (by simp only [go_sem]) (by simp only [go_sem]) ?_
 rintro r bx rfl
 simp only [go_sem, findI_ge]
def termB (n : Int) (t : TmD) : Bool := ascN n t.ls && (t.star || decide (t.ls.length = 1))
def checkX (n : Int) (p : List TmD) : Int := if ¬ (1 <= n /\ n <= 6) then 2 else if 24 < p.length then 1 else if (p.any fun t => !termB n t) = true then 8 else 0
theorem con_xCheck1 (n : Int) (t : TmD) (hl : t.ls.length <= 9223372036854775806) : Con Tryz.prog 206 [vTm t, .fp [vi n] 0] [] fun r _ => r = .sc (.bool (!termB n t)) := by
 refine Con.intro Tryz.func206 rfl Tryz.ntmps206 Tryz.results206 (by kernel_rfl) (by simp) 0 (by simp) ?_
 have ha := con_xAsc n t.ls hl
 simp only [go_sem]
 refine CallU.free ha (by simp only [go_sem]) (by simp only [go_sem]) ?_
 rintro r bx rfl
 unfold termB
 cases h1 : ascN n t.ls with
 | false => simp only [go_sem, Bool.false_and]
 | true =>
  cases h2 : t.star with
  | true => simp only [go_sem, Bool.true_and, Bool.true_or]
  | false =>
   by_cases h3 : t.ls.length = 1
   ·have h4 : ((t.ls.length : Int) != 1) = false := by rw [h3]; rfl
    simp only [go_sem, h3, decide_true, Bool.true_and, Bool.false_or]
   ·have h4 : ((t.ls.length : Int) != 1) = true := bne_iff_ne.2 (by omega)
    simp only [go_sem, h3, h4, decide_false, Bool.true_and, Bool.false_or]
theorem con_xNumber (n : Int) : Con Tryz.prog 204 [vi n] [] fun r _ => r = vb (decide (1 <= n /\ n <= 6)) := by
 refine Con.intro Tryz.func204 rfl Tryz.ntmps204 Tryz.results204 (by kernel_rfl) (by simp) 0 (by simp) ?_
 by_cases h1 : 1 <= n
 ·by_cases h2 : n <= 6
  ·simp only [go_sem, h1, h2, and_self, decide_true]
  ·simp only [go_sem, h1, h2, and_false, decide_false]
 ·simp only [go_sem, h1, false_and, decide_false]
theorem con_xCheck (n : Int) (p : List TmD) (hp : p.length <= 9223372036854775806) (hl : ∀ t ∈ p, t.ls.length <= 9223372036854775806) : Con Tryz.prog 130 [vi n, vPr p] [] fun r _ => r = vi (checkX n p) := by
 refine Con.intro Tryz.func130 rfl Tryz.ntmps130 Tryz.results130 (by kernel_rfl) (by simp) 0 (by simp) ?_
 have hx := con_containsTm p 206 [.fp [vi n] 0] (fun t => !termB n t) (by simp only [go_sem]) (fun t ht => con_xCheck1 n t (hl t ht)) hp
 simp only [vPr] at hx
 unfold checkX
 simp only [go_sem]
 refine CallU.free (con_xNumber n) (by simp only [go_sem]) (by simp only [go_sem]) ?_
 rintro r bx rfl
 by_cases h1 : 1 <= n /\ n <= 6
 case neg => simp only [go_sem, h1, decide_false, not_false_iff, if_true]
 simp only [h1, and_self, decide_true, not_true, if_false]
 by_cases h2 : 24 < p.length
 ·have h3 : (24 : Int) < (p.length : Int) := by omega
  simp only [go_sem, h2, h3, List.length_map, if_true]
 have h3 : ¬ (24 : Int) < (p.length : Int) := by omega
 simp only [go_sem, h3, List.length_map, if_false]
 refine CallU.look hx (by simp only [go_sem]) (by simp only [go_sem]) ?_
 rintro r bx rfl
 cases h4 : p.any fun t => !termB n t with
 | true => simp only [go_sem, h2, if_true, if_false]
 | false => simp only [go_sem, h2, Bool.false_eq_true, if_false]
theorem con_xWithin1 (u : TmD) (x : Int) (hl : u.ls.length <= 9223372036854775806) : Con Tryz.prog 291 [vi x, .fp [vb u.star, vs 0 u.ls] 0] [] fun r _ => r = .sc (.bool (!decide (x ∈ u.ls))) := by
 refine Con.intro Tryz.func291 rfl Tryz.ntmps291 Tryz.results291 (by kernel_rfl) (by simp) 0 (by simp) ?_
 have e : (u.ls.any fun y => x == y) = decide (x ∈ u.ls) := by
  rw [Bool.eq_iff_iff, List.any_eq_true, decide_eq_true_eq]
  constructor
  ·rintro ⟨y, hy, h⟩; rw [beq_iff_eq.1 h]; exact hy
  ·intro h; exact ⟨x, h, beq_self_eq_true _⟩
 have hc := con_mxContains u.ls x hl
 rw [e] at hc
 simp only [go_sem]
 refine CallU.free hc (by simp only [go_sem]) (by simp only [go_sem]) ?_
 rintro r bx rfl
 simp only [go_sem]
theorem con_xWithin (t u : TmD) (ht : t.ls.length <= 1000000) (hu : u.ls.length <= 1000000) (hs : u.star = false -> u.ls ≠ []) : Con Tryz.prog 226 [vTm t, vTm u] [] fun r _ => r = vb (witT t u) := by
 refine Con.intro Tryz.func226 rfl Tryz.ntmps226 Tryz.results226 (by kernel_rfl) (by simp) 0 (by simp) ?_
 have hx := con_containsInt t.ls 291 [.fp [vb u.star, vs 0 u.ls] 0] (fun x => !decide (x ∈ u.ls)) (by simp only [go_sem]) (fun x _ => con_xWithin1 u x (by omega)) (by omega)
 unfold witT
 cases h1 : u.star with
 | true =>
  have e : (t.ls.all fun x => decide (x ∈ u.ls)) = !(t.ls.any fun x => !decide (x ∈ u.ls)) := by
   rw [List.not_any_eq_all_not]; congr 1; funext x; simp
  rw [h1] at hx
  rw [if_pos rfl, e]
  simp only [go_sem, h1]
  refine CallU.look hx (by simp only [go_sem]) (by simp only [go_sem]) ?_
  rintro r bx rfl
  simp only [go_sem]
 | false =>
  rw [if_neg (by simp)]
  cases hut : u.ls with
  | nil => exact absurd hut (hs h1)
  | cons y ul =>
  cases htl : t.ls with
  | nil =>
   simp only [go_sem, h1, htl]
   refine DrawK.walk 20 mixed (by kernel_rfl) ?_
   simp only [go_sem, List.isEmpty_nil, Bool.true_or]
  | cons x tl =>
   have h0 : ((tl.length : Int) + 1 == 0) = false := beq_eq_false_iff_ne.2 (by omega)
   have hz : (some x == some y) = (x == y) := rfl
   cases h2 : t.star with
   | true =>
    simp only [go_sem, h1, h2]
    refine DrawK.walk 20 mixed (by kernel_rfl) ?_
    simp only [go_sem, h0, htl, List.isEmpty_cons, Bool.not_true, Bool.false_and, Bool.or_false]
   | false =>
    simp only [go_sem, h1, h2]
    refine DrawK.walk 20 mixed (by kernel_rfl) ?_
    simp only [go_sem, h0, htl, hut, List.isEmpty_cons, Bool.not_false, Bool.true_and, Bool.false_or, List.head?_cons, hz]
    exact ⟨by omega, by omega⟩
def xleqTree : Tr := .front 0 (.front 2 (.alt (.one 1 (.alt (.one 3 (.one 4 (.one 5 .done))) (.one 4 (.one 3 (.one 5 .done))))) (.one 3 (.one 1 (.one 4 (.one 5 .done))))))
theorem drop_tm (p : List TmD) (n : Nat) : (p.map vTm).drop n = (p.drop n).map vTm := by rw [List.map_drop]
theorem con_xleq (p0 q0 : List TmD) (hp0 : OkP p0) (hq0 : OkP q0) (hpl : p0.length <= 1000000) (hql : q0.length <= 1000000) (hp1 : ∀ t ∈ p0, t.ls.length <= 1000000) (hq1 : ∀ t ∈ q0, t.ls.length <= 1000000) :
  Con Tryz.prog 147 [vPr p0, vPr q0] [] fun r _ => r = vb (leqP p0 q0) := by
 refine Con.intro Tryz.func147 rfl Tryz.ntmps147 Tryz.results147 (by kernel_rfl) (by simp) 0 (by simp) ?_
 simp only [go_sem]
 refine LoopK.intro (fun x : List TmD × List TmD => ⟨43, [(0, .sl 0 2 (x.1.map vTm)), (1, .sl 0 2 (x.2.map vTm))], []⟩)
  (fun x => x.1.length + x.2.length) (fun x => leqP x.1 x.2 = leqP p0 q0 /\ (OkP x.1 /\ OkP x.2) /\ (x.1.length <= 1000000 /\ x.2.length <= 1000000) /\ (∀ t ∈ x.1, t.ls.length <= 1000000) /\ (∀ t ∈ x.2, t.ls.length <= 1000000)) (p0, q0) ⟨rfl, ⟨hp0, hq0⟩, ⟨hpl, hql⟩, hp1, hq1⟩ ?_ ?_
 ·simp only [go_sem]
 rintro ⟨p, q⟩ ⟨he, ⟨hp, hq⟩, ⟨hpl, hql⟩, hp1, hq1⟩
 simp only at he hp hq hpl hql hp1 hq1
 clear hp0 hq0
 rw [<- he]
 clear he
 cases p with
 | nil =>
  rw [leqP_nil]
  simp only [go_sem, List.map_nil, List.length_nil]
 | cons t p =>
  simp only [List.length_cons] at hpl
  have hpos : (0 : Int) < (p.length : Int) + 1 := by omega
  have hone : (1 : Int) <= (p.length : Int) + 1 := by omega
  have htk : ∀ l : List TmD, (l.map vTm).take l.length = l.map vTm := fun l => List.take_of_length_le (by simp)
  have hpt : ∀ x ∈ p, x.ls.length <= 1000000 := fun x hx => hp1 x (by simp [hx])
  by_cases h1 : t.ls = []
  ·have e : leqP p q = leqP (t :: p) q := by
    cases q with
    | nil => rw [leqP_none, h1]; rfl
    | cons u q => rw [leqP_cons, if_pos (nil_iff.2 h1)]
   simp only [go_sem, h1, hpos, htk, List.map_cons, List.map_nil, List.length_cons, List.length_map, List.length_nil]
   refine ⟨Nat.le_refl _, ?_⟩
   refine roundK.intro (p, q) ⟨e, ⟨hp.tail, hq⟩, ⟨by show p.length <= _; omega, hql⟩, hpt, hq1⟩ (by simp only [List.length_cons]; omega) ?_
   simp only [go_sem]
  have h0 : ((t.ls.length : Int) == 0) = false := beq_eq_false_iff_ne.2 fun h => h1 (List.length_eq_zero_iff.1 (by omega))
  have h1' : ¬ t.ls.isEmpty = true := by rw [nil_iff]; exact h1
  cases q with
  | nil =>
   have e : leqP (t :: p) [] = false := by rw [leqP_none]; cases h : t.ls <;> simp_all
   rw [e]
   simp only [go_sem, h0, hpos, List.map_cons, List.map_nil, List.length_cons, List.length_map, List.length_nil]
  | cons u q =>
   simp only [List.length_cons] at hql
   have hqpos : (0 : Int) < (q.length : Int) + 1 := by omega
   have hq0 : ((q.length : Int) + 1 == 0) = false := beq_eq_false_iff_ne.2 (by omega)
   have hqt : ∀ x ∈ q, x.ls.length <= 1000000 := fun x hx => hq1 x (by simp [hx])
   have hw := con_xWithin t u (hp1 t (by simp)) (hq1 u (by simp)) (fun h => by obtain ⟨y, hy⟩ := hq.head.one h; rw [hy]; simp)
   have e := leqP_cons t u p q
   rw [if_neg h1'] at e
   simp only [vTm] at hw
   simp only [go_sem, h0, hpos, hq0, List.map_cons, List.length_cons, List.length_map]
   refine DrawK.walk 8 mixed (by kernel_rfl) ?_
   simp only [go_sem, hpos, hqpos, List.length_cons, List.length_map]
   refine CallY.mk hw (by simp only [go_sem]) (by simp only [go_sem]) (.inl (by simp only [go_sem])) ?_
   cases h2 : witT t u with
   | false =>
    rw [h2, if_pos (show (!false) = true from rfl)] at e
    simp only [go_sem, htk, List.length_cons, List.length_map]
    refine ⟨Nat.le_refl _, ?_⟩
    refine roundK.intro (t :: p, q) ⟨e.symm, ⟨hp, hq.tail⟩, ⟨by simp only [List.length_cons]; omega, by show q.length <= _; omega⟩, hp1, hqt⟩ (by simp only [List.length_cons]; omega) ?_
    simp only [go_sem, List.map_cons]
   | true =>
    rw [h2, if_neg (by simp)] at e
    cases h3 : u.star with
    | true =>
     rw [if_pos h3] at e
     simp only [go_sem, hqpos, htk, List.length_cons, List.length_map]
     refine ⟨Nat.le_refl _, ?_⟩
     refine roundK.intro (p, u :: q) ⟨e.symm, ⟨hp.tail, hq⟩, ⟨by show p.length <= _; omega, by simp only [List.length_cons]; omega⟩, hpt, hq1⟩ (by simp only [List.length_cons]; omega) ?_
     simp only [go_sem, h3, List.map_cons]
    | false =>
     rw [if_neg (by simp [h3])] at e
     simp only [go_sem, hqpos, htk, List.length_cons, List.length_map]
     refine DrawK.meet ⟨43, [(0, .sl 0 2 (p.map vTm)), (1, .sl 0 2 (q.map vTm))], []⟩ ?_ ?_
     ·refine DrawK.tree xleqTree mixed (by kernel_rfl) ?_
      unfold xleqTree
      simp only [go_sem, htk, Nat.le_refl, List.length_cons, List.length_map]
     simp only [go_sem]
     refine roundK.intro (p, q) ⟨e.symm, ⟨hp.tail, hq.tail⟩, ⟨by show p.length <= _; omega, by show q.length <= _; omega⟩, hpt, hqt⟩ (by simp only [List.length_cons]; omega) ?_
     simp only [go_sem]
theorem Con.frozX {P : Program} {f : FuncId} {args : List AV} {y : AV} (h : Con P f args [] fun r _ => leV (r.freeze fun _ => true) y) : Con P f args [] fun r _ => r = y :=
 (Con.freezeR (fun _ => true) h).weak fun r b ⟨r0, h0, h1⟩ => by
  subst h1
  exact ⟨_, rfl, h0⟩
theorem con_xOf (w : List Int) (hl : w.length <= 1000000) : Con Tryz.prog 169 [vs 0 w] [] fun r _ => r = vPr (ofW w) := by
 refine Con.frozX ?_
 refine Con.intro Tryz.func169 rfl Tryz.ntmps169 Tryz.results169 (by kernel_rfl) (by simp) 0 (by simp) ?_
 simp only [go_sem]
 refine LoopK.intro (fun i : Nat => ⟨20, [(3, .sl 1152 2 ((ofW (w.take i)).map vTm)), (6, vs 0 w), (7, vi w.length), (8, vi i)], []⟩)
  (fun i => w.length - i) (fun i => i <= w.length) 0 (Nat.zero_le _) ?_ ?_
 ·simp only [go_sem, List.take_zero, ofW, List.map_nil]
  all_goals exact leB_self _
 rintro i hi
 by_cases h : i < w.length
 ·have hg := getv h
  have hw : IntKind.i64.wrap (i + 1) = i + 1 := wrap_in (by omega) (by omega)
  have e : (ofW (w.take (i + 1))).map vTm = (ofW (w.take i)).map vTm ++ [.ag [vb false, .sl 0 1 [vi w[i]!]]] := by
   rw [List.take_succ_eq_append_getElem h, <- getElem!_pos w i h]; unfold ofW; rw [List.map_append, List.map_append]; rfl
  have hlen : (ofW (w.take i)).length = i := by unfold ofW; rw [List.length_map, List.length_take]; omega
  simp only [go_sem, h, hg, hw]
  refine ⟨by simp only [roomFor, hlen]; omega, ?_⟩
  refine roundK.intro (i + 1) (by omega) (by omega) ?_
  simp only [go_sem, e]
  all_goals exact leB_self _
 ·have e : w.take i = w := List.take_of_length_le (by omega)
  simp only [go_sem, h, e]
  exact leV_refl _
def validW (w : List Int) : Bool := decide (w.length <= 12) && w.all fun x => decide (0 <= x /\ x < 16)
theorem con_xValid1 (x : Int) : Con Tryz.prog 262 [vi x] [] fun r _ => r = .sc (.bool (!decide (0 <= x /\ x < 16))) := by
 refine Con.intro Tryz.func262 rfl Tryz.ntmps262 Tryz.results262 (by kernel_rfl) (by simp) 0 (by simp) ?_
 by_cases h1 : x < 0
 ·have e : ¬ (0 <= x /\ x < 16) := by omega
  simp only [go_sem, h1, e, decide_false, Bool.not_false]
 ·by_cases h2 : 16 <= x
  ·have e : ¬ (0 <= x /\ x < 16) := by omega
   simp only [go_sem, h1, h2, e, decide_false, Bool.not_false]
  ·have e : 0 <= x /\ x < 16 := by omega
   simp only [go_sem, h1, h2, e, and_self, decide_true, Bool.not_true]
theorem con_xValid (w : List Int) (hl : w.length <= 1000000) : Con Tryz.prog 168 [vs 0 w] [] fun r _ => r = vb (validW w) := by
 refine Con.intro Tryz.func168 rfl Tryz.ntmps168 Tryz.results168 (by kernel_rfl) (by simp) 0 (by simp) ?_
 have hx := con_containsInt w 262 [] (fun x => !decide (0 <= x /\ x < 16)) (by simp only [go_sem]) (fun x _ => con_xValid1 x) (by omega)
 have e : (w.all fun x => decide (0 <= x /\ x < 16)) = !(w.any fun x => !decide (0 <= x /\ x < 16)) := by
  rw [List.not_any_eq_all_not]; congr 1; funext x; simp
 unfold validW
 rw [e]
 by_cases h1 : w.length <= 12
 ·have h2 : (w.length : Int) <= 12 := by omega
  simp only [go_sem, h2]
  refine CallU.look hx (by simp only [go_sem]) (by simp only [go_sem]) ?_
  rintro r bx rfl
  simp only [go_sem, h1, decide_true, Bool.true_and]
 ·have h2 : ¬ (w.length : Int) <= 12 := by omega
  simp only [go_sem, h1, h2, decide_false, Bool.false_and]
theorem asc_low {n : Int} {l : List Int} (h : ascN n l = true) : ∀ j, j < l.length -> (j : Int) <= l[j]!
 | 0, hj => ((ascN_iff.1 h) 0 hj).1.1
 | j + 1, hj => by
  have h1 := asc_low h j (by omega)
  have h2 := ((ascN_iff.1 h) (j + 1) hj).2 (by omega)
  simp only [Nat.add_sub_cancel] at h2
  omega
theorem asc_len {n : Int} {l : List Int} (h : ascN n l = true) : (l.length : Int) <= n \/ l = [] := by
 by_cases h0 : l.length = 0
 ·exact .inr (List.length_eq_zero_iff.1 h0)
 ·have h1 := asc_low h (l.length - 1) (by omega)
  have h2 := ((ascN_iff.1 h) (l.length - 1) (by omega)).1.2
  omega
structure ValidP (n : Int) (p : List TmD) : Prop where
 num : 1 <= n /\ n <= 6
 few : p.length <= 24
 ok : OkP p
 letters : ∀ t ∈ p, ∀ x ∈ t.ls, 0 <= x /\ x < n
 short : ∀ t ∈ p, t.ls.length <= 6
theorem term_ok {n : Int} {t : TmD} (h : termB n t = true) : t.Ok /\ ∀ x ∈ t.ls, 0 <= x /\ x < n := by
 unfold termB ascN at h
 simp only [Bool.and_eq_true, Bool.or_eq_true, decide_eq_true_eq, List.all_eq_true] at h
 refine ⟨⟨fun hs => ?_, h.1.2⟩, h.1.1⟩
 rcases h.2 with h2 | h2
 ·rw [hs] at h2; cases h2
 ·match ht : t.ls, h2 with
  | [x], _ => exact ⟨x, rfl⟩
theorem ok_term {n : Int} {t : TmD} (h : t.Ok) (hx : ∀ x ∈ t.ls, 0 <= x /\ x < n) : termB n t = true := by
 unfold termB ascN
 simp only [Bool.and_eq_true, Bool.or_eq_true, decide_eq_true_eq, List.all_eq_true]
 refine ⟨⟨hx, h.asc⟩, ?_⟩
 cases hs : t.star with
 | true => exact .inl rfl
 | false =>
  obtain ⟨x, e⟩ := h.one hs
  exact .inr (by rw [e]; rfl)
theorem check_zero {n : Int} {p : List TmD} : checkX n p = 0 ↔ ValidP n p := by
 unfold checkX
 constructor
 ·intro h
  split at h
  ·omega
  rename_i h1
  split at h
  ·omega
  rename_i h2
  split at h
  ·omega
  rename_i h3
  have h1 : 1 <= n /\ n <= 6 := Classical.byContradiction h1
  have h4 : ∀ t ∈ p, termB n t = true := fun t ht => by
   cases hb : termB n t with
   | true => rfl
   | false => exact absurd (List.any_eq_true.2 ⟨t, ht, by rw [hb]; rfl⟩) h3
  refine ⟨h1, by omega, fun t ht => (term_ok (h4 t ht)).1, fun t ht => (term_ok (h4 t ht)).2, fun t ht => ?_⟩
  have h5 := h4 t ht
  unfold termB at h5
  rw [Bool.and_eq_true] at h5
  rcases asc_len h5.1 with h6 | h6
  ·omega
  ·rw [h6]; simp
 ·intro h
  have h1 := h.num; have h2 := h.few
  rw [if_neg (fun hn => hn h1), if_neg (by omega), if_neg]
  rw [List.any_eq_true]
  rintro ⟨t, ht, hb⟩
  rw [ok_term (h.ok t ht) (h.letters t ht)] at hb
  cases hb
theorem ValidP.long {n : Int} {p : List TmD} (h : ValidP n p) : ∀ t ∈ p, t.ls.length <= 1000000 := fun t ht => by have := h.short t ht; omega
structure LenP (p : List TmD) : Prop where
 len : p.length <= 1000000
 terms : ∀ t ∈ p, t.ls.length <= 1000000
theorem ValidP.lenP {n : Int} {p : List TmD} (h : ValidP n p) : LenP p := ⟨by have := h.few; omega, h.long⟩
theorem con_xCheckL (n : Int) (p : List TmD) (h : LenP p) : Con Tryz.prog 130 [vi n, vPr p] [] fun r _ => r = vi (checkX n p) :=
 con_xCheck n p (by have := h.len; omega) fun t ht => by have := h.terms t ht; omega
def hasX (n : Int) (p : List TmD) (w : List Int) : Bool := (checkX n p == 0) && validW w && memP p w
theorem con_xHas (n : Int) (p : List TmD) (w : List Int) (hp : LenP p) (hw : w.length <= 1000000) : Con Tryz.prog 102 [vi n, vPr p, vs 0 w] [] fun r _ => r = vb (hasX n p w) := by
 refine Con.intro Tryz.func102 rfl Tryz.ntmps102 Tryz.results102 (by kernel_rfl) (by simp) 0 (by simp) ?_
 have hc := con_xCheckL n p hp
 have ho := con_xOf w hw
 simp only [vPr] at hc ho
 unfold hasX
 simp only [go_sem]
 refine CallU.free hc (by simp only [go_sem]) (by simp only [go_sem]) ?_
 rintro r bx rfl
 by_cases h1 : checkX n p = 0
 case neg =>
  have h1' : (checkX n p == 0) = false := beq_eq_false_iff_ne.2 h1
  simp only [go_sem, h1', Bool.false_and]
 have hv := check_zero.1 h1
 have h1' : (checkX n p == 0) = true := beq_iff_eq.2 h1
 simp only [go_sem, h1']
 refine CallU.free (con_xValid w hw) (by simp only [go_sem]) (by simp only [go_sem]) ?_
 rintro r bx rfl
 cases h2 : validW w with
 | false => simp only [go_sem, Bool.and_false, Bool.false_and]
 | true =>
  have hq := con_xleq (ofW w) p (ofW_ok w) hv.ok (by unfold ofW; rw [List.length_map]; exact hw) hp.len (fun t ht => by obtain ⟨x, _, rfl⟩ := List.mem_map.1 ht; simp) hp.terms
  rw [leqP_of hv.ok] at hq
  simp only [vPr] at hq
  simp only [go_sem]
  refine CallU.free ho (by simp only [go_sem]) (by simp only [go_sem]) ?_
  rintro r bx rfl
  simp only [go_sem]
  refine CallU.free hq (by simp only [go_sem]) (by simp only [go_sem]) ?_
  rintro r bx rfl
  simp only [go_sem, h1', Bool.true_and, Bool.and_true]
def leqX (n : Int) (p q : List TmD) : Bool := (checkX n p == 0) && (checkX n q == 0) && leqP p q
theorem con_xLeq (n : Int) (p q : List TmD) (hp : LenP p) (hq : LenP q) : Con Tryz.prog 94 [vi n, vPr p, vPr q] [] fun r _ => r = vb (leqX n p q) := by
 refine Con.intro Tryz.func94 rfl Tryz.ntmps94 Tryz.results94 (by kernel_rfl) (by simp) 0 (by simp) ?_
 have hc := con_xCheckL n p hp
 have hd := con_xCheckL n q hq
 simp only [vPr] at hc hd
 unfold leqX
 simp only [go_sem]
 refine CallU.free hc (by simp only [go_sem]) (by simp only [go_sem]) ?_
 rintro r bx rfl
 by_cases h1 : checkX n p = 0
 case neg =>
  have h1' : (checkX n p == 0) = false := beq_eq_false_iff_ne.2 h1
  simp only [go_sem, h1', Bool.false_and]
 have hv := check_zero.1 h1
 have h1' : (checkX n p == 0) = true := beq_iff_eq.2 h1
 simp only [go_sem, h1']
 refine CallU.free hd (by simp only [go_sem]) (by simp only [go_sem]) ?_
 rintro r bx rfl
 by_cases h2 : checkX n q = 0
 case neg =>
  have h2' : (checkX n q == 0) = false := beq_eq_false_iff_ne.2 h2
  simp only [go_sem, h2', Bool.false_and, Bool.and_false]
 have hu := check_zero.1 h2
 have h2' : (checkX n q == 0) = true := beq_iff_eq.2 h2
 have hx := con_xleq p q hv.ok hu.ok hp.len hq.len hp.terms hq.terms
 simp only [vPr] at hx
 simp only [go_sem, h2']
 refine CallU.free hx (by simp only [go_sem]) (by simp only [go_sem]) ?_
 rintro r bx rfl
 simp only [go_sem, h1', h2', Bool.true_and]
def vCl (s : Int) (W : List (List TmD)) : AV := .ag [vi s, .sl 0 1 (W.map vPr)]
structure LawP (nl k : Nat) (p : List TmD) : Prop where
 few : p.length <= k
 ls : ∀ t ∈ p, ∃ a, t.ls = [a] /\ 0 <= a /\ a < nl
theorem LawP.snoc {nl k : Nat} {p : List TmD} (h : LawP nl k p) {s : Bool} {a : Int} (ha : 0 <= a /\ a < nl) : LawP nl (k + 1) (p ++ [⟨s, [a]⟩]) :=
 ⟨by have := h.few; rw [List.length_append]; simp; omega, fun t ht => by
  rcases List.mem_append.1 ht with ht | ht
  ·exact h.ls t ht
  ·rw [List.mem_singleton.1 ht]; exact ⟨a, rfl, ha⟩⟩
theorem LawP.ok {nl k : Nat} {p : List TmD} (h : LawP nl k p) : OkP p := fun t ht => by
 obtain ⟨a, e, _⟩ := h.ls t ht
 exact ⟨fun _ => ⟨a, e⟩, by rw [e]; rfl⟩
theorem LawP.valid {nl k : Nat} {p : List TmD} (h : LawP nl k p) (hk : k <= 24) (hn : 1 <= nl /\ nl <= 6) : ValidP nl p :=
 ⟨by omega, by have := h.few; omega, h.ok, fun t ht x hx => by
  obtain ⟨a, e, h1, h2⟩ := h.ls t ht
  rw [e, List.mem_singleton] at hx
  rw [hx]; exact ⟨h1, h2⟩, fun t ht => by
  obtain ⟨a, e, _⟩ := h.ls t ht
  rw [e]; simp⟩
structure LawC (ns np nl : Nat) (s : Int) (W : List (List TmD)) : Prop where
 st : 0 <= s /\ s < ns
 len : W.length = np
 ws : ∀ p ∈ W, LawP nl 3 p
def drawP (l : List Int) (nl : Nat) : Nat -> Nat -> List TmD × Nat
 | 0, a => ([], a)
 | k + 1, a => ((drawP l nl k a).1 ++ [⟨pickV l (pickA l (drawP l nl k a).2) 3 == 0, [pickV l (drawP l nl k a).2 nl]⟩], pickA l (pickA l (drawP l nl k a).2))
def drawC (l : List Int) (nl : Nat) : Nat -> Nat -> List (List TmD) × Nat
 | 0, a => ([], a)
 | i + 1, a => ((drawC l nl i a).1 ++ [(drawP l nl (pickV l (drawC l nl i a).2 4).toNat (pickA l (drawC l nl i a).2)).1], (drawP l nl (pickV l (drawC l nl i a).2 4).toNat (pickA l (drawC l nl i a).2)).2)
theorem con_lcloudF (l : List Int) (at_ : Nat) (m : MD) (hs : Seeds l) (ha : at_ <= l.length) (h1 : 1 <= m.states.length) (hp : m.places.length <= 1000) (hl : 1 <= m.letters.length) :
  Con Tryz.prog 17 [.pb 0 0, vM m] [diceA l at_]
  fun r b => ∃ s W at', (s = pickV l at_ m.states.length /\ (W, at') = drawC l m.letters.length m.places.length (pickA l at_)) /\ LawC m.states.length m.places.length m.letters.length s W /\ at' <= l.length /\ r = vCl s W /\ b = [diceA l at'] := by
 have key : Con Tryz.prog 17 [.pb 0 0, vM m] [diceA l at_]
  fun r b => ∃ s W at', (s = pickV l at_ m.states.length /\ (W, at') = drawC l m.letters.length m.places.length (pickA l at_)) /\ LawC m.states.length m.places.length m.letters.length s W /\ at' <= l.length /\ r = .ag [vi s, .sl 2 1 (W.map vPr)] /\ b = [diceA l at'] := by
  refine Con.intro Tryz.func17 rfl Tryz.ntmps17 Tryz.results17 (by kernel_rfl) (by simp) 1 (by simp) ?_
  have hp1 := pickA_le ha
  have hv1 := pickV_lt (l := l) (at_ := at_) (n := m.states.length) (by omega)
  simp only [go_sem, cM, vss, List.length_map]
  refine CallU.boxes (i := 0) (is := []) (bx0 := [diceA l at_]) (con_pickF l at_ m.states.length hs ha (by omega)) (by simp only [go_sem]) (by simp only [go_sem]) (by simp only [go_sem]) (by simp only [go_sem]) (by simp only [go_sem]) ?_
  rintro r b ⟨rfl, rfl⟩
  obtain ⟨s, hs1⟩ : ∃ s, s = pickV l at_ m.states.length := ⟨_, rfl⟩
  obtain ⟨a1, hs2⟩ : ∃ a1, a1 = pickA l at_ := ⟨_, rfl⟩
  rw [<- hs1] at hv1 ⊢
  rw [<- hs2] at hp1 ⊢
  simp only [go_sem, List.length_map]
  refine LoopK.intro (fun x : Nat × List (List TmD) × Nat => ⟨55, [(0, .pb 0 0), (3, .pb 1 0), (4, .pb 2 0), (5, .pb 3 0), (17, vi m.places.length), (18, vi x.1)], [diceA l x.2.2, cM m, [.any, .any], [vi s, .sl 3328 1 (x.2.1.map vPr)]]⟩)
   (fun x => m.places.length - x.1) (fun x => x.1 <= m.places.length /\ x.2.1.length = x.1 /\ (∀ p ∈ x.2.1, LawP m.letters.length 3 p) /\ x.2.2 <= l.length /\ x.2 = drawC l m.letters.length x.1 a1) (0, [], a1) ⟨Nat.zero_le _, rfl, fun p hp => absurd hp (by simp), hp1, rfl⟩ ?_ ?_
  ·simp only [go_sem, cM, vss, List.map_nil]
  rintro ⟨i, W, a2⟩ ⟨hi, hW, hWk, ha2, hdC⟩
  simp only at hi hW hWk ha2 hdC
  by_cases h : i < m.places.length
  case neg =>
   simp only [go_sem, h]
   have ei : i = m.places.length := by omega
   exact ⟨s, W, a2, ⟨rfl, by rw [hdC, ei]⟩, ⟨hv1, by omega, hWk⟩, ha2, rfl, rfl⟩
  have hwi : IntKind.i64.wrap (i + 1) = i + 1 := wrap_in (by omega) (by omega)
  simp only [go_sem, h, cM, vss]
  refine CallU.boxes (i := 0) (is := []) (bx0 := [diceA l a2]) (con_pickF l a2 4 hs ha2 (by omega)) (by simp only [go_sem]) (by simp only [go_sem]) (by simp only [go_sem]) (by simp only [go_sem]) (by simp only [go_sem]) ?_
  rintro r b ⟨rfl, rfl⟩
  have hv2 := pickV_lt (l := l) (at_ := a2) (n := 4) (by omega)
  have ha3 := pickA_le ha2
  obtain ⟨k, ek⟩ : ∃ k : Nat, pickV l a2 4 = k := ⟨_, (Int.toNat_of_nonneg hv2.1).symm⟩
  rw [ek] at hv2 ⊢
  obtain ⟨a3, ea3⟩ : ∃ a3, a3 = pickA l a2 := ⟨_, rfl⟩
  rw [<- ea3] at ha3 ⊢
  simp only [go_sem]
  refine LoopK.intro (fun x : List TmD × Nat × Nat => ⟨55, [(0, .pb 0 0), (3, .pb 1 0), (4, .pb 2 0), (5, .pb 3 0), (17, vi m.places.length), (18, vi i), (6, .sl 3008 2 (x.1.map vTm)), (7, vi x.2.1)], [diceA l x.2.2, cM m, [.any, .any], [vi s, .sl 3328 1 (W.map vPr)]]⟩)
   (fun x => x.2.1) (fun x => x.2.1 <= k /\ LawP m.letters.length (k - x.2.1) x.1 /\ x.2.2 <= l.length /\ (x.1, x.2.2) = drawP l m.letters.length (k - x.2.1) a3) ([], k, a3) ⟨Nat.le_refl _, ⟨Nat.zero_le _, fun t ht => absurd ht (by simp)⟩, ha3, by rw [show k - ([], k, a3).2.1 = 0 by simp]; rfl⟩ ?_ ?_
  ·simp only [go_sem, cM, vss, List.map_nil]
   try exact leB_self _
  rintro ⟨p, n, a4⟩ ⟨hn, hP, ha4, hdP⟩
  simp only at hn hP ha4 hdP
  have hpl := hP.few
  by_cases h0 : 0 < n
  case neg =>
   obtain rfl : n = 0 := by omega
   have hP3 : LawP m.letters.length 3 p := ⟨by omega, hP.ls⟩
   simp only [go_sem, cM, vss, hwi]
   refine ⟨by simp only [roomFor]; omega, ?_⟩
   refine roundK.intro (i + 1, W ++ [p], a4) ⟨by show i + 1 <= _; omega, by show (W ++ [p]).length = i + 1; rw [List.length_append]; simp [hW], fun q hq => by
    rcases List.mem_append.1 hq with hq | hq
    ·exact hWk q hq
    ·rw [List.mem_singleton.1 hq]; exact hP3, ha4, by
     show (W ++ [p], a4) = drawC l m.letters.length (i + 1) a1
     rw [drawC, <- hdC, ek, Int.toNat_natCast, <- ea3, <- show (p, a4) = drawP l m.letters.length k a3 from hdP]⟩ (by show m.places.length - (i + 1) < m.places.length - i; omega) ?_
   simp only [go_sem, List.map_append, List.map_cons, List.map_nil, vPr]
   try exact leB_self _
  have hwn : IntKind.i64.wrap ((n : Int) - 1) = ((n - 1 : Nat) : Int) := by rw [wrap_in (by omega) (by omega)]; omega
  simp only [go_sem, h0, cM, vss, List.length_map]
  refine CallU.boxes (i := 0) (is := []) (bx0 := [diceA l a4]) (con_pickF l a4 m.letters.length hs ha4 (by omega)) (by simp only [go_sem]) (by simp only [go_sem]) (by simp only [go_sem]) (by simp only [go_sem]) (by simp only [go_sem]) ?_
  rintro r b ⟨rfl, rfl⟩
  have hv4 := pickV_lt (l := l) (at_ := a4) (n := m.letters.length) (by omega)
  have ha5 := pickA_le ha4
  obtain ⟨x, ex⟩ : ∃ x, x = pickV l a4 m.letters.length := ⟨_, rfl⟩
  obtain ⟨a5, ea5⟩ : ∃ a5, a5 = pickA l a4 := ⟨_, rfl⟩
  rw [<- ex] at hv4 ⊢
  rw [<- ea5] at ha5 ⊢
  simp only [go_sem]
  refine CallU.boxes (i := 0) (is := []) (bx0 := [diceA l a5]) (con_pickF l a5 3 hs ha5 (by omega)) (by simp only [go_sem]) (by simp only [go_sem]) (by simp only [go_sem]) (by simp only [go_sem]) (by simp only [go_sem]) ?_
  rintro r b ⟨rfl, rfl⟩
  have ha6 := pickA_le ha5
  obtain ⟨c, ec⟩ : ∃ c, c = pickV l a5 3 := ⟨_, rfl⟩
  obtain ⟨a6, ea6⟩ : ∃ a6, a6 = pickA l a5 := ⟨_, rfl⟩
  rw [<- ec]
  rw [<- ea6] at ha6 ⊢
  have hdS : (p ++ [⟨c == 0, [x]⟩], a6) = drawP l m.letters.length (k - (n - 1)) a3 := by
   rw [show k - (n - 1) = (k - n) + 1 by omega, drawP, <- hdP, ec, ex, ea6, ea5]
  have hnext : ∀ sb : Bool, LawP m.letters.length (k - (n - 1)) (p ++ [⟨sb, [x]⟩]) := fun sb => by
   have := hP.snoc (s := sb) hv4
   rwa [show k - n + 1 = k - (n - 1) by omega] at this
  by_cases hc : c = 0
  ·have hcb : (c == 0) = true := beq_iff_eq.2 hc
   simp only [go_sem, hcb, hwn]
   refine ⟨by simp only [roomFor]; omega, ?_⟩
   refine roundK.intro (p ++ [⟨true, [x]⟩], n - 1, a6) ⟨by show n - 1 <= k; omega, hnext true, ha6, by rw [hcb] at hdS; exact hdS⟩ (by show n - 1 < n; omega) ?_
   simp only [go_sem, List.map_append, List.map_cons, List.map_nil]
   try exact leB_self _
  ·have hcb : (c == 0) = false := beq_eq_false_iff_ne.2 hc
   simp only [go_sem, hcb, hwn]
   refine ⟨by simp only [roomFor]; omega, ?_⟩
   refine roundK.intro (p ++ [⟨false, [x]⟩], n - 1, a6) ⟨by show n - 1 <= k; omega, hnext false, ha6, by rw [hcb] at hdS; exact hdS⟩ (by show n - 1 < n; omega) ?_
   simp only [go_sem, List.map_append, List.map_cons, List.map_nil]
   try exact leB_self _
 exact (key.freezeB fun _ => true).mono fun r b ⟨r1, b1, ⟨s, W, at', h0, h1, h2, h3, h4⟩, h5, h6⟩ => by
  subst h3; subst h4; subst h5; subst h6
  exact ⟨s, W, at', h0, h1, h2, rfl, rfl⟩
theorem con_lcloud (l : List Int) (at_ : Nat) (m : MD) (hs : Seeds l) (ha : at_ <= l.length) (h1 : 1 <= m.states.length) (hp : m.places.length <= 1000) (hl : 1 <= m.letters.length) :
  Con Tryz.prog 17 [.pb 0 0, vM m] [diceA l at_]
  fun r b => ∃ s W at', LawC m.states.length m.places.length m.letters.length s W /\ at' <= l.length /\ r = vCl s W /\ b = [diceA l at'] :=
 (con_lcloudF l at_ m hs ha h1 hp hl).mono fun _ _ ⟨s, W, at', _, h1, h2, h3, h4⟩ => ⟨s, W, at', h1, h2, h3, h4⟩
def cloudW (l : List Int) (at_ : Nat) (m : MD) : List (List TmD) := (drawC l m.letters.length m.places.length (pickA l at_)).1
def cloudA (l : List Int) (at_ : Nat) (m : MD) : Nat := (drawC l m.letters.length m.places.length (pickA l at_)).2
theorem con_lcloud1 (l : List Int) (at_ : Nat) (m : MD) (hs : Seeds l) (ha : at_ <= l.length) (h1 : 1 <= m.states.length) (hp : m.places.length <= 1000) (hl : 1 <= m.letters.length) :
  Con Tryz.prog 17 [.pb 0 0, vM m] [diceA l at_] fun r b => r = vCl (pickV l at_ m.states.length) (cloudW l at_ m) /\ b = [diceA l (cloudA l at_ m)] :=
 (con_lcloudF l at_ m hs ha h1 hp hl).mono fun _ _ ⟨s, W, at', ⟨e1, e2⟩, _, _, h3, h4⟩ => by
  unfold cloudW cloudA
  rw [h3, h4, <- e1, <- e2]; exact ⟨rfl, rfl⟩
end Go.AM
set_option linter.unusedVariables false
namespace Go.AM
open Go Go.Proofs Go.RowKit Go.Lib
set_option maxRecDepth 100000
set_option maxHeartbeats 8000000
theorem cell_row {w : World} {g : Nat} {cur : Array Value} {e : TypeId} (hg : w.heap[g]? = some (.cells cur e (0, 0))) {k : Nat} {v : Value} (h : cur[k]? = some v) : w.cell? ⟨g, k, none⟩ = some v := by
 simp [World.cell?, hg, h]
theorem addr_add (g o j : Nat) : (⟨g, o, none⟩ : Addr).add j = ⟨g, o + j, none⟩ := by unfold Addr.add; split <;> simp_all
theorem own_row {G : Nat -> Status} {w : World} {t : Nat} {xs : List AV} {v : Value} (h : VRel G w (.sl t 2 xs) v) (ht : 2 <= t) (h0 : 0 < xs.length) :
  ∃ g cap cur e, v = .slice (some ⟨g, 0, none⟩) xs.length cap /\ G g = .tag t /\ w.heap[g]? = some (.cells cur e (0, 0)) /\ xs.length <= cap /\ cap <= maxLen /\ cur.size = cap * 2 /\
   (∀ x ∈ xs, x.cells.length = 2) /\ One (cur.toList.take (xs.length * 2)) /\ PW (FRel (Stable G) w) (flat xs) (cur.toList.take (xs.length * 2)) := by
 cases h with
 | froz h => exfalso; cases h <;> omega
 | own _ _ _ _ e vals _ h2 h3 h4 h5 h6 =>
  rcases h2.2 with ⟨_, hz⟩ | ⟨g, cap, cur, hv, _, hh, hn, hc, hs, ht⟩
  ·omega
  ·subst ht
   exact ⟨g, cap, cur, e, hv, h3 g (by rw [hv]; rfl), hh, hn, hc, hs, h4, h5, h6⟩
theorem flat_app' (xs ys : List AV) : flat (xs ++ ys) = flat xs ++ flat ys := by unfold flat; rw [List.flatMap_append]
theorem append_roomN {P : Program} (w : World) (t ty e te : TypeId) (i : TypeInfo) (ht : P.underlying t = some (.slice e)) (hi : P.info? e = some i)
  (g sLen sCap : Nat) (cur : Array Value) (hg : w.heap[g]? = some (.cells cur te (0, 0)))
  (a : Addr) (m c : Nat) (news : List Value) (hl : news.length = m * i.size) (hnews : ∀ j u, news[j]? = some u -> w.cell? (a.add j) = some u) (h1 : ∀ u ∈ news, u.oneCell' = true)
  (hroom : sLen + m <= sCap) (hfit : sLen * i.size + news.length <= cur.size) :
  (Builtin.append_ #[t, t] ty #[.slice (some ⟨g, 0, none⟩) sLen sCap, .slice (some a) m c]).run P w =
   .ok (.slice (some ⟨g, 0, none⟩) (sLen + m) sCap) (w.setRow g (cur.toList.take (sLen * i.size) ++ news ++ cur.toList.drop (sLen * i.size + news.length)).toArray) := by
 have hf := run_firstCells_some (P := P) w i.size m a m c news hl hnews
 have hst := run_storeCells_at P g (sLen * i.size) te news 0 cur w hg (by simpa using hfit) h1
 simp only [Nat.add_zero] at hst
 simp [Builtin.append_, run_underlying ht, sizeOf, typeInfo, hi, Builtin.lenOf, hroom, hf, Addr.add_lit, hst]
theorem row_here {G : Nat -> Status} {w w' : World} {g cap n : Nat} {row : Array Value} {e : TypeId} {vals : List Value} {xs : List AV} {e1 : Ending} (hgood : Good G w) (hnb : ∀ b i, G b ≠ .box i) (hGg : G g = .tag 2)
  (he : e1 = .returned (.slice (some ⟨g, 0, none⟩) n cap)) (hbg : w'.heap[g]? = some (.cells row e (0, 0))) (hb : ∀ b, b ≠ g -> w'.heap[b]? = w.heap[b]?) (hsz : w'.heap.size = w.heap.size) (hw4 : w'.os = w.os) (hw5 : w'.tape = w.tape) (hw6 : w'.output = w.output)
  (hn : n <= cap) (hm : cap <= maxLen) (hrs : row.size = cap * 2) (hrt : row.toList.take (n * 2) = vals) (hxl : xs.length = n) (hx : ∀ x ∈ xs, x.cells.length = 2) (hone : One vals) (hpw : PW (FRel (Stable G) w) (flat xs) vals) (hvl : vals.length = n * 2) :
  ∃ v r G', e1 = .returned v /\ r = AV.sl 2 2 xs /\ VRel G' w' r v /\ Good G' w' /\ (∀ b i, G' b ≠ .box i) /\
   w'.os = w.os /\ w'.tape = w.tape /\ w'.output = w.output /\ w.heap.size <= w'.heap.size /\ (∀ b, b < w.heap.size -> (∀ t, G b ≠ .tag t) -> G' b = G b) /\ (∀ b, b < w.heap.size -> (∀ t, G b ≠ .tag t) -> w'.heap[b]? = w.heap[b]?) := by
 subst hxl
 refine ⟨_, _, G, he, rfl, ?_, ⟨fun b hb' => by rw [hsz]; exact hgood.lt b hb', hgood.tags, hgood.boxes⟩, hnb, hw4, hw5, hw6, by omega, fun _ _ _ => rfl, fun b _ hn' => hb b fun h => by subst h; exact hn' 2 hGg⟩
 refine .own 2 2 _ _ e _ (by omega) ⟨hvl, .inr ⟨g, cap, row, rfl, Nat.zero_le _, hbg, hn, hm, hrs, hrt⟩⟩ (fun b hb' => by simp only [Value.ownBlock, Option.some.injEq] at hb'; rw [<- hb']; exact hGg) hx hone ?_
 refine hpw.mono fun x v _ hf => hf.mono (fun _ h => h) fun b hb' => hb b fun h => ?_
 subst h
 unfold Stable at hb'
 rw [hGg] at hb'; cases hb'
theorem step_append_runX {P : Program} {ops : Array Oper} {o : Oper} {a : Act} {w : World} {K : Act -> World -> Prop} {Q : Exit -> Act -> World -> Prop} {E : Prop}
  (hg : o.guard = none) (d x : Operand) (dT sT : TypeId) (hop : o.op = Op.call { callee := Callee.builtin Builtin.append, args := #[d, x], argTypes := #[dT, sT] })
  (v u : Value) (hd : a.eval d = v) (hx : a.eval x = u) {v' : Value} {w' : World} (hr : (Builtin.append_ #[dT, sT] o.type #[v, u]).run P w = .ok v' w') (hK : K (a.put o.dst v') w') :
  if Region.wanted o (yielded ops a.tmps) = true then Oper.wp P o a w K Q else E := by
 have hw : Region.wanted o (yielded ops a.tmps) = true := by simp [Region.wanted, hg]
 rw [if_pos hw]
 unfold Oper.wp execOp
 simp only [hop, resolve, invoke, builtin, Sem.run_bind, Sem.run_pure, Result.andThen_ok, List.map_toArray, List.map_cons, List.map_nil, hd, hx, hr]
 exact hK
theorem wpList_clear_runX {P : Program} (w : World) {ops : Array Oper} {rest : List Oper} {o : Oper} {a : Act} {Q : Exit -> Act -> World -> Prop} (hgd : o.guard = none) (d : Operand) (t : TypeId)
  (ho : o.op = .call { callee := .builtin .clear, args := #[d], argTypes := #[t] }) (v : Value) (hd : a.eval d = v) {v' : Value} {w' : World}
  (hr : (Builtin.clear_ #[t] o.type #[v]).run P w = .ok v' w') (h : wpList P ops Q rest (a.put o.dst v') w') : wpList P ops Q (o :: rest) a w :=
 wpList_plain hgd fun _ hK => by
  unfold Oper.wp execOp
  simp only [ho, resolve, invoke, builtin, Sem.run_bind, Sem.run_pure, Result.andThen_ok, List.map_toArray, List.map_cons, List.map_nil, hd, hr]
  exact hK _ _ h
def delRowB (cur : Array Value) (n i : Nat) : Array Value := (cur.toList.take (i * 2) ++ (cur.toList.take (n * 2)).drop ((i + 1) * 2) ++ cur.toList.drop (i * 2 + ((cur.toList.take (n * 2)).drop ((i + 1) * 2)).length)).toArray
def clrRowB (cur : Array Value) (n : Nat) (us : List Value) : Array Value := (cur.toList.take ((n - 1) * 2) ++ us ++ cur.toList.drop ((n - 1) * 2 + us.length)).toArray
theorem del_one (g n cap i : Nat) (cur : Array Value) (e : TypeId) (w : World)
  (hg : w.heap[g]? = some (.cells cur e (0, 0))) (hcap : cur.size = cap * 2) (hn : n <= cap) (hm : cap <= maxLen) (hi : i < n) (h1c : ∀ v ∈ cur.toList.take (n * 2), v.oneCell' = true) :
  Calls Tryz.prog 224 #[.slice (some ⟨g, 0, none⟩) n cap, .int .i64 i, .int .i64 ((i : Int) + 1)] w fun e' w' =>
   e' = .returned (.slice (some ⟨g, 0, none⟩) (n - 1) cap) /\ w' = (w.drew.setRow g (delRowB cur n i)).setRow g (clrRowB (delRowB cur n i) n [.bool false, .slice none 0 0]) := by
 have u27 : Tryz.prog.underlying 61 = some (TypeDesc.slice 74) := by kernel_rfl
 obtain ⟨ti, hti, hts, htb, htz⟩ := tinfo_some (show tinfo Tryz.prog 74 = some (2, 32, some (Value.agg (List.toArray [Value.bool false, Value.slice none 0 0]))) by kernel_rfl)
 have hm63 : cap <= 9223372036854775807 := by unfold maxLen at hm; omega
 have mixed : Tryz.prog.follows .mixedOrders = true := by kernel_rfl
 have hcl : ((cur.toList.take (n * 2)).drop ((i + 1) * 2)).length = (n - (i + 1)) * 2 := by
  rw [List.length_drop, List.length_take, Array.length_toList, hcap, Nat.min_eq_left (by omega)]; omega
 obtain ⟨A, hA, hsrc⟩ : ∃ A : Addr, (if cap = i + 1 then some (⟨g, 0, none⟩ : Addr) else some ⟨g, (i + 1) * 2, none⟩) = some A /\ ∀ (j : Nat) (u : Value), ((cur.toList.take (n * 2)).drop ((i + 1) * 2))[j]? = some u -> w.drew.cell? (A.add j) = some u := by
  by_cases h : cap = i + 1
  ·refine ⟨⟨g, 0, none⟩, by simp [h], fun t u hu => ?_⟩
   have h0 : ((cur.toList.take (n * 2)).drop ((i + 1) * 2)).length = 0 := by rw [hcl]; omega
   rw [List.length_eq_zero_iff.1 h0] at hu
   simp at hu
  ·refine ⟨⟨g, (i + 1) * 2, none⟩, by simp [h], fun j v hj => ?_⟩
   rw [addr_add]
   refine cell_row (w := w.drew) hg ?_
   rw [List.getElem?_drop, List.getElem?_take] at hj
   split at hj
   ·rw [<- Array.getElem?_toList]; exact hj
   ·cases hj
 have hgd : w.drew.heap[g]? = some (.cells cur e (0, 0)) := hg
 have hap : ∀ ty c, (Builtin.append_ #[61, 61] ty #[.slice (some ⟨g, 0, none⟩) i cap, .slice (some A) (n - (i + 1)) c]).run Tryz.prog w.drew = .ok (.slice (some ⟨g, 0, none⟩) (i + (n - (i + 1))) cap) (w.drew.setRow g (delRowB cur n i)) := fun ty c => by
  have h := append_roomN (P := Tryz.prog) w.drew 61 ty 74 e ti u27 hti g i cap cur hgd A (n - (i + 1)) c ((cur.toList.take (n * 2)).drop ((i + 1) * 2)) (by rw [hcl, hts]) hsrc (fun u hu => h1c u (List.mem_of_mem_drop hu)) (by omega) (by rw [hcl, hts, hcap]; omega)
  rw [hts] at h
  exact h
 have hrs : (delRowB cur n i).size = cap * 2 := by
  unfold delRowB
  rw [List.size_toArray, List.length_append, List.length_append, hcl, List.length_take, List.length_drop, Array.length_toList, hcap, Nat.min_eq_left (by omega)]; omega
 have hgW : (w.drew.setRow g (delRowB cur n i)).heap[g]? = some (.cells (delRowB cur n i) e (0, 0)) := setRow_heap w.drew g cur _ e _ hgd
 obtain ⟨W1, hW1⟩ : ∃ W1, W1 = w.drew.setRow g (delRowB cur n i) := ⟨_, rfl⟩
 rw [<- hW1] at hgW
 have hcle : ∀ ty c, (Builtin.clear_ #[61] ty #[.slice (some ⟨g, (i + (n - (i + 1))) * 2, none⟩) (n - (i + (n - (i + 1)))) c]).run Tryz.prog W1 = .ok (.tuple #[]) (W1.setRow g (clrRowB (delRowB cur n i) n [.bool false, .slice none 0 0])) := fun ty c => by
  have hst := run_storeCells_at Tryz.prog g ((n - 1) * 2) e [.bool false, .slice none 0 0] 0 (delRowB cur n i) W1 hgW (by simp; rw [hrs]; omega) (by simp [Value.oneCell'])
  have e1 : i + (n - (i + 1)) = n - 1 := by omega
  have e2 : n - (n - 1) = 1 := by omega
  rw [e1, e2]
  simp only [Nat.add_zero] at hst
  have hv : ∀ w, (zeroValue 74).run Tryz.prog w = .ok (Value.agg (List.toArray [Value.bool false, Value.slice none 0 0])) w := fun w => by
   simp [zeroValue, typeInfo, hti, htz]
  have hzc : (Builtin.zeroCells (Value.agg (List.toArray [Value.bool false, Value.slice none 0 0])).cells 1).toList = [.bool false, .slice none 0 0] := by kernel_rfl
  unfold clrRowB
  simp [Builtin.clear_, run_underlying u27, hv, hzc, hst]
 subst hW1
 clear hgW
 have hw1 : IntKind.i64.wrap ((i : Int) + 1) = (i : Int) + 1 := by rw [IntKind.wrap_i64]; omega
 have hz1 : ¬ ((i : Int) = (i : Int) + 1) := by omega
 have hb1 : (0 : Int) <= (i : Int) + 1 := by omega
 have htn : ((i : Int) + 1).toNat = i + 1 := by omega
 have hin : i <= n := by omega
 have hi1 : (i : Int) + 1 <= (n : Int) := by omega
 have hic : i <= cap := by omega
 have hii : (i : Int) <= (i : Int) + 1 := by omega
 go_enter Tryz.func224, Tryz.ntmps224
 go_wp2_with fail
 go_region_law_o (refine step_append_runX rfl _ _ 61 61 rfl (.slice (some ⟨g, 0, none⟩) i cap) (.slice (some A) (n - (i + 1)) (cap - (i + 1))) (by simp [Act.eval, Act.put]) (by simp [Act.eval, Act.put]) (hap _ _) ?_)
 have hb5 : ¬ (cap = i + (n - (i + 1))) := by omega
 have hb6 : i + (n - (i + 1)) <= n := by omega
 have hb7 : i + (n - (i + 1)) <= cap := by omega
 go_wp2_with (refine wpList_clear_runX _ rfl _ _ rfl _ rfl (hcle _ _) ?_)
 go_ret
 exact ⟨by rw [show i + (n - (i + 1)) = n - 1 by omega]; rfl, rfl⟩
theorem con_delete (xs : List AV) (i : Nat) (hi : i < xs.length) :
  ConC Tryz.prog 224 [.sl 2 2 xs, .sc (.int .i64 i), .sc (.int .i64 ((i : Int) + 1))] fun r => r = .sl 2 2 (xs.eraseIdx i) := by
 refine ⟨⟨Tryz.f224, by kernel_rfl, by kernel_rfl, by kernel_rfl⟩, fun G w vs hgood hnb hv => ?_⟩
 obtain ⟨v1, r1, e1, h1, h1'⟩ := hv.cons_inv
 obtain ⟨v2, r2, e2, h2, h2'⟩ := h1'.cons_inv
 obtain ⟨v3, r3, e3, h3, h3'⟩ := h2'.cons_inv
 have := h3'.nil_inv
 subst this; subst e3; subst e2
 have := h2.sc_inv
 subst this
 have := h3.sc_inv
 subst this
 obtain ⟨g, cap, cur, e, rfl, hGg, hh, hnc, hm, hs, hx, h1c, hP⟩ := own_row h1 (by omega) (by omega)
 have hvs : vs = #[.slice (some ⟨g, 0, none⟩) xs.length cap, .int .i64 i, .int .i64 ((i : Int) + 1)] := by cases vs; simp_all
 subst hvs
 have hl1 : cur.toList.length = cap * 2 := by rw [Array.length_toList, hs]
 have hcl : ((cur.toList.take (xs.length * 2)).drop ((i + 1) * 2)).length = (xs.length - (i + 1)) * 2 := by
  rw [List.length_drop, List.length_take, hl1, Nat.min_eq_left (by omega)]; omega
 have hol : (cur.toList.take (i * 2)).length = i * 2 := by rw [List.length_take, hl1, Nat.min_eq_left (by omega)]
 have e : xs.eraseIdx i = xs.take i ++ xs.drop (i + 1) := List.eraseIdx_eq_take_drop_succ ..
 have hlen : (xs.eraseIdx i).length = xs.length - 1 := List.length_eraseIdx_of_lt hi
 have hxs : ∀ x ∈ xs.eraseIdx i, x.cells.length = 2 := fun x hx' => hx x (List.mem_of_mem_eraseIdx hx')
 have hpw : PW (FRel (Stable G) w) (flat (xs.eraseIdx i)) (cur.toList.take (i * 2) ++ (cur.toList.take (xs.length * 2)).drop ((i + 1) * 2)) := by
  rw [e, flat_app', flat_take i hx, flat_drop (i + 1) hx]
  have := (hP.take (i * 2)).append (hP.drop ((i + 1) * 2))
  rwa [List.take_take, Nat.min_eq_left (by omega)] at this
 have hone : One (cur.toList.take (i * 2) ++ (cur.toList.take (xs.length * 2)).drop ((i + 1) * 2)) := fun u hu => by
  rcases List.mem_append.1 hu with hu | hu
  ·exact h1c u (by
    have : cur.toList.take (i * 2) = (cur.toList.take (xs.length * 2)).take (i * 2) := by rw [List.take_take, Nat.min_eq_left (by omega)]
    rw [this] at hu; exact List.mem_of_mem_take hu)
  ·exact h1c u (List.mem_of_mem_drop hu)
 have hlv : (cur.toList.take (i * 2) ++ (cur.toList.take (xs.length * 2)).drop ((i + 1) * 2)).length = (xs.length - 1) * 2 := by rw [List.length_append, hol, hcl]; omega
 have hgd : w.drew.heap[g]? = some (.cells cur _ (0, 0)) := hh
 have hrs : (delRowB cur xs.length i).size = cap * 2 := by
  unfold delRowB
  rw [List.size_toArray, List.length_append, List.length_append, hcl, hol, List.length_drop, hl1]; omega
 have hdl : (delRowB cur xs.length i).toList.length = cap * 2 := by rw [Array.length_toList]; exact hrs
 have hg1 := setRow_heap w.drew g cur (delRowB cur xs.length i) _ _ hgd
 have hg2 := setRow_heap _ g _ (clrRowB (delRowB cur xs.length i) xs.length [.bool false, .slice none 0 0]) _ _ hg1
 refine (del_one g xs.length cap i cur _ w hh hs hnc hm hi h1c).mono fun e1 w' ⟨he, hw⟩ => ?_
 refine row_here (row := clrRowB (delRowB cur xs.length i) xs.length [.bool false, .slice none 0 0]) hgood hnb hGg he (by rw [hw]; exact hg2) (fun b hb => by rw [hw, heap_setRow_ne hb, heap_setRow_ne hb]; rfl) (by rw [hw, setRow_size, setRow_size]; rfl) (by rw [hw]; rfl) (by rw [hw]; rfl) (by rw [hw]; rfl) (by omega) hm ?_ ?_ hlen hxs hone hpw hlv
 ·unfold clrRowB
  rw [List.size_toArray, List.length_append, List.length_append, List.length_take, List.length_drop, hdl, Nat.min_eq_left (by omega)]
  simp only [List.length_cons, List.length_nil]; omega
 ·unfold clrRowB
  simp only []
  have e2 : (delRowB cur xs.length i).toList.take ((xs.length - 1) * 2) = cur.toList.take (i * 2) ++ (cur.toList.take (xs.length * 2)).drop ((i + 1) * 2) := by
   unfold delRowB
   simp only []
   rw [List.take_append_of_le_length (by rw [hlv]; exact Nat.le_refl _), List.take_of_length_le (by rw [hlv]; exact Nat.le_refl _)]
  rw [List.append_assoc, List.take_append_of_le_length (by rw [List.length_take, hdl]; omega), List.take_take, Nat.min_self, e2]
end Go.AM
namespace Go.AM
open Go Go.Proofs Go.RowKit
set_option maxRecDepth 100000
theorem Con.le {P : Program} {f : FuncId} {args : List AV} {bx : List (List AV)} {post post' : AV -> List (List AV) -> Prop} (h : Con P f args bx post) (hp : ∀ r b, post r b -> ∃ r', leV r r' /\ post' r' b) : Con P f args bx post' :=
 ⟨h.1, fun G w vs h1 h2 h3 h4 h5 => (h.2 G w vs h1 h2 h3 h4 h5).mono fun e w' ⟨v, r, bx', G', he, hq, hr, rest⟩ => by
  obtain ⟨r', hl, hq'⟩ := hp r bx' hq
  exact ⟨v, r', bx', G', he, hq', hr.le hl, rest⟩⟩
theorem con_mxClone (l : List Int) (hl : l.length <= 1000000) : Con Tryz.prog 167 [vs 0 l] [] fun r _ => r = vs 2 l := by
 refine Con.le (post := fun r _ => r = .nil /\ l = [] \/ r = vs 2 l) ?_ (fun r b h => ⟨vs 2 l, by rcases h with ⟨rfl, rfl⟩ | rfl; exact leV_nil 2 1; exact leV_refl _, rfl⟩)
 refine Con.intro Tryz.func167 rfl Tryz.ntmps167 Tryz.results167 (by kernel_rfl) (by simp) 0 (by simp) ?_
 cases l with
 | nil =>
  simp only [go_sem]
  simp [roomFor]
 | cons x l =>
  simp only [go_sem]
  simp [roomFor]; simp at hl; omega
def bound (m : List (List Int)) : Prop := m.length <= 1000 /\ ∀ row ∈ m, row.length <= 1000
set_option maxHeartbeats 8000000
theorem con_xCloneF (l : List Int) (hl : l.length <= 1000000) : Con Tryz.prog 167 [vs 0 l] [] fun r _ => r = vs 0 l :=
 Con.frozX ((con_mxClone l hl).mono fun r _ e => by subst e; exact leV_refl _)
theorem con_xCopied (p : List TmD) (hp : LenP p) : Con Tryz.prog 222 [vPr p] [] fun r _ => r = .sl 2 2 (p.map vTm) := by
 refine Con.intro Tryz.func222 rfl Tryz.ntmps222 Tryz.results222 (by kernel_rfl) (by simp) 0 (by simp) ?_
 have hpl := hp.len
 simp only [go_sem]
 refine LoopK.intro (fun i : Nat => ⟨23, [(3, .sl 1344 2 ((p.take i).map vTm)), (6, vPr p), (7, vi p.length), (8, vi i)], Rk 2 i⟩)
  (fun i => p.length - i) (fun i => i <= p.length) 0 (Nat.zero_le _) ?_ ?_
 ·simp only [go_sem, List.take_zero, List.map_nil, Rk, List.replicate]
  all_goals exact leB_self _
 rintro i hi
 have hB := Rk_len 2 i
 have n0 := fun L : List (List AV) => app_at0 (L := L) hB
 have s0 := fun (L : List (List AV)) z => app_set0 (L := L) (z := z) hB
 by_cases h : i < p.length
 ·have hg := getTm h
  have hw : IntKind.i64.wrap (i + 1) = i + 1 := wrap_in (by omega) (by omega)
  have e : (p.take (i + 1)).map vTm = (p.take i).map vTm ++ [.ag [vb p[i]!.star, vs 0 p[i]!.ls]] := by
   rw [List.take_succ_eq_append_getElem h, List.map_append, <- getElem!_pos p i h]; rfl
  have hc := con_xCloneF p[i]!.ls (hp.terms _ (mem_bangI h))
  simp only [go_sem, h, hg, hB, n0, s0, List.length_map]
  refine DrawK.walk 8 mixed (by kernel_rfl) ?_
  simp only [go_sem, n0]
  refine CallY.mk hc (by simp only [go_sem]) (by simp only [go_sem]) (.inl (by simp only [go_sem])) ?_
  simp only [go_sem, hw]
  refine ⟨by simp only [roomFor, List.length_take]; omega, ?_⟩
  refine roundK.intro (i + 1) (by omega) (by omega) ?_
  simp only [go_sem, e, Rk_succ]
  all_goals exact leB_RkA (x := [[_, _]]) (y := [List.replicate 2 .any]) ⟨⟨leV_any _, leV_any _, trivial⟩, trivial⟩
 ·have e : p.take i = p := List.take_of_length_le (by omega)
  simp only [go_sem, h, e]
def nearB (p : List TmD) (i : Nat) (k : Int) : Bool := decide (0 <= k) && decide (k < p.length) && (p[k.toNat]!.star && witT p[i]! p[k.toNat]!)
theorem idle_near {p : List TmD} {i : Nat} (h : i < p.length) : idleP p i = (p[i]!.ls.isEmpty || nearB p i ((i : Int) - 1) || nearB p i ((i : Int) + 1)) := by
 unfold idleP nearB
 have e2 : ((i : Int) + 1).toNat = i + 1 := by omega
 have e3 : decide (0 <= (i : Int) + 1) = true := decide_eq_true (by omega)
 have e4 : decide ((i : Int) + 1 < p.length) = decide (i + 1 < p.length) := by rw [Bool.eq_iff_iff, decide_eq_true_eq, decide_eq_true_eq]; omega
 rw [e2, e3, e4, Bool.true_and]
 by_cases h0 : 0 < i
 ·have e1 : ((i : Int) - 1).toNat = i - 1 := by omega
  rw [e1, decide_eq_true h0, decide_eq_true (show (0 : Int) <= (i : Int) - 1 by omega), decide_eq_true (show (i : Int) - 1 < p.length by omega)]
  rfl
 ·rw [decide_eq_false h0, decide_eq_false (show ¬ (0 : Int) <= (i : Int) - 1 by omega)]
  rfl
theorem con_xIdle (p : List TmD) (i : Nat) (hi : i < p.length) (hok : OkP p) (hp : LenP p) : Con Tryz.prog 223 [vPr p, vi i] [] fun r _ => r = vb (idleP p i) := by
 refine Con.intro Tryz.func223 rfl Tryz.ntmps223 Tryz.results223 (by kernel_rfl) (by simp) 0 (by simp) ?_
 have hpl := hp.len
 have hg := getTm hi
 rw [idle_near hi]
 by_cases h0 : p[i]!.ls = []
 ·have e : p[i]!.ls.isEmpty = true := nil_iff.2 h0
  rw [h0] at hg
  simp only [go_sem, hi, hg, e, List.length_map, Bool.true_or]
 have e : p[i]!.ls.isEmpty = false := by cases h : p[i]!.ls <;> simp_all
 have hl0 : ((p[i]!.ls.length : Int) == 0) = false := beq_eq_false_iff_ne.2 fun h => h0 (List.length_eq_zero_iff.1 (by omega))
 have w1 : IntKind.i64.wrap ((i : Int) - 1) = (i : Int) - 1 := wrap_in (by omega) (by omega)
 have w2 : IntKind.i64.wrap ((i : Int) + 1) = (i : Int) + 1 := wrap_in (by omega) (by omega)
 rw [e, Bool.false_or]
 simp only [go_sem, hi, hg, hl0, w1, w2, List.length_map]
 refine LoopK.intro (fun k : Nat => ⟨49, [(0, vPr p), (1, vi i), (18, .ag [vi ((i : Int) - 1), vi ((i : Int) + 1)]), (19, vi k)], []⟩)
  (fun k => 2 - k) (fun k => k <= 2 /\ (0 < k -> nearB p i ((i : Int) - 1) = false) /\ (1 < k -> nearB p i ((i : Int) + 1) = false)) 0 ⟨by omega, fun h => by omega, fun h => by omega⟩ ?_ ?_
 ·simp only [go_sem]
 rintro k ⟨hk, hk1, hk2⟩
 have hwa : IntKind.i64.wrap 1 = 1 := wrap_in (by omega) (by omega)
 have hwb : IntKind.i64.wrap 2 = 2 := wrap_in (by omega) (by omega)
 match k, hk, hk1, hk2 with
 | 2, _, hk1, hk2 =>
  rw [hk1 (by omega), hk2 (by omega)]
  simp only [go_sem, Bool.or_false]
 | 0, _, _, _ =>
  by_cases hx0 : (0 : Int) <= (i : Int) - 1
  case neg =>
   have hn : nearB p i ((i : Int) - 1) = false := by unfold nearB; rw [decide_eq_false hx0]; rfl
   simp only [go_sem]
   refine DrawK.walk 26 mixed (by kernel_rfl) ?_
   simp only [go_sem, hx0, hwa]
   refine roundK.intro 1 ⟨by omega, fun _ => hn, fun h => by omega⟩ (by omega) ?_
   simp only [go_sem]
  by_cases hxl : (i : Int) - 1 < (p.length : Int)
  case neg =>
   have hn : nearB p i ((i : Int) - 1) = false := by unfold nearB; rw [decide_eq_false hxl, Bool.and_false]; rfl
   simp only [go_sem]
   refine DrawK.walk 26 mixed (by kernel_rfl) ?_
   simp only [go_sem, hx0, hxl, List.length_map, hwa]
   refine roundK.intro 1 ⟨by omega, fun _ => hn, fun h => by omega⟩ (by omega) ?_
   simp only [go_sem]
  have ht : ((i : Int) - 1).toNat = i - 1 := by omega
  have hj : i - 1 < p.length := by omega
  have gj := getTm hj
  have hn : nearB p i ((i : Int) - 1) = (p[i - 1]!.star && witT p[i]! p[i - 1]!) := by unfold nearB; rw [decide_eq_true hx0, decide_eq_true hxl, ht]; rfl
  cases hs : p[i - 1]!.star with
  | false =>
   rw [hs] at gj hn
   rw [Bool.false_and] at hn
   simp only [go_sem]
   refine DrawK.walk 26 mixed (by kernel_rfl) ?_
   simp only [go_sem, hx0, hxl, ht, gj, List.length_map, hwa]
   refine roundK.intro 1 ⟨by omega, fun _ => hn, fun h => by omega⟩ (by omega) ?_
   simp only [go_sem]
  | true =>
   rw [hs] at gj hn
   rw [Bool.true_and] at hn
   have hw := con_xWithin p[i]! p[i - 1]! (hp.terms _ (mem_bangI hi)) (hp.terms _ (mem_bangI hj)) (fun h => by rw [hs] at h; cases h)
   simp only [vTm, hs] at hw
   simp only [go_sem]
   refine DrawK.walk 26 mixed (by kernel_rfl) ?_
   simp only [go_sem, hx0, hxl, ht, gj, hi, hg, List.length_map]
   refine CallY.mk hw (by simp only [go_sem]) (by simp only [go_sem]) (.inl (by simp only [go_sem])) ?_
   cases hwt : witT p[i]! p[i - 1]! with
   | true =>
    rw [hwt] at hn
    rw [hn]
    simp only [go_sem, Bool.true_or]
   | false =>
    rw [hwt] at hn
    simp only [go_sem, hwa]
    refine roundK.intro 1 ⟨by omega, fun _ => hn, fun h => by omega⟩ (by omega) ?_
    simp only [go_sem]
 | 1, _, hk1, _ =>
  by_cases hx0 : (0 : Int) <= (i : Int) + 1
  case neg =>
   have hn : nearB p i ((i : Int) + 1) = false := by unfold nearB; rw [decide_eq_false hx0]; rfl
   simp only [go_sem]
   refine DrawK.walk 26 mixed (by kernel_rfl) ?_
   simp only [go_sem, hx0, hwb]
   refine roundK.intro 2 ⟨by omega, fun _ => hk1 (by omega), fun _ => hn⟩ (by omega) ?_
   simp only [go_sem]
  by_cases hxl : (i : Int) + 1 < (p.length : Int)
  case neg =>
   have hn : nearB p i ((i : Int) + 1) = false := by unfold nearB; rw [decide_eq_false hxl, Bool.and_false]; rfl
   simp only [go_sem]
   refine DrawK.walk 26 mixed (by kernel_rfl) ?_
   simp only [go_sem, hx0, hxl, List.length_map, hwb]
   refine roundK.intro 2 ⟨by omega, fun _ => hk1 (by omega), fun _ => hn⟩ (by omega) ?_
   simp only [go_sem]
  have ht : ((i : Int) + 1).toNat = i + 1 := by omega
  have hj : i + 1 < p.length := by omega
  have gj := getTm hj
  have hn : nearB p i ((i : Int) + 1) = (p[i + 1]!.star && witT p[i]! p[i + 1]!) := by unfold nearB; rw [decide_eq_true hx0, decide_eq_true hxl, ht]; rfl
  cases hs : p[i + 1]!.star with
  | false =>
   rw [hs] at gj hn
   rw [Bool.false_and] at hn
   simp only [go_sem]
   refine DrawK.walk 26 mixed (by kernel_rfl) ?_
   simp only [go_sem, hx0, hxl, ht, gj, List.length_map, hwb]
   refine roundK.intro 2 ⟨by omega, fun _ => hk1 (by omega), fun _ => hn⟩ (by omega) ?_
   simp only [go_sem]
  | true =>
   rw [hs] at gj hn
   rw [Bool.true_and] at hn
   have hw := con_xWithin p[i]! p[i + 1]! (hp.terms _ (mem_bangI hi)) (hp.terms _ (mem_bangI hj)) (fun h => by rw [hs] at h; cases h)
   simp only [vTm, hs] at hw
   simp only [go_sem]
   refine DrawK.walk 26 mixed (by kernel_rfl) ?_
   simp only [go_sem, hx0, hxl, ht, gj, hi, hg, List.length_map]
   refine CallY.mk hw (by simp only [go_sem]) (by simp only [go_sem]) (.inl (by simp only [go_sem])) ?_
   cases hwt : witT p[i]! p[i + 1]! with
   | true =>
    rw [hwt] at hn
    rw [hn]
    simp only [go_sem, Bool.or_true]
   | false =>
    rw [hwt] at hn
    simp only [go_sem, hwb]
    refine roundK.intro 2 ⟨by omega, fun _ => hk1 (by omega), fun _ => hn⟩ (by omega) ?_
    simp only [go_sem]
 | k + 3, hk, _, _ => omega
theorem norm_step {D : List TmD} {i : Nat} (h : i < D.length) (hb : ∀ j, j < i -> idleP D j = false) (hi : idleP D i = true) : normN D.length D = normN (D.eraseIdx i).length (D.eraseIdx i) := by
 have hf : (List.range D.length).find? (idleP D) = some i := List.find?_range_eq_some.2 ⟨hi, List.mem_range.2 h, fun j hj => by rw [hb j hj]; rfl⟩
 obtain ⟨n, hn⟩ : ∃ n, D.length = n + 1 := ⟨D.length - 1, by omega⟩
 have hl : (D.eraseIdx i).length = n := by rw [List.length_eraseIdx_of_lt h]; omega
 rw [hl]
 conv => lhs; rw [hn]
 rw [normN, hf]
theorem norm_stop {D : List TmD} (hb : ∀ j, j < D.length -> idleP D j = false) : normN D.length D = D := by
 cases hn : D.length with
 | zero => rfl
 | succ n =>
  have hf : (List.range D.length).find? (idleP D) = none := List.find?_eq_none.2 fun j hj => by rw [hb j (List.mem_range.1 hj)]; simp
  rw [normN, hf]
theorem lenP_erase {p : List TmD} {i : Nat} (h : LenP p) : LenP (p.eraseIdx i) := ⟨Nat.le_trans (List.length_eraseIdx_le _ _) h.len, fun t ht => h.terms t (List.mem_of_mem_eraseIdx ht)⟩
theorem con_xnormal (p : List TmD) (hok : OkP p) (hp : LenP p) : Con Tryz.prog 142 [vPr p] [] fun r _ => r = .sl 2 2 ((normP p).map vTm) := by
 refine Con.intro Tryz.func142 rfl Tryz.ntmps142 Tryz.results142 (by kernel_rfl) (by simp) 0 (by simp) ?_
 have hc := con_xCopied p hp
 simp only [vPr] at hc
 simp only [go_sem]
 refine ScopeK.label (fun D : List TmD => ⟨22, [(3, .sl 450 2 (D.map vTm))], []⟩) (fun D => D.length) (fun D => OkP D /\ LenP D /\ normN D.length D = normP p) (by rfl) ?_ ?_
 ·simp only [go_sem]
  refine CallU.free hc (by simp only [go_sem]) (by simp only [go_sem]) ?_
  rintro r bx rfl
  simp only [go_sem]
  refine ⟨p, ⟨hok, hp, rfl⟩, Turn.le ?_⟩
  simp only [go_sem]
 rintro D ⟨hD, hDl, hn⟩
 have hdl := hDl.len
 simp only [go_sem, List.length_map]
 refine LoopK.intro (fun i : Nat => ⟨22, [(3, .sl 450 2 (D.map vTm)), (8, vi D.length), (9, vi i)], []⟩)
  (fun i => D.length - i) (fun i => i <= D.length /\ ∀ j, j < i -> idleP D j = false) 0 ⟨Nat.zero_le _, fun j hj => by omega⟩ ?_ ?_
 ·simp only [go_sem]
 rintro i ⟨hi, hb⟩
 by_cases h : i < D.length
 case neg =>
  have e : normP p = D := by rw [<- hn]; exact norm_stop fun j hj => hb j (by omega)
  rw [e]
  simp only [go_sem, h]
 have hw : IntKind.i64.wrap (i + 1) = i + 1 := wrap_in (by omega) (by omega)
 have hid := con_xIdle D i h hD hDl
 simp only [vPr] at hid
 simp only [go_sem, h]
 refine CallU.flat hid (by simp only [go_sem]) (by simp only [go_sem]) ?_
 rintro r bx rfl
 cases hx : idleP D i with
 | false =>
  simp only [go_sem, hw]
  refine roundK.intro (i + 1) ⟨by omega, fun j hj => ?_⟩ (by omega) ?_
  ·by_cases e : j = i
   ·subst e; exact hx
   ·exact hb j (by omega)
  ·simp only [go_sem]
 | true =>
  have hdel := con_delete (D.map vTm) i (by rw [List.length_map]; exact h)
  have he : (D.map vTm).eraseIdx i = (D.eraseIdx i).map vTm := by rw [List.eraseIdx_eq_take_drop_succ, List.eraseIdx_eq_take_drop_succ, List.map_append, List.map_take, List.map_drop]
  rw [he] at hdel
  simp only [go_sem, hw]
  refine CallU.lend hdel (by simp only [go_sem]) (by simp only [go_sem]) ?_
  rintro r rfl
  simp only [go_sem]
  refine ⟨D.eraseIdx i, ⟨okP_erase hD, lenP_erase hDl, by rw [<- hn]; exact (norm_step h hb hx).symm⟩, by show (D.eraseIdx i).length < D.length; rw [List.length_eraseIdx_of_lt h]; omega, Turn.mv 1282 450 (by omega) (by omega) (by omega) (Turn.le ?_)⟩
  simp only [go_sem]
  exact leV_refl _
theorem con_xnormalF (p : List TmD) (hok : OkP p) (hp : LenP p) : Con Tryz.prog 142 [vPr p] [] fun r _ => r = vPr (normP p) :=
 Con.frozX ((con_xnormal p hok hp).mono fun r _ e => by subst e; exact leV_refl _)
theorem con_xNormal (n : Int) (p : List TmD) (hp : LenP p) : Con Tryz.prog 136 [vi n, vPr p] [] fun r _ => r = if checkX n p = 0 then .tup [vPr (normP p), vi 0] else .tup [.nil, vi (checkX n p)] := by
 refine Con.intro Tryz.func136 rfl Tryz.ntmps136 Tryz.results136 (by kernel_rfl) (by simp) 0 (by simp) ?_
 have hc := con_xCheckL n p hp
 simp only [vPr] at hc
 simp only [go_sem]
 refine CallU.free hc (by simp only [go_sem]) (by simp only [go_sem]) ?_
 rintro r bx rfl
 by_cases h : checkX n p = 0
 ·have hn := con_xnormalF p (check_zero.1 h).ok hp
  simp only [vPr] at hn
  simp only [go_sem, h, if_true]
  refine CallU.free hn (by simp only [go_sem]) (by simp only [go_sem]) ?_
  rintro r bx rfl
  simp only [go_sem, h, if_true]
 ·have h' : (checkX n p != 0) = true := bne_iff_ne.2 h
  simp only [go_sem, h, h', if_false]
def letX (n : Int) (p : List TmD) (x : Int) : Int := if checkX n p ≠ 0 then checkX n p else if x < 0 \/ n <= x then 2 else 0
theorem con_xletter (n : Int) (p : List TmD) (x : Int) (hp : LenP p) : Con Tryz.prog 141 [vi n, vPr p, vi x] [] fun r _ => r = vi (letX n p x) := by
 refine Con.intro Tryz.func141 rfl Tryz.ntmps141 Tryz.results141 (by kernel_rfl) (by simp) 0 (by simp) ?_
 have hc := con_xCheckL n p hp
 simp only [vPr] at hc
 unfold letX
 simp only [go_sem]
 refine CallU.free hc (by simp only [go_sem]) (by simp only [go_sem]) ?_
 rintro r bx rfl
 by_cases h : checkX n p = 0
 ·by_cases h1 : x < 0
  ·simp only [go_sem, h, h1, not_true, if_false, true_or, if_true]
  ·by_cases h2 : n <= x
   ·simp only [go_sem, h, h1, h2, not_true, if_false, or_true, if_true]
   ·simp only [go_sem, h, h1, h2, not_true, if_false, or_self]
 ·have h' : (checkX n p != 0) = true := bne_iff_ne.2 h
  simp only [go_sem, h, h', not_false_iff, if_true]
theorem con_xClip (p : List TmD) (hl : p.length <= 1000000) : Con Tryz.prog 143 [vPr p] [] fun r _ => r = .sl 1 2 (p.map vTm) := by
 refine Con.intro Tryz.func143 rfl Tryz.ntmps143 Tryz.results143 (by kernel_rfl) (by simp) 0 (by simp) ?_
 have ht : (p.map vTm).take p.length = p.map vTm := List.take_of_length_le (by simp)
 simp only [go_sem, List.length_map, ht]
 exact Nat.le_refl _
def snocP (p : List TmD) (x : Int) : List TmD := p ++ [⟨false, [x]⟩]
theorem snoc_ok {p : List TmD} (h : OkP p) (x : Int) : OkP (snocP p x) := fun t ht => by
 rcases List.mem_append.1 ht with ht | ht
 ·exact h t ht
 ·rw [List.mem_singleton.1 ht]; exact one_ok x
theorem snoc_len {p : List TmD} {x : Int} (h : p.length <= 24) (ht : ∀ t ∈ p, t.ls.length <= 1000000) : LenP (snocP p x) := by
 refine ⟨by unfold snocP; rw [List.length_append]; simp; omega, fun t h' => ?_⟩
 rcases List.mem_append.1 h' with h' | h'
 ·exact ht t h'
 ·rw [List.mem_singleton.1 h']; simp
def appX (n : Int) (p : List TmD) (x : Int) : AV := if letX n p x ≠ 0 then .tup [.nil, vi (letX n p x)] else if 24 < (normP (snocP p x)).length then .tup [.nil, vi 1] else .tup [vPr (normP (snocP p x)), vi 0]
theorem let_zero {n : Int} {p : List TmD} {x : Int} (h : letX n p x = 0) : ValidP n p /\ 0 <= x /\ x < n := by
 unfold letX at h
 split at h
 ·rename_i h1; exact absurd h h1
 ·rename_i h1
  split at h
  ·omega
  ·exact ⟨check_zero.1 (Classical.byContradiction h1), by omega⟩
theorem con_xAppend (n : Int) (p : List TmD) (x : Int) (hp : LenP p) : Con Tryz.prog 89 [vi n, vPr p, vi x] [] fun r _ => r = appX n p x := by
 refine Con.intro Tryz.func89 rfl Tryz.ntmps89 Tryz.results89 (by kernel_rfl) (by simp) 0 (by simp) ?_
 have hc := con_xletter n p x hp
 have hcl := con_xClip p hp.len
 simp only [vPr] at hc hcl
 unfold appX
 simp only [go_sem]
 refine CallU.free hc (by simp only [go_sem]) (by simp only [go_sem]) ?_
 rintro r bx rfl
 by_cases h : letX n p x = 0
 case neg =>
  have h' : (letX n p x != 0) = true := bne_iff_ne.2 h
  simp only [go_sem, h, h', not_false_iff, if_true]
 obtain ⟨hv, _⟩ := let_zero h
 have hfew := hv.few
 have hn := con_xnormalF (snocP p x) (snoc_ok hv.ok x) (snoc_len hv.few hp.terms)
 have e : (snocP p x).map vTm = p.map vTm ++ [.ag [vb false, .sl 0 1 [vi x]]] := by unfold snocP; rw [List.map_append]; rfl
 simp only [vPr, e] at hn
 simp only [go_sem, h, if_false]
 refine CallU.free hcl (by simp only [go_sem]) (by simp only [go_sem]) ?_
 rintro r bx rfl
 simp only [go_sem]
 refine ⟨by simp only [roomFor]; omega, ?_⟩
 refine CallU.freeze hn (by simp only [go_sem]) (by simp only [go_sem]) ?_
 rintro r bx rfl
 by_cases h2 : 24 < (normP (snocP p x)).length
 ·have h3 : (24 : Int) < ((normP (snocP p x)).length : Int) := by omega
  simp only [go_sem, h, h2, h3, List.length_map, not_true, if_false, if_true]
 ·have h3 : ¬ (24 : Int) < ((normP (snocP p x)).length : Int) := by omega
  simp only [go_sem, h, h2, h3, List.length_map, not_true, if_false, if_true]
theorem con_xBehind1 (t : TmD) (x : Int) (hl : t.ls.length <= 1000000) : Con Tryz.prog 145 [vTm t, .fp [vi x] 0] [] fun r _ => r = .sc (.bool (decide (x ∈ t.ls))) := by
 refine Con.intro Tryz.func145 rfl Tryz.ntmps145 Tryz.results145 (by kernel_rfl) (by simp) 0 (by simp) ?_
 have e : (t.ls.any fun y => x == y) = decide (x ∈ t.ls) := by
  rw [Bool.eq_iff_iff, List.any_eq_true, decide_eq_true_eq]
  constructor
  ·rintro ⟨y, hy, h⟩; rw [beq_iff_eq.1 h]; exact hy
  ·intro h; exact ⟨x, h, beq_self_eq_true _⟩
 have hc := con_mxContains t.ls x (by omega)
 rw [e] at hc
 simp only [go_sem]
 refine CallU.free hc (by simp only [go_sem]) (by simp only [go_sem]) ?_
 rintro r bx rfl
 simp only [go_sem]
theorem beh_none {x : Int} : ∀ {p : List TmD}, (p.any fun t => decide (x ∈ t.ls)) = false -> behP x p = none
 | [], _ => rfl
 | u :: p, h => by
  rw [List.any_cons, Bool.or_eq_false_iff] at h
  rw [behP, if_neg (of_decide_eq_false h.1)]
  exact beh_none h.2
theorem beh_some {x : Int} : ∀ {p : List TmD} {i : Nat}, i < p.length -> (∀ j, j < i -> x ∉ p[j]!.ls) -> x ∈ p[i]!.ls -> behP x p = some (p.drop (if p[i]!.star then i else i + 1))
 | [], i, h, _, _ => by simp at h
 | u :: p, 0, _, _, h => by
  have h : x ∈ u.ls := h
  rw [behP, if_pos h]
  show _ = some ((u :: p).drop (if u.star then 0 else 0 + 1))
  cases u.star <;> rfl
 | u :: p, i + 1, hi, hb, h => by
  have h0 : x ∉ u.ls := hb 0 (by omega)
  rw [behP, if_neg h0, beh_some (p := p) (i := i) (by simpa using hi) (fun j hj => hb (j + 1) (by omega)) h]
  show some (p.drop (if p[i]!.star then i else i + 1)) = some ((u :: p).drop (if p[i]!.star then i + 1 else i + 1 + 1))
  cases p[i]!.star <;> rfl
def behX (n : Int) (p : List TmD) (x : Int) : AV := if letX n p x ≠ 0 then .tup [.nil, vb false, vi (letX n p x)] else match behP x p with
 | none => .tup [.nil, vb false, vi 0]
 | some q => .tup [vPr (normP q), vb true, vi 0]
theorem lenP_drop {p : List TmD} (h : LenP p) (k : Nat) : LenP (p.drop k) := ⟨by have := h.len; rw [List.length_drop]; omega, fun t ht => h.terms t (List.mem_of_mem_drop ht)⟩
theorem con_xBehind (n : Int) (p : List TmD) (x : Int) (hp : LenP p) : Con Tryz.prog 90 [vi n, vPr p, vi x] [] fun r _ => r = behX n p x := by
 refine Con.intro Tryz.func90 rfl Tryz.ntmps90 Tryz.results90 (by kernel_rfl) (by simp) 0 (by simp) ?_
 have hpl := hp.len
 have hc := con_xletter n p x hp
 have hx := con_indexTm p 145 [.fp [vi x] 0] (fun t => decide (x ∈ t.ls)) (by simp only [go_sem]) (fun t ht => con_xBehind1 t x (hp.terms t ht)) (by omega)
 simp only [vPr] at hc hx
 unfold behX
 simp only [go_sem]
 refine CallU.free hc (by simp only [go_sem]) (by simp only [go_sem]) ?_
 rintro r bx rfl
 by_cases h : letX n p x = 0
 case neg =>
  have h' : (letX n p x != 0) = true := bne_iff_ne.2 h
  simp only [go_sem, h, h', not_false_iff, if_true]
 obtain ⟨hv, _⟩ := let_zero h
 simp only [go_sem, h, if_false]
 refine CallU.look hx (by simp only [go_sem]) (by simp only [go_sem]) ?_
 rintro r bx rfl
 cases ha : p.any fun t => decide (x ∈ t.ls) with
 | false =>
  have hi : findI (fun t : TmD => decide (x ∈ t.ls)) p = -1 := findI_none fun j hj => by
   rw [List.any_eq_false] at ha
   have := ha _ (mem_bangI hj)
   simpa using this
  rw [hi, beh_none ha]
  simp only [go_sem, h, not_true, if_false]
 | true =>
  obtain ⟨i, hi, hb, hpi⟩ : ∃ i, i < p.length /\ (∀ j, j < i -> x ∉ p[j]!.ls) /\ x ∈ p[i]!.ls := by
   cases hf : p.findIdx? fun t => decide (x ∈ t.ls) with
   | none =>
    rw [List.findIdx?_eq_none_iff] at hf
    obtain ⟨t, ht, hb⟩ := List.any_eq_true.1 ha
    rw [hf t ht] at hb; cases hb
   | some i =>
    obtain ⟨h1, h2, h3⟩ := List.findIdx?_eq_some_iff_getElem.1 hf
    refine ⟨i, h1, fun j hj => ?_, ?_⟩
    ·have := h3 j hj
     rw [getElem!_pos p j (by omega)]
     simpa using this
    ·rw [getElem!_pos p i h1]
     simpa using h2
  have hfi : findI (fun t : TmD => decide (x ∈ t.ls)) p = i := findI_stop hi (fun j hj => decide_eq_false (hb j hj)) (decide_eq_true hpi)
  have hg := getTm hi
  have hneg : ¬ (i : Int) < 0 := by omega
  have hw : IntKind.i64.wrap ((i : Int) + 1) = (i : Int) + 1 := wrap_in (by omega) (by omega)
  have hok : ∀ k, OkP (p.drop k) := fun k t ht => hv.ok t (List.mem_of_mem_drop ht)
  have htk : (p.map vTm).take p.length = p.map vTm := List.take_of_length_le (by simp)
  rw [hfi, beh_some hi hb hpi]
  cases hs : p[i]!.star with
  | true =>
   have hn := con_xnormalF (p.drop i) (hok i) (lenP_drop hp i)
   have hle : (i : Int) <= (p.length : Int) := by omega
   have hd := drop_tm p i
   simp only [vPr] at hn
   rw [hs] at hg
   simp only [go_sem, hi, hg, hneg, htk, hd, List.length_map]
   refine ⟨by omega, Nat.le_refl _, ?_⟩
   refine CallU.free hn (by simp only [go_sem]) (by simp only [go_sem]) ?_
   rintro r bx rfl
   simp only [go_sem, h, not_true, if_false, if_true]
  | false =>
   have hn := con_xnormalF (p.drop (i + 1)) (hok _) (lenP_drop hp _)
   have hle : (0 : Int) <= (i : Int) + 1 := by omega
   have ht : ((i : Int) + 1).toNat = i + 1 := by omega
   have hd := drop_tm p (i + 1)
   simp only [vPr] at hn
   rw [hs] at hg
   simp only [go_sem, hi, hg, hneg, hle, ht, hw, htk, hd, List.length_map]
   refine ⟨by omega, Nat.le_refl _, ?_⟩
   refine CallU.free hn (by simp only [go_sem]) (by simp only [go_sem]) ?_
   rintro r bx rfl
   simp only [go_sem, h, not_true, if_false, Bool.false_eq_true]
theorem share9b {body : (Exit -> St -> Prop) -> St -> Prop} {Q : Exit -> St -> Prop} {T : St -> Prop} {A : Prop} (h : (∀ τ, T τ -> LoopK body Q τ) -> A) (key : ∀ τ, T τ -> LoopK body Q τ) : A := h key
theorem mem_not {l : List Int} {x : Int} (h : ∀ j, j < l.length -> l[j]! ≠ x) : decide (x ∈ l) = false := by
 refine decide_eq_false fun hm => ?_
 obtain ⟨j, hj, e⟩ := List.getElem_of_mem hm
 exact h j hj (by rw [getElem!_pos l j hj]; exact e)
theorem con_r09has (l : List Int) (x : Int) (hl : l.length <= 1000000) : Con Tryz.prog 134 [vs 0 l, vi x] [] fun r _ => r = vb (decide (x ∈ l)) := by
 refine Con.intro Tryz.func134 rfl Tryz.ntmps134 Tryz.results134 (by kernel_rfl) (by simp) 0 (by simp) ?_
 simp only [go_sem]
 refine LoopK.intro (fun i : Nat => ⟨18, [(0, vs 0 l), (1, vi x), (5, vi i)], []⟩)
  (fun i => l.length - i) (fun i => i <= l.length /\ ∀ j, j < i -> l[j]! ≠ x) 0 ⟨Nat.zero_le _, fun j hj => by omega⟩ ?_ ?_
 ·simp only [go_sem]
 rintro i ⟨hi, hn⟩
 by_cases h : i < l.length
 case neg =>
  have e := mem_not (l := l) (x := x) fun j hj => hn j (by omega)
  simp only [go_sem, h, e]
 have hg := getv h
 have hwi : IntKind.i64.wrap (i + 1) = i + 1 := wrap_in (by omega) (by omega)
 by_cases he : l[i]! = x
 ·have e : decide (x ∈ l) = true := decide_eq_true (by rw [<- he]; exact mem_bangI h)
  have hb : (l[i]! == x) = true := beq_iff_eq.2 he
  simp only [go_sem, h, hg, hb, e]
 ·have hb : (l[i]! == x) = false := beq_eq_false_iff_ne.2 he
  simp only [go_sem, h, hg, hb, hwi]
  refine roundK.intro (i + 1) ⟨by omega, fun j hj => ?_⟩ (by omega) ?_
  ·by_cases hji : j = i
   ·rw [hji]; exact he
   ·exact hn j (by omega)
  simp only [go_sem]
def subL (a b : List Int) : Bool := a.all fun x => decide (x ∈ b)
theorem con_r09subset (a b : List Int) (ha : a.length <= 1000000) (hb : b.length <= 1000000) : Con Tryz.prog 113 [vs 0 a, vs 0 b] [] fun r _ => r = vb (subL a b) := by
 refine Con.intro Tryz.func113 rfl Tryz.ntmps113 Tryz.results113 (by kernel_rfl) (by simp) 0 (by simp) ?_
 simp only [go_sem]
 refine LoopK.intro (fun i : Nat => ⟨19, [(0, vs 0 a), (1, vs 0 b), (5, vi i)], []⟩)
  (fun i => a.length - i) (fun i => i <= a.length /\ ∀ j, j < i -> a[j]! ∈ b) 0 ⟨Nat.zero_le _, fun j hj => by omega⟩ ?_ ?_
 ·simp only [go_sem]
 rintro i ⟨hi, hn⟩
 by_cases h : i < a.length
 case neg =>
  have e : subL a b = true := List.all_eq_true.2 fun x hx => by
   obtain ⟨j, hj, ej⟩ := List.getElem_of_mem hx
   have := hn j (by omega)
   rw [getElem!_pos a j hj, ej] at this
   exact decide_eq_true this
  simp only [go_sem, h, e]
 have hg := getv h
 have hwi : IntKind.i64.wrap (i + 1) = i + 1 := wrap_in (by omega) (by omega)
 have hc := con_r09has b a[i]! hb
 simp only [go_sem, h, hg]
 refine CallU.free hc (by simp only [go_sem]) (by simp only [go_sem]) ?_
 rintro r bx rfl
 by_cases he : a[i]! ∈ b
 ·simp only [go_sem, he, hwi, decide_true]
  refine roundK.intro (i + 1) ⟨by omega, fun j hj => ?_⟩ (by omega) ?_
  ·by_cases hji : j = i
   ·rw [hji]; exact he
   ·exact hn j (by omega)
  simp only [go_sem]
 ·have e : subL a b = false := by
   unfold subL
   rw [List.all_eq_false]
   exact ⟨a[i]!, mem_bangI h, by simpa using he⟩
  simp only [go_sem, he, e, decide_false]
theorem drop_bang' {α : Type} [Inhabited α] {p : List α} {i : Nat} (h : i < p.length) : p.drop i = p[i]! :: p.drop (i + 1) := by
 rw [List.drop_eq_getElem_cons h, getElem!_pos p i h]
end Go.AM
namespace Go.AM
theorem mod_set {α : Type} {f : α -> α} : ∀ {L : List α} {i : Nat} {a : α}, L[i]? = some a -> L.modify i f = L.set i (f a)
 | [], _, _, h => by simp at h
 | x :: L, 0, a, h => by
  have : x = a := by simpa using h
  subst this; rfl
 | x :: L, i + 1, a, h => by
  have := mod_set (f := f) (L := L) (i := i) (a := a) (by simpa using h)
  rw [List.modify_succ_cons, this]; rfl
end Go.AM
namespace Go.AM
open Go Go.Proofs Go.RowKit
@[go_sem] theorem typed_cl {P : Program} {d : Nat} {T : TypeId} {f : FuncId} {caps : List AV} : typed P d T (.cl f caps) = .cl f caps := rfl
section
variable {α : Type} [Inhabited α] {l D : List α} {p : α -> Bool} {q j i : Nat}
end
theorem getPr {l : List (List TmD)} {i : Nat} (h : i < l.length) : (l.map vPr)[i]? = some (.sl 0 2 (l[i]!.map vTm)) := by
 rw [List.getElem?_map, List.getElem?_eq_getElem h, getElem!_pos l i h]; rfl
theorem mod_Pr {D : List (List TmD)} {q : Nat} {x : List TmD} (h : q < D.length) : (D.map vPr).modify q (updElem 0 [vPr x]) = (D.set q x).map vPr := by
 rw [mod_set (getPr h), List.map_set]; rfl
theorem lenP_norm {p : List TmD} (h : LenP p) : LenP (normP p) := by
 refine ⟨Nat.le_trans (normP_len p) h.len, fun t ht => h.terms t ?_⟩
 have : ∀ (n : Nat) (q : List TmD), ∀ t ∈ normN n q, t ∈ q := by
  intro n
  induction n with
  | zero => intro q t ht; exact ht
  | succ n ih =>
   intro q t ht
   rw [normN] at ht
   split at ht
   ·exact ht
   ·exact List.mem_of_mem_eraseIdx (ih _ t ht)
 exact this _ p t ht
theorem shareD {P : Program} {ops : Array Oper} {K : St -> Prop} {T : St -> Prop} {A : Prop} (h : (∀ τ, T τ -> DrawK P ops τ K) -> A) (key : ∀ τ, T τ -> DrawK P ops τ K) : A := h key
theorem DrawK.leX {P : Program} {ops : Array Oper} {σ : St} {K : St -> Prop} (τ : St) (hl : σ.le τ) (h : DrawK P ops τ K) : DrawK P ops σ K :=
 fun G0 w0 G a w id Q h0 hs hK => h G0 w0 G a w id Q h0 (hs.le hl) hK
set_option maxRecDepth 100000
set_option maxHeartbeats 8000000
theorem con_r09Check (n : Int) (p : List TmD) (hp : LenP p) : Con Tryz.prog 63 [vi n, vPr p] [] fun r _ => r = vi (checkX n p) := by
 refine Con.intro Tryz.func63 rfl Tryz.ntmps63 Tryz.results63 (by kernel_rfl) (by simp) 0 (by simp) ?_
 have hpl := hp.len
 by_cases hn : 1 <= n /\ n <= 6
 case neg =>
  have e : checkX n p = 2 := by unfold checkX; rw [if_pos hn]
  rw [e]
  by_cases h1 : n < 1
  ·simp only [go_sem, h1]
  ·have h2 : 6 < n := by omega
   simp only [go_sem, h1, h2]
 have h1 : ¬ n < 1 := by omega
 have h2 : ¬ 6 < n := by omega
 by_cases h3 : 24 < p.length
 ·have e : checkX n p = 1 := by unfold checkX; rw [if_neg (by simpa using hn), if_pos h3]
  rw [e]
  simp only [go_sem, h1, h2, h3, List.length_map]
 have ebad : ∀ i, i < p.length -> termB n p[i]! = false -> checkX n p = 8 := fun i hi hb => by
  unfold checkX
  rw [if_neg (by simpa using hn), if_neg h3, if_pos]
  exact List.any_eq_true.2 ⟨_, mem_bangI hi, by rw [hb]; rfl⟩
 have egood : (∀ j, j < p.length -> termB n p[j]! = true) -> checkX n p = 0 := fun hg => by
  unfold checkX
  rw [if_neg (by simpa using hn), if_neg h3, if_neg]
  intro hc
  obtain ⟨t, ht, hb⟩ := List.any_eq_true.1 hc
  obtain ⟨j, hj, rfl⟩ := List.getElem_of_mem ht
  have := hg j hj
  rw [getElem!_pos p j hj] at this
  rw [this] at hb
  cases hb
 simp only [go_sem, h1, h2, h3, List.length_map]
 refine LoopK.intro (fun i : Nat => ⟨80, [(0, vi n), (1, vPr p), (5, vi i)], []⟩)
  (fun i => p.length - i) (fun i => i <= p.length /\ ∀ j, j < i -> termB n p[j]! = true) 0 ⟨Nat.zero_le _, fun j hj => by omega⟩ ?_ ?_
 ·simp only [go_sem]
 rintro i ⟨hi, hall⟩
 by_cases h : i < p.length
 case neg =>
  have e := egood fun j hj => hall j (by omega)
  rw [e]
  simp only [go_sem, h, List.length_map]
 have hg := getTm h
 have hwi : IntKind.i64.wrap (i + 1) = i + 1 := wrap_in (by omega) (by omega)
 have htl := hp.terms _ (mem_bangI h)
 have ebad := ebad i h
 generalize hti : p[i]! = t at hg htl ebad
 by_cases hlen : t.star = true \/ t.ls.length = 1
 case neg =>
  have hs : t.star = false := by cases hs : t.star with
   | true => exact absurd (.inl hs) hlen
   | false => rfl
  have hl1 : ((t.ls.length : Int) != 1) = true := by simp only [bne_iff_ne, ne_eq]; intro hc; exact hlen (.inr (by omega))
  have e := ebad (by
   unfold termB
   rw [hs, decide_eq_false (fun hc => hlen (.inr hc))]; simp)
  rw [e]
  simp only [go_sem, h, hg, hs, hl1, List.length_map]
 have hcont : (t.star = false -> ((t.ls.length : Int) != 1) = false) := fun hs => by
  rcases hlen with hc | hc
  ·rw [hs] at hc; cases hc
  ·rw [hc]; rfl
 have hsl : (t.star || decide (t.ls.length = 1)) = true := by
  rcases hlen with hc | hc
  ·rw [hc]; rfl
  ·rw [hc]; simp
 apply share9b (T := fun τ => τ.le ⟨80, [(0, vi n), (1, vPr p), (5, vi i), (6, vi (0 : Nat))], []⟩)
 case h =>
  intro hsh
  cases hs : t.star with
  | true =>
   simp only [go_sem, h, hg, hs, List.length_map]
   refine hsh _ ?_
   simp only [go_sem]
  | false =>
   simp only [go_sem, h, hg, hs, hcont hs, List.length_map]
   refine hsh _ ?_
   simp only [go_sem]
 case key =>
  rintro τ hle
  refine LoopK.intro (fun k : Nat => ⟨80, [(0, vi n), (1, vPr p), (5, vi i), (6, vi k)], []⟩)
   (fun k => t.ls.length - k) (fun k => k <= t.ls.length /\ ∀ j, j < k -> ascAt n t.ls j) 0 ⟨Nat.zero_le _, fun j hj => by omega⟩ hle ?_
  clear hle
  rintro k ⟨hk, ha⟩
  by_cases h4 : k < t.ls.length
  case neg =>
   have ea : ascN n t.ls = true := ascN_iff.2 fun j hj => ha j (by omega)
   simp only [go_sem, h, hg, h4, hwi, List.length_map]
   refine roundK.intro (i + 1) ⟨by omega, fun j hj => ?_⟩ (by omega) ?_
   ·by_cases hji : j = i
    ·rw [hji, hti]; unfold termB; rw [ea, hsl]; rfl
    ·exact hall j (by omega)
   simp only [go_sem]
  have hg2 := getv h4
  have hwk : IntKind.i64.wrap (k + 1) = k + 1 := wrap_in (by omega) (by omega)
  have hbad : ¬ ascAt n t.ls k -> checkX n p = 8 := fun hb => ebad (by
   unfold termB
   rw [Bool.and_eq_false_iff]
   exact .inl (Bool.eq_false_iff.2 fun hc => hb (ascN_iff.1 hc k h4)))
  by_cases e1 : t.ls[k]! < 0
  ·rw [hbad fun hc => by have := hc.1; omega]
   simp only [go_sem, h, hg, h4, hg2, e1, List.length_map]
  by_cases e2 : n <= t.ls[k]!
  ·rw [hbad fun hc => by have := hc.1; omega]
   simp only [go_sem, h, hg, h4, hg2, e1, e2, List.length_map]
  by_cases h0 : 0 < k
  case neg =>
   simp only [go_sem, h, hg, h4, hg2, e1, e2, h0, hwk, List.length_map]
   refine roundK.intro (k + 1) ⟨by omega, fun j hj => ?_⟩ (by omega) ?_
   ·by_cases hjk : j = k
    ·subst hjk; exact ⟨by omega, fun hc => absurd hc h0⟩
    ·exact ha j (by omega)
   simp only [go_sem]
  have hg3 := getv (l := t.ls) (i := k - 1) (by omega)
  have hw2 : IntKind.i64.wrap ((k : Int) - 1) = ((k - 1 : Nat) : Int) := by rw [wrap_in (by omega) (by omega)]; omega
  have hk2 : k - 1 < t.ls.length := by omega
  by_cases e3 : t.ls[k]! <= t.ls[k - 1]!
  ·rw [hbad fun hc => by have := hc.2 h0; omega]
   simp only [go_sem, h, hg, h4, hg2, e1, e2, h0, hg3, hw2, hk2, e3, List.length_map]
  ·simp only [go_sem, h, hg, h4, hg2, e1, e2, h0, hg3, hw2, hk2, e3, hwk, List.length_map]
   refine roundK.intro (k + 1) ⟨by omega, fun j hj => ?_⟩ (by omega) ?_
   ·by_cases hjk : j = k
    ·subst hjk; exact ⟨by omega, fun _ => by omega⟩
    ·exact ha j (by omega)
   simp only [go_sem]
def lexC : List Int -> List Int -> Int
 | [], [] => 0
 | [], _ :: _ => -1
 | _ :: _, [] => 1
 | x :: xs, y :: ys => if ordI x y ≠ 0 then ordI x y else lexC xs ys
theorem ordI_anti (a b : Int) : ordI b a = - ordI a b := by unfold ordI; split <;> split <;> (try split) <;> omega
theorem ordI_lt {a b c : Int} (h1 : ordI a b <= 0) (h2 : ordI b c <= 0) (h3 : ordI a b ≠ 0 \/ ordI b c ≠ 0) : ordI a c < 0 := by
 unfold ordI at *
 have k1 : a <= b := by
  rcases Int.lt_or_le b a with h | h
  ·rw [if_neg (by omega), if_pos h] at h1; omega
  ·exact h
 have k2 : b <= c := by
  rcases Int.lt_or_le c b with h | h
  ·rw [if_neg (by omega), if_pos h] at h2; omega
  ·exact h
 have k3 : a < c := by
  rcases h3 with h | h
  ·have : a ≠ b := fun e => h (by subst e; simp)
   omega
  ·have : b ≠ c := fun e => h (by subst e; simp)
   omega
 rw [if_pos k3]; omega
theorem lexC_anti : ∀ a b : List Int, lexC b a = - lexC a b
 | [], [] => rfl
 | [], _ :: _ => rfl
 | _ :: _, [] => rfl
 | x :: xs, y :: ys => by
  rw [lexC, lexC, ordI_anti x y, lexC_anti xs ys]
  by_cases h : ordI x y = 0
  ·rw [if_neg (by omega), if_neg (by omega)]
  ·rw [if_pos (by omega), if_pos (by omega)]
theorem lexC_zero : ∀ {a b : List Int}, lexC a b = 0 ↔ a = b
 | [], [] => by simp [lexC]
 | [], _ :: _ => by simp [lexC]
 | _ :: _, [] => by simp [lexC]
 | x :: xs, y :: ys => by
  rw [lexC]
  by_cases h : ordI x y = 0
  ·rw [if_neg (fun h' => h' h), lexC_zero, ordI_zero.1 h]; simp
  ·rw [if_pos h]
   exact ⟨fun e => absurd e h, fun e => absurd (ordI_zero.2 (by injection e)) h⟩
theorem lexC_trans : ∀ {a b c : List Int}, lexC a b <= 0 -> lexC b c <= 0 -> lexC a c <= 0
 | [], _, [], _, _ => by simp [lexC]
 | [], _, _ :: _, _, _ => by simp [lexC]
 | _ :: _, [], _, h, _ => by simp [lexC] at h
 | _ :: _, _ :: _, [], _, h => by simp [lexC] at h
 | x :: xs, y :: ys, z :: zs, h1, h2 => by
  rw [lexC] at h1 h2 ⊢
  by_cases e1 : ordI x y = 0
  ·rw [if_neg (fun h' => h' e1)] at h1
   obtain rfl := ordI_zero.1 e1
   by_cases e2 : ordI x z = 0
   ·rw [if_neg (fun h' => h' e2)] at h2 ⊢
    exact lexC_trans h1 h2
   ·rw [if_pos e2] at h2 ⊢
    exact h2
  ·rw [if_pos e1] at h1
   by_cases e2 : ordI y z = 0
   ·obtain rfl := ordI_zero.1 e2
    rw [if_pos e1]; exact h1
   ·rw [if_pos e2] at h2
    have := ordI_lt h1 h2 (.inl e1)
    rw [if_pos (by omega)]; omega
theorem lexC_drop {a b : List Int} {i : Nat} (hi : i < a.length) (hj : i < b.length) : lexC (a.drop i) (b.drop i) = if ordI a[i]! b[i]! ≠ 0 then ordI a[i]! b[i]! else lexC (a.drop (i + 1)) (b.drop (i + 1)) := by
 rw [List.drop_eq_getElem_cons hi, List.drop_eq_getElem_cons hj, lexC, getElem!_pos a i hi, getElem!_pos b i hj]
end Go.AM


namespace Go.AM
structure OrdB {β : Type} (cmp : β -> β -> Int) : Prop where
 zero : ∀ a b, cmp a b = 0 ↔ a = b
 anti : ∀ a b, cmp a b = - cmp b a
 trans : ∀ a b c, cmp a b < 0 -> cmp b c < 0 -> cmp a c < 0
end Go.AM



namespace Go.AM
open Go Go.Proofs Go.RowKit
theorem ord_lexC : OrdB lexC := ⟨fun _ _ => lexC_zero, fun a b => lexC_anti b a, fun a b c h1 h2 => by
 have h3 := lexC_trans (Int.le_of_lt h1) (Int.le_of_lt h2)
 by_cases h : lexC a c = 0
 ·have e := lexC_zero.1 h
  subst e
  have := lexC_anti a b
  omega
 ·omega⟩
section
variable {β γ : Type}
theorem OrdB.comap {cmp : γ -> γ -> Int} (ho : OrdB cmp) {k : β -> γ} (hk : ∀ a b, k a = k b -> a = b) : OrdB fun a b => cmp (k a) (k b) :=
 ⟨fun a b => ⟨fun h => hk a b ((ho.zero _ _).1 h), fun h => by rw [h]; exact (ho.zero _ _).2 rfl⟩, fun a b => ho.anti _ _, fun a b c h1 h2 => ho.trans _ _ _ h1 h2⟩
def lexBy (cmp : β -> β -> Int) : List β -> List β -> Int
 | [], [] => 0
 | [], _ :: _ => -1
 | _ :: _, [] => 1
 | x :: xs, y :: ys => if cmp x y ≠ 0 then cmp x y else lexBy cmp xs ys
theorem lexBy_zero {cmp : β -> β -> Int} (ho : OrdB cmp) : ∀ a b : List β, lexBy cmp a b = 0 ↔ a = b
 | [], [] => by simp [lexBy]
 | [], _ :: _ => by simp [lexBy]
 | _ :: _, [] => by simp [lexBy]
 | x :: xs, y :: ys => by
  rw [lexBy]
  by_cases h : cmp x y = 0
  ·rw [if_neg (fun h' => h' h), lexBy_zero ho xs ys, (ho.zero x y).1 h]; simp
  ·rw [if_pos h]
   exact ⟨fun e => absurd e h, fun e => absurd ((ho.zero x y).2 (by injection e)) h⟩
theorem lexBy_anti {cmp : β -> β -> Int} (ho : OrdB cmp) : ∀ a b : List β, lexBy cmp a b = - lexBy cmp b a
 | [], [] => rfl
 | [], _ :: _ => rfl
 | _ :: _, [] => rfl
 | x :: xs, y :: ys => by
  have := ho.anti x y
  rw [lexBy, lexBy, lexBy_anti ho xs ys]
  by_cases h : cmp x y = 0
  ·rw [if_neg (by omega), if_neg (by omega)]
  ·rw [if_pos (by omega), if_pos (by omega), this]
theorem lexBy_trans {cmp : β -> β -> Int} (ho : OrdB cmp) : ∀ a b c : List β, lexBy cmp a b < 0 -> lexBy cmp b c < 0 -> lexBy cmp a c < 0
 | [], [], _, h, _ => by simp [lexBy] at h
 | [], _ :: _, [], _, h => by simp [lexBy] at h
 | [], _ :: _, _ :: _, _, _ => by simp [lexBy]
 | _ :: _, [], _, h, _ => by simp [lexBy] at h
 | _ :: _, _ :: _, [], _, h => by simp [lexBy] at h
 | x :: xs, y :: ys, z :: zs, h1, h2 => by
  rw [lexBy] at h1 h2 ⊢
  by_cases e1 : cmp x y = 0
  ·rw [if_neg (fun h' => h' e1)] at h1
   have e1 := (ho.zero _ _).1 e1
   subst e1
   by_cases e2 : cmp x z = 0
   ·rw [if_neg (fun h' => h' e2)] at h2 ⊢
    exact lexBy_trans ho xs ys zs h1 h2
   ·rw [if_pos e2] at h2 ⊢; exact h2
  ·rw [if_pos e1] at h1
   by_cases e2 : cmp y z = 0
   ·have e2 := (ho.zero _ _).1 e2
    subst e2
    rw [if_pos e1]; exact h1
   ·rw [if_pos e2] at h2
    have h3 := ho.trans _ _ _ h1 h2
    rw [if_pos (by omega)]; exact h3
theorem ord_lexBy {cmp : β -> β -> Int} (ho : OrdB cmp) : OrdB (lexBy cmp) := ⟨lexBy_zero ho, lexBy_anti ho, lexBy_trans ho⟩
def thenC (f : β -> Int) (cmp : β -> β -> Int) (a b : β) : Int := if ordI (f a) (f b) ≠ 0 then ordI (f a) (f b) else cmp a b
theorem ord_thenC {cmp : β -> β -> Int} (ho : OrdB cmp) (f : β -> Int) : OrdB (thenC f cmp) := by
 have z : ∀ x y : Int, ordI x y = 0 ↔ x = y := fun x y => ordI_zero
 refine ⟨fun a b => ?_, fun a b => ?_, fun a b c h1 h2 => ?_⟩
 ·unfold thenC
  by_cases h : ordI (f a) (f b) = 0
  ·rw [if_neg (fun h' => h' h)]; exact ho.zero a b
  ·rw [if_pos h]
   exact ⟨fun e => absurd e h, fun e => absurd ((z _ _).2 (by rw [e])) h⟩
 ·unfold thenC
  have := ordI_anti (f b) (f a)
  by_cases h : ordI (f a) (f b) = 0
  ·rw [if_neg (fun h' => h' h), if_neg (by omega)]; exact ho.anti a b
  ·rw [if_pos h, if_pos (by omega)]; exact this
 ·unfold thenC at *
  have l1 : ∀ x y : Int, ordI x y < 0 ↔ x < y := fun x y => by unfold ordI; split <;> (try split) <;> omega
  by_cases e1 : ordI (f a) (f b) = 0
  ·rw [if_neg (fun h' => h' e1)] at h1
   rw [(z _ _).1 e1]
   by_cases e2 : ordI (f b) (f c) = 0
   ·rw [if_neg (fun h' => h' e2)] at h2 ⊢; exact ho.trans _ _ _ h1 h2
   ·rw [if_pos e2] at h2 ⊢; exact h2
  ·rw [if_pos e1] at h1
   by_cases e2 : ordI (f b) (f c) = 0
   ·rw [<- (z _ _).1 e2, if_pos e1]; exact h1
   ·rw [if_pos e2] at h2
    have a1 := (l1 _ _).1 h1; have a2 := (l1 _ _).1 h2
    have : ordI (f a) (f c) < 0 := (l1 _ _).2 (by omega)
    rw [if_pos (by omega)]; exact this
end
def keyT (t : TmD) : List Int := (if t.star then 1 else 0) :: (t.ls.length : Int) :: t.ls
def cmpTm (a b : TmD) : Int := lexC (keyT a) (keyT b)
theorem ord_Tm : OrdB cmpTm := ord_lexC.comap fun a b h => by
 unfold keyT at h
 injection h with h1 h2
 injection h2 with h2 h3
 cases a with | mk s l => cases b with | mk s' l' =>
 simp only at h1 h3
 subst h3
 have : s = s' := by cases s <;> cases s' <;> simp_all
 rw [this]
def cmpPr (p q : List TmD) : Int := thenC (fun p : List TmD => (p.length : Int)) (lexBy cmpTm) p q
theorem ord_Pr : OrdB cmpPr := ord_thenC (ord_lexBy ord_Tm) _
end Go.AM
namespace Go.AM
structure NrP (p : List TmD) (i : Nat) (out : List TmD) : Prop where
 red : redP out
 eq : EqP (out ++ p.drop i) p
 sub : ∀ t ∈ out, t ∈ p
 len : out.length <= i
theorem NrP.start (p : List TmD) : NrP p 0 [] := ⟨trivial, EqP.refl p, fun _ ht => absurd ht (by simp), Nat.zero_le _⟩
theorem NrP.done {p out : List TmD} (hp : OkP p) (h : NrP p p.length out) : out = normP p := by
 have he := h.eq
 rw [List.drop_length, List.append_nil] at he
 exact red_eq (fun t ht => hp t (h.sub t ht)) (normP_ok hp) h.red (normP_red p) (he.trans (normP_eq p))
theorem drop_bang {p : List TmD} {i : Nat} (h : i < p.length) : p.drop i = p[i]! :: p.drop (i + 1) := by
 rw [List.drop_eq_getElem_cons h, getElem!_pos p i h]
theorem NrP.empty {p out : List TmD} {i : Nat} (h : NrP p i out) (hi : i < p.length) (he : p[i]!.ls = []) : NrP p (i + 1) out :=
 ⟨h.red, by have := h.eq; rw [drop_bang hi] at this; exact ((eq_empty he _).app out).symm.trans this, h.sub, by have := h.len; omega⟩
theorem snoc_last {out : List TmD} (h : 0 < out.length) : out = out.take (out.length - 1) ++ [out[out.length - 1]!] := by
 have := List.take_succ_eq_append_getElem (l := out) (i := out.length - 1) (by omega)
 rw [show out.length - 1 + 1 = out.length by omega, List.take_length, <- getElem!_pos out _ (by omega)] at this
 exact this
theorem NrP.pop {p out : List TmD} {i : Nat} (h : NrP p i out) (hi : i < p.length) (h0 : 0 < out.length) (hs : p[i]!.star = true) (hw : witT out[out.length - 1]! p[i]! = true) : NrP p i (out.take (out.length - 1)) := by
 have e := snoc_last h0
 generalize out[out.length - 1]! = u at hw e
 have hl := h.len
 generalize ha : out.take (out.length - 1) = a at e
 have hal : a.length = out.length - 1 := by rw [<- ha, List.length_take]; omega
 subst e
 refine ⟨red_init h.red, ?_, fun t ht => h.sub t (by simp [ht]), by omega⟩
 have he := h.eq
 rw [drop_bang hi, List.append_assoc] at he
 rw [drop_bang hi]
 exact ((eq_next hs hw _).app a).symm.trans he
theorem NrP.skip {p out : List TmD} {i : Nat} (h : NrP p i out) (hi : i < p.length) (h0 : 0 < out.length) (hs : out[out.length - 1]!.star = true) (hw : witT p[i]! out[out.length - 1]! = true) : NrP p (i + 1) out := by
 have e := snoc_last h0
 generalize out[out.length - 1]! = u at hs hw e
 generalize out.take (out.length - 1) = a at e
 refine ⟨h.red, ?_, h.sub, by have := h.len; omega⟩
 have he := h.eq
 rw [drop_bang hi] at he
 rw [e, List.append_assoc] at he ⊢
 exact ((eq_prev hs hw _).app a).symm.trans he
theorem NrP.push {p out : List TmD} {i : Nat} (h : NrP p i out) (hi : i < p.length) (hn : p[i]!.ls ≠ [])
  (ha : 0 < out.length -> ¬ (p[i]!.star = true /\ witT out[out.length - 1]! p[i]! = true) /\ ¬ (out[out.length - 1]!.star = true /\ witT p[i]! out[out.length - 1]! = true)) : NrP p (i + 1) (out ++ [p[i]!]) := by
 refine ⟨?_, ?_, fun t ht => ?_, by have := h.len; rw [List.length_append]; simp; omega⟩
 ·by_cases h0 : 0 < out.length
  ·have e := snoc_last h0
   obtain ⟨h1, h2⟩ := ha h0
   have hr := h.red
   generalize out[out.length - 1]! = u at h1 h2 e
   generalize out.take (out.length - 1) = a at e
   subst e
   have := red_snoc hr ⟨h1, h2⟩ hn
   simpa using this
  ·rw [List.length_eq_zero_iff.1 (by omega : out.length = 0)]; exact red_one hn
 ·have he := h.eq
  rw [drop_bang hi] at he
  rw [List.append_assoc]; exact he
 ·rcases List.mem_append.1 ht with ht | ht
  ·exact h.sub t ht
  ·rw [List.mem_singleton.1 ht, getElem!_pos p i hi]; exact List.getElem_mem _
end Go.AM
namespace Go.AM
open Go Go.Proofs Go.RowKit
set_option maxRecDepth 100000
set_option maxHeartbeats 8000000
def termTree : Tr := .front 0 (.front 2 (.alt (.one 1 (.one 3 (.one 4 (.one 5 (.one 6 .done))))) (.one 3 (.alt (.one 1 (.one 4 (.one 5 (.one 6 .done)))) (.one 4 (.one 1 (.one 5 (.one 6 .done))))))))
theorem con_r09term (t : TmD) (hl : t.ls.length <= 1000000) : Con Tryz.prog 114 [vTm t] [] fun r _ => r = vTm t := by
 refine Con.frozX ?_
 refine Con.intro Tryz.func114 rfl Tryz.ntmps114 Tryz.results114 (by kernel_rfl) (by simp) 0 (by simp) ?_
 have hr : roomFor t.ls.length 8 := by simp only [roomFor]; omega
 simp only [go_sem]
 refine DrawK.tree termTree mixed (by kernel_rfl) ?_
 unfold termTree
 simp only [go_sem, hr, List.length_map]
 repeat' (first | with_reducible apply andK_mk | exact trivial | exact leV_refl _ | simp only [go_sem, hr, List.length_map])
theorem con_r09normal (p : List TmD) (hp : OkP p) (hl : LenP p) : Con Tryz.prog 64 [vPr p] [] fun r _ => r = vPr (normP p) := by
 refine Con.frozX ?_
 refine Con.intro Tryz.func64 rfl Tryz.ntmps64 Tryz.results64 (by kernel_rfl) (by simp) 0 (by simp) ?_
 have hpl := hl.len
 simp only [go_sem]
 refine LoopK.intro (fun x : Nat × List TmD => ⟨91, [(0, vPr p), (3, .sl 5760 2 (x.2.map vTm)), (4, vi x.1)], []⟩)
  (fun x => p.length - x.1) (fun x => x.1 <= p.length /\ NrP p x.1 x.2) (0, []) ⟨Nat.zero_le _, NrP.start p⟩ ?_ ?_
 ·simp only [go_sem, List.map_nil]
  all_goals exact leB_self _
 rintro ⟨i, out⟩ ⟨hi, hN⟩
 simp only at hi hN
 by_cases h : i < p.length
 case neg =>
  obtain rfl : i = p.length := by omega
  have e := hN.done hp
  simp only [go_sem, h, <- e, List.length_map]
  exact leV_refl _
 have hg := getTm h
 have hwi : IntKind.i64.wrap (i + 1) = i + 1 := wrap_in (by omega) (by omega)
 have htl := hl.terms _ (mem_bangI h)
 have hto := hp _ (mem_bangI h)
 by_cases he : p[i]!.ls = []
 ·have hs : p[i]!.star = true := by
   cases hs : p[i]!.star with
   | true => rfl
   | false => obtain ⟨x, hx⟩ := hto.one hs; rw [he] at hx; cases hx
  simp only [go_sem, h, hg, hs, he, hwi, List.length_map, List.map_nil, List.length_nil]
  refine roundK.intro (i + 1, out) ⟨by show i + 1 <= _; omega, hN.empty h he⟩ (by show p.length - (i + 1) < p.length - i; omega) ?_
  simp only [go_sem]
 have hne : ((p[i]!.ls.length : Int) == 0) = false := beq_eq_false_iff_ne.2 (by have := List.length_pos_iff.2 he; omega)
 apply share9b (T := fun τ => τ.le ⟨91, [(0, vPr p), (3, .sl 5760 2 (out.map vTm)), (4, vi i)], []⟩)
 case h =>
  intro hsh
  cases hs : p[i]!.star with
  | true =>
   simp only [go_sem, h, hg, hs, hne, List.length_map]
   refine hsh _ ?_
   simp only [go_sem]
  | false =>
   simp only [go_sem, h, hg, hs, List.length_map]
   refine hsh _ ?_
   simp only [go_sem]
 case key =>
  rintro τ hle
  refine LoopK.intro (fun out : List TmD => ⟨91, [(0, vPr p), (3, .sl 5760 2 (out.map vTm)), (4, vi i)], []⟩)
   (fun out => out.length) (fun out => NrP p i out) out hN hle ?_
  clear hle hN
  rintro out hN
  have hol := hN.len
  have hgo : ∀ {k}, k < out.length -> (out.map vTm)[k]? = some (vTm out[k]!) := fun h => getTm h
  have hst : 0 < out.length -> out[out.length - 1]!.ls.length <= 1000000 := fun h0 => hl.terms _ (hN.sub _ (mem_bangI (by omega)))
  apply shareD (T := fun τ => ∃ out, NrP p i out /\ (0 < out.length -> ¬ (p[i]!.star = true /\ witT out[out.length - 1]! p[i]! = true)) /\ τ.le ⟨91, [(0, vPr p), (3, .sl 5760 2 (out.map vTm)), (4, vi i)], []⟩)
  case h =>
   intro hsh
   by_cases h0 : 0 < out.length
   case neg =>
    simp only [go_sem]
    refine DrawK.walk 24 mixed (by kernel_rfl) ?_
    simp only [go_sem, h0, List.length_map]
    refine hsh _ ⟨out, hN, fun hc => absurd hc h0, ?_⟩
    simp only [go_sem]
   have hgl := hgo (k := out.length - 1) (by omega)
   have hw1 : IntKind.i64.wrap ((out.length : Int) - 1) = ((out.length - 1 : Nat) : Int) := by rw [wrap_in (by omega) (by omega)]; omega
   have hlt : out.length - 1 < out.length := by omega
   have hle1 : out.length - 1 <= out.length := by omega
   cases hs : p[i]!.star with
   | false =>
    simp only [go_sem]
    refine DrawK.walk 24 mixed (by kernel_rfl) ?_
    simp only [go_sem, h0, h, hg, hs, List.length_map]
    refine hsh _ ⟨out, hN, fun _ hc => by rw [hs] at hc; exact absurd hc.1 (by simp), ?_⟩
    simp only [go_sem]
   | true =>
    have hc := con_r09subset out[out.length - 1]!.ls p[i]!.ls (hst h0) htl
    have hwt : subL out[out.length - 1]!.ls p[i]!.ls = witT out[out.length - 1]! p[i]! := by unfold witT subL; rw [if_pos hs]
    rw [hwt] at hc
    simp only [go_sem]
    refine DrawK.walk 24 mixed (by kernel_rfl) ?_
    simp only [go_sem, h0, h, hg, hs, hgl, hw1, hlt, List.length_map]
    refine CallY.mk hc (by simp only [go_sem]) (by simp only [go_sem]) (.inl (by simp only [go_sem])) ?_
    cases hwit : witT out[out.length - 1]! p[i]! with
    | true =>
     simp only [go_sem, hw1, hle1, List.length_map]
     refine roundK.intro (out.take (out.length - 1)) (hN.pop h h0 hs hwit) (by rw [List.length_take]; omega) ?_
     simp only [go_sem, List.map_take]
    | false =>
     simp only [go_sem]
     refine hsh _ ⟨out, hN, fun _ hc => by rw [hwit] at hc; exact absurd hc.2 (by simp), ?_⟩
     simp only [go_sem]
  case key =>
   rintro τ ⟨out, hN, hnp, hle⟩
   refine DrawK.leX _ hle ?_
   clear hle
   have hol := hN.len
   have hct := con_r09term p[i]! htl
   have hroom : roomFor (out.length + 1) 32 := by simp only [roomFor]; omega
   simp only [vTm] at hct
   simp only [go_sem] at hct
   by_cases h0 : 0 < out.length
   case neg =>
    refine DrawK.walk 26 mixed (by kernel_rfl) ?_
    simp only [go_sem, h0, h, hg, List.length_map]
    refine CallU.free hct (by simp only [go_sem]) (by simp only [go_sem]) ?_
    rintro r bx rfl
    simp only [go_sem, hwi]
    refine ⟨by simp only [roomFor]; omega, ?_⟩
    refine roundK.intro (i + 1, out ++ [p[i]!]) ⟨by show i + 1 <= _; omega, hN.push h he fun hc => absurd hc h0⟩ (by show p.length - (i + 1) < p.length - i; omega) ?_
    simp only [go_sem, List.map_append, List.map_cons, List.map_nil]
   have hgl : (out.map vTm)[out.length - 1]? = some (vTm out[out.length - 1]!) := getTm (by omega)
   have hw1 : IntKind.i64.wrap ((out.length : Int) - 1) = ((out.length - 1 : Nat) : Int) := by rw [wrap_in (by omega) (by omega)]; omega
   have hlt : out.length - 1 < out.length := by omega
   have hul := hl.terms _ (hN.sub _ (mem_bangI hlt))
   generalize hu : out[out.length - 1]! = u at hgl hul hnp
   cases hs : u.star with
   | false =>
    refine DrawK.walk 26 mixed (by kernel_rfl) ?_
    simp only [go_sem, h0, h, hg, hgl, hw1, hlt, hs, List.length_map]
    refine CallU.free hct (by simp only [go_sem]) (by simp only [go_sem]) ?_
    rintro r bx rfl
    simp only [go_sem, hwi]
    refine ⟨by simp only [roomFor]; omega, ?_⟩
    refine roundK.intro (i + 1, out ++ [p[i]!]) ⟨by show i + 1 <= _; omega, hN.push h he fun hc => by rw [hu]; exact ⟨hnp hc, fun h2 => by rw [hs] at h2; exact absurd h2.1 (by simp)⟩⟩ (by show p.length - (i + 1) < p.length - i; omega) ?_
    simp only [go_sem, List.map_append, List.map_cons, List.map_nil]
   | true =>
    have hc := con_r09subset p[i]!.ls u.ls htl hul
    have hwt : subL p[i]!.ls u.ls = witT p[i]! u := by unfold witT subL; rw [if_pos hs]
    rw [hwt] at hc
    refine DrawK.walk 26 mixed (by kernel_rfl) ?_
    simp only [go_sem, h0, h, hg, hgl, hw1, hlt, hs, List.length_map]
    refine CallY.mk hc (by simp only [go_sem]) (by simp only [go_sem]) (.inl (by simp only [go_sem])) ?_
    cases hwit : witT p[i]! u with
    | true =>
     simp only [go_sem, hwi]
     refine roundK.intro (i + 1, out) ⟨by show i + 1 <= _; omega, hN.skip h h0 (by rw [hu]; exact hs) (by rw [hu]; exact hwit)⟩ (by show p.length - (i + 1) < p.length - i; omega) ?_
     simp only [go_sem]
    | false =>
     simp only [go_sem, h, hg, List.length_map]
     refine CallU.free hct (by simp only [go_sem]) (by simp only [go_sem]) ?_
     rintro r bx rfl
     simp only [go_sem, hwi]
     refine ⟨by simp only [roomFor]; omega, ?_⟩
     refine roundK.intro (i + 1, out ++ [p[i]!]) ⟨by show i + 1 <= _; omega, hN.push h he fun hc => by rw [hu]; exact ⟨hnp hc, fun h2 => by rw [hwit] at h2; exact absurd h2.2 (by simp)⟩⟩ (by show p.length - (i + 1) < p.length - i; omega) ?_
     simp only [go_sem, List.map_append, List.map_cons, List.map_nil]
end Go.AM
namespace Go.AM
open Go.RowKit
variable {P : Program}
def CallYF (P : Program) (f : AV) (args : List AV) (d : Nat) (σ : St) (K : St -> Prop) : Prop :=
 match f with
 | .fn fid caps => CallY P fid (args ++ caps) d σ K
 | _ => False
@[congr] theorem CallYF_congr {f f' : AV} {args args' : List AV} {d : Nat} {K : St -> Prop} {σ σ' : St} (h0 : mkd f = f') (h1 : args = args') (h : σ = σ') : CallYF P f args d σ K = CallYF P f' args' d σ' K := by subst_vars; rfl
@[go_sem] theorem CallYF_fn {f : FuncId} {caps args : List AV} {d : Nat} {σ : St} {K : St -> Prop} : CallYF P (.fn f caps) args d σ K = CallY P f (args ++ caps) d σ K := rfl
@[go_sem] theorem headOp_callF {d : Nat} {T : TypeId} {pos : String} {af : Array Edge} {g : Option (Nat × Bool)} {n : Nat} {t : List (Nat × AV)} {b : List (List AV)} {K : St -> Prop} {f : Tmp} {args : List Operand} {As : Array TypeId} : headOp P ⟨some d, .call ⟨.value (.tmp f), args.toArray, As⟩, T, pos, af, g⟩ ⟨n, t, b⟩ K = andK (d < n) (CallYF P (lookT t f) (evAll ⟨n, t, b⟩ args) d ⟨n, t, b⟩ K) := by
 simp only [headOp, andK, St.ev, St.get, evAll_eq, CallYF]; rfl
end Go.AM
namespace Go.AM
open Go Go.Proofs Go.RowKit
set_option maxRecDepth 100000
def vPT (p : Int × Int) : AV := .ag [vi p.1, vi p.2, .nil, .nil]
def flatT (t : Nat) (ps : List (Int × Int)) : AV := .ag [vi 3, vi 0, .nil, .sl t 4 (ps.map vPT)]
attribute [go_sem] vPT flatT
theorem con_label (n : Nat) : Con Tryz.prog 164 [vi n] [] fun r _ => r = vPT (2, n) := by
 refine Con.intro Tryz.func164 rfl Tryz.ntmps164 Tryz.results164 (by kernel_rfl) (by simp) 0 (by simp) ?_
 simp only [go_sem]
mutual
def countV : CV -> Int -> Int
 | .mk _ kids, most => countVs kids most 1
def countVs : List CV -> Int -> Int -> Int
 | [], _, n => n
 | k :: l, most, n => if most < n then n else countVs l most (n + countV k (most - n))
end
mutual
theorem countV_bnd : ∀ (v : CV) (most : Int), 0 <= most -> 1 <= countV v most /\ countV v most <= most + 1
 | .mk _ kids, most, h => by
  have := countVs_bnd kids most 1 h (by omega) (by omega)
  rw [countV]; exact this
theorem countVs_bnd : ∀ (l : List CV) (most n : Int), 0 <= most -> 1 <= n -> n <= most + 1 -> 1 <= countVs l most n /\ countVs l most n <= most + 1
 | [], most, n, h, h1, h2 => by rw [countVs]; exact ⟨h1, h2⟩
 | k :: l, most, n, h, h1, h2 => by
  rw [countVs]
  by_cases hm : most < n
  ·rw [if_pos hm]; exact ⟨h1, h2⟩
  ·rw [if_neg hm]
   have := countV_bnd k (most - n) (by omega)
   exact countVs_bnd l most _ h (by omega) (by omega)
end
theorem drop_kid {l : List CV} {i : Nat} (h : i < l.length) : l.drop i = l[i]! :: l.drop (i + 1) := by
 rw [List.drop_eq_getElem_cons h, getElem!_pos l i h]
theorem con_count (v : CV) (most : Int) (h1 : 0 <= most) (h2 : most <= 128) (hv : v.Ok) : Con Tryz.prog 254 [vV v, vi most] [] fun r _ => r = vi (countV v most) := by
 have key : ∀ (s : Nat) (v : CV) (most : Int), SizeOf.sizeOf v <= s -> 0 <= most -> most <= 128 -> v.Ok -> Con Tryz.prog 254 [vV v, vi most] [] fun r _ => r = vi (countV v most) := by
  intro s
  induction s with
  | zero => intro v _ hs; cases v; rw [CV.mk.sizeOf_spec] at hs; omega
  | succ s ih =>
   intro v most hs h1 h2 hv
   have hlen := hv.len
   have e0 : countV v most = countVs v.kids most 1 := by cases v; rw [countV]; rfl
   rw [vV_eq, e0]
   refine Con.intro Tryz.func254 rfl Tryz.ntmps254 Tryz.results254 (by kernel_rfl) (by simp) 1 (by simp) ?_
   simp only [go_sem]
   refine LoopK.intro (fun q : Nat × Int => ⟨27, [(1, vi most), (2, .pb 0 0), (5, vi q.2), (9, .sl 0 2 (v.kids.map vV)), (10, vi v.kids.length), (11, vi q.1)], [vi v.n, .sl 0 2 (v.kids.map vV)] :: Rk 2 q.1⟩)
    (fun q => v.kids.length - q.1) (fun q => q.1 <= v.kids.length /\ 1 <= q.2 /\ q.2 <= most + 1 /\ countVs (v.kids.drop q.1) most q.2 = countVs v.kids most 1) (0, 1) ⟨by simp, by simp, by show (1 : Int) <= most + 1; omega, rfl⟩ ?_ ?_
   ·simp only [go_sem]
    exact leB_self _
   rintro ⟨i, n⟩ ⟨hi, hn1, hn2, he⟩
   simp only at hi hn1 hn2 he
   by_cases h : i < v.kids.length
   ·have hg := getvV h
    have hw : IntKind.i64.wrap (i + 1) = i + 1 := wrap_in (by omega) (by omega)
    have hB := Rk_len 2 i
    have n0 := fun L : List (List AV) => app_at0 (L := L) hB
    have s0 := fun (L : List (List AV)) z => app_set0 (L := L) (z := z) hB
    rw [drop_kid h, countVs] at he
    by_cases hm : most < n
    ·rw [if_pos hm] at he
     simp only [go_sem, h, hg, hB, n0, s0, hm]
     rw [he]
    ·rw [if_neg hm] at he
     have hmem : v.kids[i]! ∈ v.kids := mem_bangI h
     have hk := countV_bnd v.kids[i]! (most - n) (by omega)
     have hw2 : IntKind.i64.wrap (most - n) = most - n := wrap_in (by omega) (by omega)
     have hw3 : IntKind.i64.wrap (n + countV v.kids[i]! (most - n)) = n + countV v.kids[i]! (most - n) := wrap_in (by omega) (by omega)
     simp only [go_sem, h, hg, hB, n0, s0, hm, hw2]
     refine CallU.free (ih v.kids[i]! (most - n) (by have := kid_size hmem; omega) (by omega) (by omega) (hv.kid hmem)) (by simp only [go_sem]) (by simp only [go_sem, vV_eq]) ?_
     rintro r bx rfl
     simp only [go_sem, hw, hw3]
     refine roundK.intro (i + 1, n + countV v.kids[i]! (most - n)) ⟨by show i + 1 <= _; omega, by show 1 <= n + _; omega, by show n + _ <= most + 1; omega, he⟩ (by show v.kids.length - (i + 1) < v.kids.length - i; omega) ?_
     simp only [go_sem, Rk_succ]
     exact leB_RkA ⟨leC_any _ 2 rfl, trivial⟩
   ·obtain rfl : i = v.kids.length := by omega
    rw [List.drop_length, countVs] at he
    simp only [go_sem, h, he]
 exact key _ v most (Nat.le_refl _) h1 h2 hv
theorem con_size (v : CV) (hv : v.Ok) : Con Tryz.prog 162 [vV v] [] fun r _ => r = vi (countV v 128) := by
 rw [vV_eq]
 refine Con.intro Tryz.func162 rfl Tryz.ntmps162 Tryz.results162 (by kernel_rfl) (by simp) 1 (by simp) ?_
 simp only [go_sem]
 refine CallU.free (con_count v 128 (by omega) (by omega) hv) (by simp only [go_sem]) (by simp only [go_sem, vV_eq]) ?_
 rintro r bx rfl
 have hb := countV_bnd v 128 (by omega)
 have e : min (countV v 128) 129 = countV v 128 := by omega
 simp only [go_sem, e]
theorem zero_len {α : Type} (l : List α) : ((l.length : Int) == 0) = (l.length == 0) := by rw [Bool.eq_iff_iff]; simp
theorem con_olabel (v : CV) (s : Int) : Con Tryz.prog 255 [vV v, vi s] [] fun r _ => r = vb (decide (0 <= v.n) && decide (v.n < s) && v.kids.length == 0) := by
 rw [vV_eq]
 refine Con.intro Tryz.func255 rfl Tryz.ntmps255 Tryz.results255 (by kernel_rfl) (by simp) 1 (by simp) ?_
 by_cases h1 : 0 <= v.n
 ·by_cases h2 : v.n < s
  ·simp only [go_sem, h1, h2, zero_len, decide_true, Bool.true_and]
  ·simp only [go_sem, h1, h2, decide_false, Bool.false_and, Bool.and_false]
 ·simp only [go_sem, h1, decide_false, Bool.false_and]
end Go.AM
