/- ExA ExDel MxW9 ExB ExC EyA LMod ExD ExE ExF ExD2 -/
import Derived.Test.YtlcckmmibeddeaaGreatg8
import Derived.Test.YtlcckmmibeddeaaGreatg9
import Derived.Shelf.RegionOpenPlain
import Derived.WalkKit
import Derived.Lib.Walk
import Derived.Lib.SliceRun
import Derived.Laws.Externs
namespace Go.AM
open Go Go.Proofs Go.RowKit
set_option maxRecDepth 100000
set_option maxHeartbeats 8000000
def vTm (t : TmD) : AV := .ag [vb t.star, vs 0 t.ls]
def vPr (p : List TmD) : AV := .sl 0 2 (p.map vTm)
attribute [go_sem] vTm vPr
theorem getTm {p : List TmD} {i : Nat} (h : i < p.length) : (p.map vTm)[i]? = some (.ag [.sc (.bool p[i]!.star), .sl 0 1 (p[i]!.ls.map vi)]) := by
 rw [List.getElem?_map, List.getElem?_eq_getElem h, getElem!_pos p i h]; rfl
def ascN (n : Int) (l : List Int) : Bool := l.all (fun x => decide (0 <= x /\ x < n)) && ascI l
def ascAt (n : Int) (l : List Int) (j : Nat) : Prop := (0 <= l[j]! /\ l[j]! < n) /\ (0 < j -> l[j - 1]! < l[j]!)
theorem ascI_iff : ∀ {l : List Int}, ascI l = true ↔ ∀ j, 0 < j -> j < l.length -> l[j - 1]! < l[j]!
 | [] => by simp [ascI]
 | [x] => by
  simp only [ascI, List.length_cons, List.length_nil, true_iff]
  intro j h1 h2; omega
 | x :: y :: l => by
  rw [ascI, Bool.and_eq_true, decide_eq_true_eq, ascI_iff]
  constructor
  ·rintro ⟨h1, h2⟩ j hj hl
   match j, hj with
   | 1, _ => exact h1
   | j + 2, _ => exact h2 (j + 1) (by omega) (by simp only [List.length_cons] at hl ⊢; omega)
  ·intro h
   refine ⟨h 1 (by omega) (by simp), fun j hj hl => ?_⟩
   match j, hj with
   | j + 1, _ => exact h (j + 2) (by omega) (by simp only [List.length_cons] at hl ⊢; omega)
theorem ascN_iff {n : Int} {l : List Int} : ascN n l = true ↔ ∀ j, j < l.length -> ascAt n l j := by
 unfold ascN
 rw [Bool.and_eq_true, ascI_iff, List.all_eq_true]
 constructor
 ·rintro ⟨h1, h2⟩ j hj
  have := h1 _ (mem_bangI hj)
  exact ⟨of_decide_eq_true this, fun h => h2 j h hj⟩
 ·intro h
  refine ⟨fun x hx => ?_, fun j h1 h2 => (h j h2).2 h1⟩
  obtain ⟨j, hj, rfl⟩ := List.getElem_of_mem hx
  have := (h j hj).1
  rw [getElem!_pos l j hj] at this
  exact decide_eq_true this
theorem con_xAsc (n : Int) (l : List Int) (hl : l.length <= 9223372036854775806) : Con Tryz.prog 39 [vi n, vs 0 l] [] fun r _ => r = vb (ascN n l) := by
 refine Con.intro Tryz.func39 rfl Tryz.ntmps39 Tryz.results39 (by kernel_rfl) (by simp) 0 (by simp) ?_
 simp only [go_sem]
 refine LoopK.intro (fun i : Nat => ⟨35, [(0, vi n), (1, vs 0 l), (7, vs 0 l), (8, vi l.length), (9, vi i)], []⟩)
  (fun i => l.length - i) (fun i => i <= l.length /\ ∀ j, j < i -> ascAt n l j) 0 ⟨Nat.zero_le _, fun j hj => by omega⟩ ?_ ?_
 ·simp only [go_sem]
 rintro i ⟨hi, ha⟩
 by_cases h : i < l.length
 case neg =>
  have e : ascN n l = true := ascN_iff.2 fun j hj => ha j (by omega)
  simp only [go_sem, h, e]
 have hg := getv h
 have hw : IntKind.i64.wrap (i + 1) = i + 1 := wrap_in (by omega) (by omega)
 have hbad : ¬ ascAt n l i -> ascN n l = false := fun hn => by
  rw [Bool.eq_false_iff]
  exact fun e => hn (ascN_iff.1 e i h)
 by_cases h1 : l[i]! < 0
 ·simp only [go_sem, h, hg, h1, hbad (fun hx => by have := hx.1.1; omega)]
 by_cases h2 : n <= l[i]!
 ·simp only [go_sem, h, hg, h1, h2, hbad (fun hx => by have := hx.1.2; omega)]
 have h3 : 0 <= l[i]! /\ l[i]! < n := by omega
 by_cases h0 : (0 : Int) < (i : Int)
 case neg =>
  simp only [go_sem, h, hg, h1, h2, h0, hw]
  refine roundK.intro (i + 1) ⟨by omega, fun j hj => ?_⟩ (by omega) ?_
  ·have : j = i := by omega
   subst this
   exact ⟨h3, fun h => by omega⟩
  ·simp only [go_sem]
 have hk : i - 1 < l.length := by omega
 have hgk := getv hk
 have hw2 : IntKind.i64.wrap ((i : Int) - 1) = ((i - 1 : Nat) : Int) := by rw [wrap_in (by omega) (by omega)]; omega
 by_cases h4 : l[i]! <= l[i - 1]!
 ·simp only [go_sem, h, hg, h1, h2, h0, hw2, hk, hgk, h4, hbad (fun hx => by have := hx.2 (by omega); omega)]
 ·simp only [go_sem, h, hg, h1, h2, h0, hw2, hk, hgk, h4, hw]
  refine roundK.intro (i + 1) ⟨by omega, fun j hj => ?_⟩ (by omega) ?_
  ·by_cases e : j = i
   ·subst e
    exact ⟨h3, fun _ => by omega⟩
   ·exact ha j (by omega)
  ·simp only [go_sem]
def TellsTm (f : FuncId) (caps : List AV) (l : List TmD) (p : TmD -> Bool) : Prop := ∀ x ∈ l, Con Tryz.prog f ([vTm x] ++ caps) [] fun r _ => r = .sc (.bool (p x))
theorem con_indexTm (l : List TmD) (f : FuncId) (caps : List AV) (p : TmD -> Bool) (hc : mapTops (viewV []) caps = caps) (hf : TellsTm f caps l p) (hl : l.length <= 9223372036854775806) : Con Tryz.prog 57 [vPr l, .fn f caps] [] fun r _ => r = vi (findI p l) := by
 refine Con.intro Tryz.func57 rfl Tryz.ntmps57 Tryz.results57 (by kernel_rfl) (by simp) 0 (by simp) ?_
 simp only [go_sem]
 refine LoopK.intro (fun i : Nat => ⟨19, [(0, .sl 0 2 (l.map vTm)), (1, .fn f caps), (7, vi l.length), (8, vi i)], []⟩)
  (fun i => l.length - i) (fun i => i <= l.length /\ ∀ j, j < i -> p l[j]! = false) 0 ⟨by omega, fun j hj => by omega⟩ ?_ ?_
 ·simp only [go_sem]
  all_goals exact leV_refl _
 ·rintro i ⟨hi, hb⟩
  by_cases h : i < l.length
  ·have hg := getTm h
   have hw : IntKind.i64.wrap (i + 1) = i + 1 := wrap_in (by omega) (by omega)
   have hx := hf l[i]! (mem_bangI h)
   simp only [vTm] at hx
   simp only [go_sem, h, hg, List.length_map]
   refine CallU.look hx (by simp only [go_sem]) (by simp only [go_sem, hc]) ?_
   rintro r bx rfl
   cases hp : p l[i]!
   ·simp only [go_sem, hw]
    refine roundK.intro (i + 1) ⟨by omega, fun j hj => ?_⟩ (by omega) ?_
    ·by_cases hji : j = i
     ·subst hji; exact hp
     ·exact hb j (by omega)
    ·simp only [go_sem]
     all_goals exact leV_refl _
   ·simp only [go_sem]
    rw [findI_stop h hb hp]
  ·simp only [go_sem, h]
   rw [findI_none (fun j hj => hb j (by omega))]
theorem con_containsTm (l : List TmD) (f : FuncId) (caps : List AV) (p : TmD -> Bool) (hc : mapTops (viewV []) caps = caps) (hf : TellsTm f caps l p) (hl : l.length <= 9223372036854775806) : Con Tryz.prog 37 [vPr l, .fn f caps] [] fun r _ => r = .sc (.bool (l.any p)) := by
 refine Con.intro Tryz.func37 rfl Tryz.ntmps37 Tryz.results37 (by kernel_rfl) (by simp) 0 (by simp) ?_
 have hx := con_indexTm l f caps p hc hf hl
 simp only [vPr] at hx
 simp only [go_sem]
 refine CallU.look hx (by simp only [go_sem]) (by simp only [go_sem]) ?_
 rintro r bx rfl
 simp only [go_sem, findI_ge]
def termB (n : Int) (t : TmD) : Bool := ascN n t.ls && (t.star || decide (t.ls.length = 1))
def checkX (n : Int) (p : List TmD) : Int := if ¬ (1 <= n /\ n <= 6) then 2 else if 24 < p.length then 1 else if (p.any fun t => !termB n t) = true then 8 else 0
theorem con_xCheck1 (n : Int) (t : TmD) (hl : t.ls.length <= 9223372036854775806) : Con Tryz.prog 38 [vTm t, .fp [vi n] 0] [] fun r _ => r = .sc (.bool (!termB n t)) := by
 refine Con.intro Tryz.func38 rfl Tryz.ntmps38 Tryz.results38 (by kernel_rfl) (by simp) 0 (by simp) ?_
 have ha := con_xAsc n t.ls hl
 simp only [go_sem]
 refine CallU.free ha (by simp only [go_sem]) (by simp only [go_sem]) ?_
 rintro r bx rfl
 unfold termB
 cases h1 : ascN n t.ls with
 | false => simp only [go_sem, Bool.false_and]
 | true =>
  cases h2 : t.star with
  | true => simp only [go_sem, Bool.true_and, Bool.true_or]
  | false =>
   by_cases h3 : t.ls.length = 1
   ·have h4 : ((t.ls.length : Int) != 1) = false := by rw [h3]; rfl
    simp only [go_sem, h3, decide_true, Bool.true_and, Bool.false_or]
   ·have h4 : ((t.ls.length : Int) != 1) = true := bne_iff_ne.2 (by omega)
    simp only [go_sem, h3, h4, decide_false, Bool.true_and, Bool.false_or]
theorem con_xNumber (n : Int) : Con Tryz.prog 36 [vi n] [] fun r _ => r = vb (decide (1 <= n /\ n <= 6)) := by
 refine Con.intro Tryz.func36 rfl Tryz.ntmps36 Tryz.results36 (by kernel_rfl) (by simp) 0 (by simp) ?_
 by_cases h1 : 1 <= n
 ·by_cases h2 : n <= 6
  ·simp only [go_sem, h1, h2, and_self, decide_true]
  ·simp only [go_sem, h1, h2, and_false, decide_false]
 ·simp only [go_sem, h1, false_and, decide_false]
theorem con_xCheck (n : Int) (p : List TmD) (hp : p.length <= 9223372036854775806) (hl : ∀ t ∈ p, t.ls.length <= 9223372036854775806) : Con Tryz.prog 11 [vi n, vPr p] [] fun r _ => r = vi (checkX n p) := by
 refine Con.intro Tryz.func11 rfl Tryz.ntmps11 Tryz.results11 (by kernel_rfl) (by simp) 0 (by simp) ?_
 have hx := con_containsTm p 38 [.fp [vi n] 0] (fun t => !termB n t) (by simp only [go_sem]) (fun t ht => con_xCheck1 n t (hl t ht)) hp
 simp only [vPr] at hx
 unfold checkX
 simp only [go_sem]
 refine CallU.free (con_xNumber n) (by simp only [go_sem]) (by simp only [go_sem]) ?_
 rintro r bx rfl
 by_cases h1 : 1 <= n /\ n <= 6
 case neg => simp only [go_sem, h1, decide_false, not_false_iff, if_true]
 simp only [h1, and_self, decide_true, not_true, if_false]
 by_cases h2 : 24 < p.length
 ·have h3 : (24 : Int) < (p.length : Int) := by omega
  simp only [go_sem, h2, h3, List.length_map, if_true]
 have h3 : ¬ (24 : Int) < (p.length : Int) := by omega
 simp only [go_sem, h3, List.length_map, if_false]
 refine CallU.look hx (by simp only [go_sem]) (by simp only [go_sem]) ?_
 rintro r bx rfl
 cases h4 : p.any fun t => !termB n t with
 | true => simp only [go_sem, h2, if_true, if_false]
 | false => simp only [go_sem, h2, Bool.false_eq_true, if_false]
theorem con_xWithin1 (u : TmD) (x : Int) (hl : u.ls.length <= 9223372036854775806) : Con Tryz.prog 102 [vi x, .fp [vb u.star, vs 0 u.ls] 0] [] fun r _ => r = .sc (.bool (!decide (x ∈ u.ls))) := by
 refine Con.intro Tryz.func102 rfl Tryz.ntmps102 Tryz.results102 (by kernel_rfl) (by simp) 0 (by simp) ?_
 have e : (u.ls.any fun y => x == y) = decide (x ∈ u.ls) := by
  rw [Bool.eq_iff_iff, List.any_eq_true, decide_eq_true_eq]
  constructor
  ·rintro ⟨y, hy, h⟩; rw [beq_iff_eq.1 h]; exact hy
  ·intro h; exact ⟨x, h, beq_self_eq_true _⟩
 have hc := con_mxContains u.ls x hl
 rw [e] at hc
 simp only [go_sem]
 refine CallU.free hc (by simp only [go_sem]) (by simp only [go_sem]) ?_
 rintro r bx rfl
 simp only [go_sem]
theorem con_xWithin (t u : TmD) (ht : t.ls.length <= 1000000) (hu : u.ls.length <= 1000000) (hs : u.star = false -> u.ls ≠ []) : Con Tryz.prog 75 [vTm t, vTm u] [] fun r _ => r = vb (witT t u) := by
 refine Con.intro Tryz.func75 rfl Tryz.ntmps75 Tryz.results75 (by kernel_rfl) (by simp) 0 (by simp) ?_
 have hx := con_containsInt t.ls 102 [.fp [vb u.star, vs 0 u.ls] 0] (fun x => !decide (x ∈ u.ls)) (by simp only [go_sem]) (fun x _ => con_xWithin1 u x (by omega)) (by omega)
 unfold witT
 cases h1 : u.star with
 | true =>
  have e : (t.ls.all fun x => decide (x ∈ u.ls)) = !(t.ls.any fun x => !decide (x ∈ u.ls)) := by
   rw [List.not_any_eq_all_not]; congr 1; funext x; simp
  rw [h1] at hx
  rw [if_pos rfl, e]
  simp only [go_sem, h1]
  refine CallU.look hx (by simp only [go_sem]) (by simp only [go_sem]) ?_
  rintro r bx rfl
  simp only [go_sem]
 | false =>
  rw [if_neg (by simp)]
  cases hut : u.ls with
  | nil => exact absurd hut (hs h1)
  | cons y ul =>
  cases htl : t.ls with
  | nil =>
   simp only [go_sem, h1, htl]
   refine DrawK.walk 20 mixed (by kernel_rfl) ?_
   simp only [go_sem, List.isEmpty_nil, Bool.true_or]
  | cons x tl =>
   have h0 : ((tl.length : Int) + 1 == 0) = false := beq_eq_false_iff_ne.2 (by omega)
   have hz : (some x == some y) = (x == y) := rfl
   cases h2 : t.star with
   | true =>
    simp only [go_sem, h1, h2]
    refine DrawK.walk 20 mixed (by kernel_rfl) ?_
    simp only [go_sem, h0, htl, List.isEmpty_cons, Bool.not_true, Bool.false_and, Bool.or_false]
   | false =>
    simp only [go_sem, h1, h2]
    refine DrawK.walk 20 mixed (by kernel_rfl) ?_
    simp only [go_sem, h0, htl, hut, List.isEmpty_cons, Bool.not_false, Bool.true_and, Bool.false_or, List.head?_cons, hz]
    exact ⟨by omega, by omega⟩
def xleqTree : Tr := .front 0 (.front 2 (.alt (.one 1 (.alt (.one 3 (.one 4 (.one 5 .done))) (.one 4 (.one 3 (.one 5 .done))))) (.one 3 (.one 1 (.one 4 (.one 5 .done))))))
theorem drop_tm (p : List TmD) (n : Nat) : (p.map vTm).drop n = (p.drop n).map vTm := by rw [List.map_drop]
theorem con_xleq (p0 q0 : List TmD) (hp0 : OkP p0) (hq0 : OkP q0) (hpl : p0.length <= 1000000) (hql : q0.length <= 1000000) (hp1 : ∀ t ∈ p0, t.ls.length <= 1000000) (hq1 : ∀ t ∈ q0, t.ls.length <= 1000000) :
  Con Tryz.prog 40 [vPr p0, vPr q0] [] fun r _ => r = vb (leqP p0 q0) := by
 refine Con.intro Tryz.func40 rfl Tryz.ntmps40 Tryz.results40 (by kernel_rfl) (by simp) 0 (by simp) ?_
 simp only [go_sem]
 refine LoopK.intro (fun x : List TmD × List TmD => ⟨43, [(0, .sl 0 2 (x.1.map vTm)), (1, .sl 0 2 (x.2.map vTm))], []⟩)
  (fun x => x.1.length + x.2.length) (fun x => leqP x.1 x.2 = leqP p0 q0 /\ (OkP x.1 /\ OkP x.2) /\ (x.1.length <= 1000000 /\ x.2.length <= 1000000) /\ (∀ t ∈ x.1, t.ls.length <= 1000000) /\ (∀ t ∈ x.2, t.ls.length <= 1000000)) (p0, q0) ⟨rfl, ⟨hp0, hq0⟩, ⟨hpl, hql⟩, hp1, hq1⟩ ?_ ?_
 ·simp only [go_sem]
 rintro ⟨p, q⟩ ⟨he, ⟨hp, hq⟩, ⟨hpl, hql⟩, hp1, hq1⟩
 simp only at he hp hq hpl hql hp1 hq1
 clear hp0 hq0
 rw [<- he]
 clear he
 cases p with
 | nil =>
  rw [leqP_nil]
  simp only [go_sem, List.map_nil, List.length_nil]
 | cons t p =>
  simp only [List.length_cons] at hpl
  have hpos : (0 : Int) < (p.length : Int) + 1 := by omega
  have hone : (1 : Int) <= (p.length : Int) + 1 := by omega
  have htk : ∀ l : List TmD, (l.map vTm).take l.length = l.map vTm := fun l => List.take_of_length_le (by simp)
  have hpt : ∀ x ∈ p, x.ls.length <= 1000000 := fun x hx => hp1 x (by simp [hx])
  by_cases h1 : t.ls = []
  ·have e : leqP p q = leqP (t :: p) q := by
    cases q with
    | nil => rw [leqP_none, h1]; rfl
    | cons u q => rw [leqP_cons, if_pos (nil_iff.2 h1)]
   simp only [go_sem, h1, hpos, htk, List.map_cons, List.map_nil, List.length_cons, List.length_map, List.length_nil]
   refine ⟨Nat.le_refl _, ?_⟩
   refine roundK.intro (p, q) ⟨e, ⟨hp.tail, hq⟩, ⟨by show p.length <= _; omega, hql⟩, hpt, hq1⟩ (by simp only [List.length_cons]; omega) ?_
   simp only [go_sem]
  have h0 : ((t.ls.length : Int) == 0) = false := beq_eq_false_iff_ne.2 fun h => h1 (List.length_eq_zero_iff.1 (by omega))
  have h1' : ¬ t.ls.isEmpty = true := by rw [nil_iff]; exact h1
  cases q with
  | nil =>
   have e : leqP (t :: p) [] = false := by rw [leqP_none]; cases h : t.ls <;> simp_all
   rw [e]
   simp only [go_sem, h0, hpos, List.map_cons, List.map_nil, List.length_cons, List.length_map, List.length_nil]
  | cons u q =>
   simp only [List.length_cons] at hql
   have hqpos : (0 : Int) < (q.length : Int) + 1 := by omega
   have hq0 : ((q.length : Int) + 1 == 0) = false := beq_eq_false_iff_ne.2 (by omega)
   have hqt : ∀ x ∈ q, x.ls.length <= 1000000 := fun x hx => hq1 x (by simp [hx])
   have hw := con_xWithin t u (hp1 t (by simp)) (hq1 u (by simp)) (fun h => by obtain ⟨y, hy⟩ := hq.head.one h; rw [hy]; simp)
   have e := leqP_cons t u p q
   rw [if_neg h1'] at e
   simp only [vTm] at hw
   simp only [go_sem, h0, hpos, hq0, List.map_cons, List.length_cons, List.length_map]
   refine DrawK.walk 8 mixed (by kernel_rfl) ?_
   simp only [go_sem, hpos, hqpos, List.length_cons, List.length_map]
   refine CallY.mk hw (by simp only [go_sem]) (by simp only [go_sem]) (.inl (by simp only [go_sem])) ?_
   cases h2 : witT t u with
   | false =>
    rw [h2, if_pos (show (!false) = true from rfl)] at e
    simp only [go_sem, htk, List.length_cons, List.length_map]
    refine ⟨Nat.le_refl _, ?_⟩
    refine roundK.intro (t :: p, q) ⟨e.symm, ⟨hp, hq.tail⟩, ⟨by simp only [List.length_cons]; omega, by show q.length <= _; omega⟩, hp1, hqt⟩ (by simp only [List.length_cons]; omega) ?_
    simp only [go_sem, List.map_cons]
   | true =>
    rw [h2, if_neg (by simp)] at e
    cases h3 : u.star with
    | true =>
     rw [if_pos h3] at e
     simp only [go_sem, hqpos, htk, List.length_cons, List.length_map]
     refine ⟨Nat.le_refl _, ?_⟩
     refine roundK.intro (p, u :: q) ⟨e.symm, ⟨hp.tail, hq⟩, ⟨by show p.length <= _; omega, by simp only [List.length_cons]; omega⟩, hpt, hq1⟩ (by simp only [List.length_cons]; omega) ?_
     simp only [go_sem, h3, List.map_cons]
    | false =>
     rw [if_neg (by simp [h3])] at e
     simp only [go_sem, hqpos, htk, List.length_cons, List.length_map]
     refine DrawK.meet ⟨43, [(0, .sl 0 2 (p.map vTm)), (1, .sl 0 2 (q.map vTm))], []⟩ ?_ ?_
     ·refine DrawK.tree xleqTree mixed (by kernel_rfl) ?_
      unfold xleqTree
      simp only [go_sem, htk, Nat.le_refl, List.length_cons, List.length_map]
     simp only [go_sem]
     refine roundK.intro (p, q) ⟨e.symm, ⟨hp.tail, hq.tail⟩, ⟨by show p.length <= _; omega, by show q.length <= _; omega⟩, hpt, hqt⟩ (by simp only [List.length_cons]; omega) ?_
     simp only [go_sem]
theorem Con.frozX {P : Program} {f : FuncId} {args : List AV} {y : AV} (h : Con P f args [] fun r _ => leV (r.freeze fun _ => true) y) : Con P f args [] fun r _ => r = y :=
 (Con.freezeR (fun _ => true) h).weak fun r b ⟨r0, h0, h1⟩ => by
  subst h1
  exact ⟨_, rfl, h0⟩
theorem con_xOf (w : List Int) (hl : w.length <= 1000000) : Con Tryz.prog 50 [vs 0 w] [] fun r _ => r = vPr (ofW w) := by
 refine Con.frozX ?_
 refine Con.intro Tryz.func50 rfl Tryz.ntmps50 Tryz.results50 (by kernel_rfl) (by simp) 0 (by simp) ?_
 simp only [go_sem]
 refine LoopK.intro (fun i : Nat => ⟨20, [(3, .sl 1152 2 ((ofW (w.take i)).map vTm)), (6, vs 0 w), (7, vi w.length), (8, vi i)], []⟩)
  (fun i => w.length - i) (fun i => i <= w.length) 0 (Nat.zero_le _) ?_ ?_
 ·simp only [go_sem, List.take_zero, ofW, List.map_nil]
  all_goals exact leB_self _
 rintro i hi
 by_cases h : i < w.length
 ·have hg := getv h
  have hw : IntKind.i64.wrap (i + 1) = i + 1 := wrap_in (by omega) (by omega)
  have e : (ofW (w.take (i + 1))).map vTm = (ofW (w.take i)).map vTm ++ [.ag [vb false, .sl 0 1 [vi w[i]!]]] := by
   rw [List.take_succ_eq_append_getElem h, <- getElem!_pos w i h]; unfold ofW; rw [List.map_append, List.map_append]; rfl
  have hlen : (ofW (w.take i)).length = i := by unfold ofW; rw [List.length_map, List.length_take]; omega
  simp only [go_sem, h, hg, hw]
  refine ⟨by simp only [roomFor, hlen]; omega, ?_⟩
  refine roundK.intro (i + 1) (by omega) (by omega) ?_
  simp only [go_sem, e]
  all_goals exact leB_self _
 ·have e : w.take i = w := List.take_of_length_le (by omega)
  simp only [go_sem, h, e]
  exact leV_refl _
def validW (w : List Int) : Bool := decide (w.length <= 12) && w.all fun x => decide (0 <= x /\ x < 16)
theorem con_xValid1 (x : Int) : Con Tryz.prog 80 [vi x] [] fun r _ => r = .sc (.bool (!decide (0 <= x /\ x < 16))) := by
 refine Con.intro Tryz.func80 rfl Tryz.ntmps80 Tryz.results80 (by kernel_rfl) (by simp) 0 (by simp) ?_
 by_cases h1 : x < 0
 ·have e : ¬ (0 <= x /\ x < 16) := by omega
  simp only [go_sem, h1, e, decide_false, Bool.not_false]
 ·by_cases h2 : 16 <= x
  ·have e : ¬ (0 <= x /\ x < 16) := by omega
   simp only [go_sem, h1, h2, e, decide_false, Bool.not_false]
  ·have e : 0 <= x /\ x < 16 := by omega
   simp only [go_sem, h1, h2, e, and_self, decide_true, Bool.not_true]
theorem con_xValid (w : List Int) (hl : w.length <= 1000000) : Con Tryz.prog 49 [vs 0 w] [] fun r _ => r = vb (validW w) := by
 refine Con.intro Tryz.func49 rfl Tryz.ntmps49 Tryz.results49 (by kernel_rfl) (by simp) 0 (by simp) ?_
 have hx := con_containsInt w 80 [] (fun x => !decide (0 <= x /\ x < 16)) (by simp only [go_sem]) (fun x _ => con_xValid1 x) (by omega)
 have e : (w.all fun x => decide (0 <= x /\ x < 16)) = !(w.any fun x => !decide (0 <= x /\ x < 16)) := by
  rw [List.not_any_eq_all_not]; congr 1; funext x; simp
 unfold validW
 rw [e]
 by_cases h1 : w.length <= 12
 ·have h2 : (w.length : Int) <= 12 := by omega
  simp only [go_sem, h2]
  refine CallU.look hx (by simp only [go_sem]) (by simp only [go_sem]) ?_
  rintro r bx rfl
  simp only [go_sem, h1, decide_true, Bool.true_and]
 ·have h2 : ¬ (w.length : Int) <= 12 := by omega
  simp only [go_sem, h1, h2, decide_false, Bool.false_and]
theorem asc_low {n : Int} {l : List Int} (h : ascN n l = true) : ∀ j, j < l.length -> (j : Int) <= l[j]!
 | 0, hj => ((ascN_iff.1 h) 0 hj).1.1
 | j + 1, hj => by
  have h1 := asc_low h j (by omega)
  have h2 := ((ascN_iff.1 h) (j + 1) hj).2 (by omega)
  simp only [Nat.add_sub_cancel] at h2
  omega
theorem asc_len {n : Int} {l : List Int} (h : ascN n l = true) : (l.length : Int) <= n \/ l = [] := by
 by_cases h0 : l.length = 0
 ·exact .inr (List.length_eq_zero_iff.1 h0)
 ·have h1 := asc_low h (l.length - 1) (by omega)
  have h2 := ((ascN_iff.1 h) (l.length - 1) (by omega)).1.2
  omega
structure ValidP (n : Int) (p : List TmD) : Prop where
 num : 1 <= n /\ n <= 6
 few : p.length <= 24
 ok : OkP p
 letters : ∀ t ∈ p, ∀ x ∈ t.ls, 0 <= x /\ x < n
 short : ∀ t ∈ p, t.ls.length <= 6
theorem term_ok {n : Int} {t : TmD} (h : termB n t = true) : t.Ok /\ ∀ x ∈ t.ls, 0 <= x /\ x < n := by
 unfold termB ascN at h
 simp only [Bool.and_eq_true, Bool.or_eq_true, decide_eq_true_eq, List.all_eq_true] at h
 refine ⟨⟨fun hs => ?_, h.1.2⟩, h.1.1⟩
 rcases h.2 with h2 | h2
 ·rw [hs] at h2; cases h2
 ·match ht : t.ls, h2 with
  | [x], _ => exact ⟨x, rfl⟩
theorem ok_term {n : Int} {t : TmD} (h : t.Ok) (hx : ∀ x ∈ t.ls, 0 <= x /\ x < n) : termB n t = true := by
 unfold termB ascN
 simp only [Bool.and_eq_true, Bool.or_eq_true, decide_eq_true_eq, List.all_eq_true]
 refine ⟨⟨hx, h.asc⟩, ?_⟩
 cases hs : t.star with
 | true => exact .inl rfl
 | false =>
  obtain ⟨x, e⟩ := h.one hs
  exact .inr (by rw [e]; rfl)
theorem check_zero {n : Int} {p : List TmD} : checkX n p = 0 ↔ ValidP n p := by
 unfold checkX
 constructor
 ·intro h
  split at h
  ·omega
  rename_i h1
  split at h
  ·omega
  rename_i h2
  split at h
  ·omega
  rename_i h3
  have h1 : 1 <= n /\ n <= 6 := Classical.byContradiction h1
  have h4 : ∀ t ∈ p, termB n t = true := fun t ht => by
   cases hb : termB n t with
   | true => rfl
   | false => exact absurd (List.any_eq_true.2 ⟨t, ht, by rw [hb]; rfl⟩) h3
  refine ⟨h1, by omega, fun t ht => (term_ok (h4 t ht)).1, fun t ht => (term_ok (h4 t ht)).2, fun t ht => ?_⟩
  have h5 := h4 t ht
  unfold termB at h5
  rw [Bool.and_eq_true] at h5
  rcases asc_len h5.1 with h6 | h6
  ·omega
  ·rw [h6]; simp
 ·intro h
  have h1 := h.num; have h2 := h.few
  rw [if_neg (fun hn => hn h1), if_neg (by omega), if_neg]
  rw [List.any_eq_true]
  rintro ⟨t, ht, hb⟩
  rw [ok_term (h.ok t ht) (h.letters t ht)] at hb
  cases hb
theorem ValidP.long {n : Int} {p : List TmD} (h : ValidP n p) : ∀ t ∈ p, t.ls.length <= 1000000 := fun t ht => by have := h.short t ht; omega
structure LenP (p : List TmD) : Prop where
 len : p.length <= 1000000
 terms : ∀ t ∈ p, t.ls.length <= 1000000
theorem con_xCheckL (n : Int) (p : List TmD) (h : LenP p) : Con Tryz.prog 11 [vi n, vPr p] [] fun r _ => r = vi (checkX n p) :=
 con_xCheck n p (by have := h.len; omega) fun t ht => by have := h.terms t ht; omega
def hasX (n : Int) (p : List TmD) (w : List Int) : Bool := (checkX n p == 0) && validW w && memP p w
theorem con_xHas (n : Int) (p : List TmD) (w : List Int) (hp : LenP p) (hw : w.length <= 1000000) : Con Tryz.prog 18 [vi n, vPr p, vs 0 w] [] fun r _ => r = vb (hasX n p w) := by
 refine Con.intro Tryz.func18 rfl Tryz.ntmps18 Tryz.results18 (by kernel_rfl) (by simp) 0 (by simp) ?_
 have hc := con_xCheckL n p hp
 have ho := con_xOf w hw
 simp only [vPr] at hc ho
 unfold hasX
 simp only [go_sem]
 refine CallU.free hc (by simp only [go_sem]) (by simp only [go_sem]) ?_
 rintro r bx rfl
 by_cases h1 : checkX n p = 0
 case neg =>
  have h1' : (checkX n p == 0) = false := beq_eq_false_iff_ne.2 h1
  simp only [go_sem, h1', Bool.false_and]
 have hv := check_zero.1 h1
 have h1' : (checkX n p == 0) = true := beq_iff_eq.2 h1
 simp only [go_sem, h1']
 refine CallU.free (con_xValid w hw) (by simp only [go_sem]) (by simp only [go_sem]) ?_
 rintro r bx rfl
 cases h2 : validW w with
 | false => simp only [go_sem, Bool.and_false, Bool.false_and]
 | true =>
  have hq := con_xleq (ofW w) p (ofW_ok w) hv.ok (by unfold ofW; rw [List.length_map]; exact hw) hp.len (fun t ht => by obtain ⟨x, _, rfl⟩ := List.mem_map.1 ht; simp) hp.terms
  rw [leqP_of hv.ok] at hq
  simp only [vPr] at hq
  simp only [go_sem]
  refine CallU.free ho (by simp only [go_sem]) (by simp only [go_sem]) ?_
  rintro r bx rfl
  simp only [go_sem]
  refine CallU.free hq (by simp only [go_sem]) (by simp only [go_sem]) ?_
  rintro r bx rfl
  simp only [go_sem, h1', Bool.true_and, Bool.and_true]
def leqX (n : Int) (p q : List TmD) : Bool := (checkX n p == 0) && (checkX n q == 0) && leqP p q
theorem con_xLeq (n : Int) (p q : List TmD) (hp : LenP p) (hq : LenP q) : Con Tryz.prog 13 [vi n, vPr p, vPr q] [] fun r _ => r = vb (leqX n p q) := by
 refine Con.intro Tryz.func13 rfl Tryz.ntmps13 Tryz.results13 (by kernel_rfl) (by simp) 0 (by simp) ?_
 have hc := con_xCheckL n p hp
 have hd := con_xCheckL n q hq
 simp only [vPr] at hc hd
 unfold leqX
 simp only [go_sem]
 refine CallU.free hc (by simp only [go_sem]) (by simp only [go_sem]) ?_
 rintro r bx rfl
 by_cases h1 : checkX n p = 0
 case neg =>
  have h1' : (checkX n p == 0) = false := beq_eq_false_iff_ne.2 h1
  simp only [go_sem, h1', Bool.false_and]
 have hv := check_zero.1 h1
 have h1' : (checkX n p == 0) = true := beq_iff_eq.2 h1
 simp only [go_sem, h1']
 refine CallU.free hd (by simp only [go_sem]) (by simp only [go_sem]) ?_
 rintro r bx rfl
 by_cases h2 : checkX n q = 0
 case neg =>
  have h2' : (checkX n q == 0) = false := beq_eq_false_iff_ne.2 h2
  simp only [go_sem, h2', Bool.false_and, Bool.and_false]
 have hu := check_zero.1 h2
 have h2' : (checkX n q == 0) = true := beq_iff_eq.2 h2
 have hx := con_xleq p q hv.ok hu.ok hp.len hq.len hp.terms hq.terms
 simp only [vPr] at hx
 simp only [go_sem, h2']
 refine CallU.free hx (by simp only [go_sem]) (by simp only [go_sem]) ?_
 rintro r bx rfl
 simp only [go_sem, h1', h2', Bool.true_and]
end Go.AM
set_option linter.unusedVariables false
namespace Go.AM
open Go Go.Proofs Go.RowKit Go.Lib
set_option maxRecDepth 100000
set_option maxHeartbeats 8000000
theorem cell_row {w : World} {g : Nat} {cur : Array Value} {e : TypeId} (hg : w.heap[g]? = some (.cells cur e (0, 0))) {k : Nat} {v : Value} (h : cur[k]? = some v) : w.cell? ⟨g, k, none⟩ = some v := by
 simp [World.cell?, hg, h]
theorem addr_add (g o j : Nat) : (⟨g, o, none⟩ : Addr).add j = ⟨g, o + j, none⟩ := by unfold Addr.add; split <;> simp_all
theorem own_row {G : Nat -> Status} {w : World} {t : Nat} {xs : List AV} {v : Value} (h : VRel G w (.sl t 2 xs) v) (ht : 2 <= t) (h0 : 0 < xs.length) :
  ∃ g cap cur e, v = .slice (some ⟨g, 0, none⟩) xs.length cap /\ G g = .tag t /\ w.heap[g]? = some (.cells cur e (0, 0)) /\ xs.length <= cap /\ cap <= maxLen /\ cur.size = cap * 2 /\
   (∀ x ∈ xs, x.cells.length = 2) /\ One (cur.toList.take (xs.length * 2)) /\ PW (FRel (Stable G) w) (flat xs) (cur.toList.take (xs.length * 2)) := by
 cases h with
 | froz h => exfalso; cases h <;> omega
 | own _ _ _ _ e vals _ h2 h3 h4 h5 h6 =>
  rcases h2.2 with ⟨_, hz⟩ | ⟨g, cap, cur, hv, _, hh, hn, hc, hs, ht⟩
  ·omega
  ·subst ht
   exact ⟨g, cap, cur, e, hv, h3 g (by rw [hv]; rfl), hh, hn, hc, hs, h4, h5, h6⟩
theorem flat_app' (xs ys : List AV) : flat (xs ++ ys) = flat xs ++ flat ys := by unfold flat; rw [List.flatMap_append]
theorem append_roomN {P : Program} (w : World) (t ty e te : TypeId) (i : TypeInfo) (ht : P.underlying t = some (.slice e)) (hi : P.info? e = some i)
  (g sLen sCap : Nat) (cur : Array Value) (hg : w.heap[g]? = some (.cells cur te (0, 0)))
  (a : Addr) (m c : Nat) (news : List Value) (hl : news.length = m * i.size) (hnews : ∀ j u, news[j]? = some u -> w.cell? (a.add j) = some u) (h1 : ∀ u ∈ news, u.oneCell' = true)
  (hroom : sLen + m <= sCap) (hfit : sLen * i.size + news.length <= cur.size) :
  (Builtin.append_ #[t, t] ty #[.slice (some ⟨g, 0, none⟩) sLen sCap, .slice (some a) m c]).run P w =
   .ok (.slice (some ⟨g, 0, none⟩) (sLen + m) sCap) (w.setRow g (cur.toList.take (sLen * i.size) ++ news ++ cur.toList.drop (sLen * i.size + news.length)).toArray) := by
 have hf := run_firstCells_some (P := P) w i.size m a m c news hl hnews
 have hst := run_storeCells_at P g (sLen * i.size) te news 0 cur w hg (by simpa using hfit) h1
 simp only [Nat.add_zero] at hst
 simp [Builtin.append_, run_underlying ht, sizeOf, typeInfo, hi, Builtin.lenOf, hroom, hf, Addr.add_lit, hst]
theorem row_here {G : Nat -> Status} {w w' : World} {g cap n : Nat} {row : Array Value} {e : TypeId} {vals : List Value} {xs : List AV} {e1 : Ending} (hgood : Good G w) (hnb : ∀ b i, G b ≠ .box i) (hGg : G g = .tag 2)
  (he : e1 = .returned (.slice (some ⟨g, 0, none⟩) n cap)) (hbg : w'.heap[g]? = some (.cells row e (0, 0))) (hb : ∀ b, b ≠ g -> w'.heap[b]? = w.heap[b]?) (hsz : w'.heap.size = w.heap.size) (hw4 : w'.os = w.os) (hw5 : w'.tape = w.tape) (hw6 : w'.output = w.output)
  (hn : n <= cap) (hm : cap <= maxLen) (hrs : row.size = cap * 2) (hrt : row.toList.take (n * 2) = vals) (hxl : xs.length = n) (hx : ∀ x ∈ xs, x.cells.length = 2) (hone : One vals) (hpw : PW (FRel (Stable G) w) (flat xs) vals) (hvl : vals.length = n * 2) :
  ∃ v r G', e1 = .returned v /\ r = AV.sl 2 2 xs /\ VRel G' w' r v /\ Good G' w' /\ (∀ b i, G' b ≠ .box i) /\
   w'.os = w.os /\ w'.tape = w.tape /\ w'.output = w.output /\ w.heap.size <= w'.heap.size /\ (∀ b, b < w.heap.size -> (∀ t, G b ≠ .tag t) -> G' b = G b) /\ (∀ b, b < w.heap.size -> (∀ t, G b ≠ .tag t) -> w'.heap[b]? = w.heap[b]?) := by
 subst hxl
 refine ⟨_, _, G, he, rfl, ?_, ⟨fun b hb' => by rw [hsz]; exact hgood.lt b hb', hgood.tags, hgood.boxes⟩, hnb, hw4, hw5, hw6, by omega, fun _ _ _ => rfl, fun b _ hn' => hb b fun h => by subst h; exact hn' 2 hGg⟩
 refine .own 2 2 _ _ e _ (by omega) ⟨hvl, .inr ⟨g, cap, row, rfl, Nat.zero_le _, hbg, hn, hm, hrs, hrt⟩⟩ (fun b hb' => by simp only [Value.ownBlock, Option.some.injEq] at hb'; rw [<- hb']; exact hGg) hx hone ?_
 refine hpw.mono fun x v _ hf => hf.mono (fun _ h => h) fun b hb' => hb b fun h => ?_
 subst h
 unfold Stable at hb'
 rw [hGg] at hb'; cases hb'
theorem step_append_runX {P : Program} {ops : Array Oper} {o : Oper} {a : Act} {w : World} {K : Act -> World -> Prop} {Q : Exit -> Act -> World -> Prop} {E : Prop}
  (hg : o.guard = none) (d x : Operand) (dT sT : TypeId) (hop : o.op = Op.call { callee := Callee.builtin Builtin.append, args := #[d, x], argTypes := #[dT, sT] })
  (v u : Value) (hd : a.eval d = v) (hx : a.eval x = u) {v' : Value} {w' : World} (hr : (Builtin.append_ #[dT, sT] o.type #[v, u]).run P w = .ok v' w') (hK : K (a.put o.dst v') w') :
  if Region.wanted o (yielded ops a.tmps) = true then Oper.wp P o a w K Q else E := by
 have hw : Region.wanted o (yielded ops a.tmps) = true := by simp [Region.wanted, hg]
 rw [if_pos hw]
 unfold Oper.wp execOp
 simp only [hop, resolve, invoke, builtin, Sem.run_bind, Sem.run_pure, Result.andThen_ok, List.map_toArray, List.map_cons, List.map_nil, hd, hx, hr]
 exact hK
theorem wpList_clear_runX {P : Program} (w : World) {ops : Array Oper} {rest : List Oper} {o : Oper} {a : Act} {Q : Exit -> Act -> World -> Prop} (hgd : o.guard = none) (d : Operand) (t : TypeId)
  (ho : o.op = .call { callee := .builtin .clear, args := #[d], argTypes := #[t] }) (v : Value) (hd : a.eval d = v) {v' : Value} {w' : World}
  (hr : (Builtin.clear_ #[t] o.type #[v]).run P w = .ok v' w') (h : wpList P ops Q rest (a.put o.dst v') w') : wpList P ops Q (o :: rest) a w :=
 wpList_plain hgd fun _ hK => by
  unfold Oper.wp execOp
  simp only [ho, resolve, invoke, builtin, Sem.run_bind, Sem.run_pure, Result.andThen_ok, List.map_toArray, List.map_cons, List.map_nil, hd, hr]
  exact hK _ _ h
def delRowB (cur : Array Value) (n i : Nat) : Array Value := (cur.toList.take (i * 2) ++ (cur.toList.take (n * 2)).drop ((i + 1) * 2) ++ cur.toList.drop (i * 2 + ((cur.toList.take (n * 2)).drop ((i + 1) * 2)).length)).toArray
def clrRowB (cur : Array Value) (n : Nat) (us : List Value) : Array Value := (cur.toList.take ((n - 1) * 2) ++ us ++ cur.toList.drop ((n - 1) * 2 + us.length)).toArray
theorem del_one (g n cap i : Nat) (cur : Array Value) (e : TypeId) (w : World)
  (hg : w.heap[g]? = some (.cells cur e (0, 0))) (hcap : cur.size = cap * 2) (hn : n <= cap) (hm : cap <= maxLen) (hi : i < n) (h1c : ∀ v ∈ cur.toList.take (n * 2), v.oneCell' = true) :
  Calls Tryz.prog 83 #[.slice (some ⟨g, 0, none⟩) n cap, .int .i64 i, .int .i64 ((i : Int) + 1)] w fun e' w' =>
   e' = .returned (.slice (some ⟨g, 0, none⟩) (n - 1) cap) /\ w' = (w.drew.setRow g (delRowB cur n i)).setRow g (clrRowB (delRowB cur n i) n [.bool false, .slice none 0 0]) := by
 have u27 : Tryz.prog.underlying 23 = some (TypeDesc.slice 57) := by kernel_rfl
 obtain ⟨ti, hti, hts, htb, htz⟩ := tinfo_some (show tinfo Tryz.prog 57 = some (2, 32, some (Value.agg (List.toArray [Value.bool false, Value.slice none 0 0]))) by kernel_rfl)
 have hm63 : cap <= 9223372036854775807 := by unfold maxLen at hm; omega
 have mixed : Tryz.prog.follows .mixedOrders = true := by kernel_rfl
 have hcl : ((cur.toList.take (n * 2)).drop ((i + 1) * 2)).length = (n - (i + 1)) * 2 := by
  rw [List.length_drop, List.length_take, Array.length_toList, hcap, Nat.min_eq_left (by omega)]; omega
 obtain ⟨A, hA, hsrc⟩ : ∃ A : Addr, (if cap = i + 1 then some (⟨g, 0, none⟩ : Addr) else some ⟨g, (i + 1) * 2, none⟩) = some A /\ ∀ (j : Nat) (u : Value), ((cur.toList.take (n * 2)).drop ((i + 1) * 2))[j]? = some u -> w.drew.cell? (A.add j) = some u := by
  by_cases h : cap = i + 1
  ·refine ⟨⟨g, 0, none⟩, by simp [h], fun t u hu => ?_⟩
   have h0 : ((cur.toList.take (n * 2)).drop ((i + 1) * 2)).length = 0 := by rw [hcl]; omega
   rw [List.length_eq_zero_iff.1 h0] at hu
   simp at hu
  ·refine ⟨⟨g, (i + 1) * 2, none⟩, by simp [h], fun j v hj => ?_⟩
   rw [addr_add]
   refine cell_row (w := w.drew) hg ?_
   rw [List.getElem?_drop, List.getElem?_take] at hj
   split at hj
   ·rw [<- Array.getElem?_toList]; exact hj
   ·cases hj
 have hgd : w.drew.heap[g]? = some (.cells cur e (0, 0)) := hg
 have hap : ∀ ty c, (Builtin.append_ #[23, 23] ty #[.slice (some ⟨g, 0, none⟩) i cap, .slice (some A) (n - (i + 1)) c]).run Tryz.prog w.drew = .ok (.slice (some ⟨g, 0, none⟩) (i + (n - (i + 1))) cap) (w.drew.setRow g (delRowB cur n i)) := fun ty c => by
  have h := append_roomN (P := Tryz.prog) w.drew 23 ty 57 e ti u27 hti g i cap cur hgd A (n - (i + 1)) c ((cur.toList.take (n * 2)).drop ((i + 1) * 2)) (by rw [hcl, hts]) hsrc (fun u hu => h1c u (List.mem_of_mem_drop hu)) (by omega) (by rw [hcl, hts, hcap]; omega)
  rw [hts] at h
  exact h
 have hrs : (delRowB cur n i).size = cap * 2 := by
  unfold delRowB
  rw [List.size_toArray, List.length_append, List.length_append, hcl, List.length_take, List.length_drop, Array.length_toList, hcap, Nat.min_eq_left (by omega)]; omega
 have hgW : (w.drew.setRow g (delRowB cur n i)).heap[g]? = some (.cells (delRowB cur n i) e (0, 0)) := setRow_heap w.drew g cur _ e _ hgd
 obtain ⟨W1, hW1⟩ : ∃ W1, W1 = w.drew.setRow g (delRowB cur n i) := ⟨_, rfl⟩
 rw [<- hW1] at hgW
 have hcle : ∀ ty c, (Builtin.clear_ #[23] ty #[.slice (some ⟨g, (i + (n - (i + 1))) * 2, none⟩) (n - (i + (n - (i + 1)))) c]).run Tryz.prog W1 = .ok (.tuple #[]) (W1.setRow g (clrRowB (delRowB cur n i) n [.bool false, .slice none 0 0])) := fun ty c => by
  have hst := run_storeCells_at Tryz.prog g ((n - 1) * 2) e [.bool false, .slice none 0 0] 0 (delRowB cur n i) W1 hgW (by simp; rw [hrs]; omega) (by simp [Value.oneCell'])
  have e1 : i + (n - (i + 1)) = n - 1 := by omega
  have e2 : n - (n - 1) = 1 := by omega
  rw [e1, e2]
  simp only [Nat.add_zero] at hst
  have hv : ∀ w, (zeroValue 57).run Tryz.prog w = .ok (Value.agg (List.toArray [Value.bool false, Value.slice none 0 0])) w := fun w => by
   simp [zeroValue, typeInfo, hti, htz]
  have hzc : (Builtin.zeroCells (Value.agg (List.toArray [Value.bool false, Value.slice none 0 0])).cells 1).toList = [.bool false, .slice none 0 0] := by kernel_rfl
  unfold clrRowB
  simp [Builtin.clear_, run_underlying u27, hv, hzc, hst]
 subst hW1
 clear hgW
 have hw1 : IntKind.i64.wrap ((i : Int) + 1) = (i : Int) + 1 := by rw [IntKind.wrap_i64]; omega
 have hz1 : ¬ ((i : Int) = (i : Int) + 1) := by omega
 have hb1 : (0 : Int) <= (i : Int) + 1 := by omega
 have htn : ((i : Int) + 1).toNat = i + 1 := by omega
 have hin : i <= n := by omega
 have hi1 : (i : Int) + 1 <= (n : Int) := by omega
 have hic : i <= cap := by omega
 have hii : (i : Int) <= (i : Int) + 1 := by omega
 go_enter Tryz.func83, Tryz.ntmps83
 go_wp2_with fail
 go_region_law_o (refine step_append_runX rfl _ _ 23 23 rfl (.slice (some ⟨g, 0, none⟩) i cap) (.slice (some A) (n - (i + 1)) (cap - (i + 1))) (by simp [Act.eval, Act.put]) (by simp [Act.eval, Act.put]) (hap _ _) ?_)
 have hb5 : ¬ (cap = i + (n - (i + 1))) := by omega
 have hb6 : i + (n - (i + 1)) <= n := by omega
 have hb7 : i + (n - (i + 1)) <= cap := by omega
 go_wp2_with (refine wpList_clear_runX _ rfl _ _ rfl _ rfl (hcle _ _) ?_)
 go_ret
 exact ⟨by rw [show i + (n - (i + 1)) = n - 1 by omega]; rfl, rfl⟩
theorem con_delete (xs : List AV) (i : Nat) (hi : i < xs.length) :
  ConC Tryz.prog 83 [.sl 2 2 xs, .sc (.int .i64 i), .sc (.int .i64 ((i : Int) + 1))] fun r => r = .sl 2 2 (xs.eraseIdx i) := by
 refine ⟨⟨Tryz.f83, by kernel_rfl, by kernel_rfl, by kernel_rfl⟩, fun G w vs hgood hnb hv => ?_⟩
 obtain ⟨v1, r1, e1, h1, h1'⟩ := hv.cons_inv
 obtain ⟨v2, r2, e2, h2, h2'⟩ := h1'.cons_inv
 obtain ⟨v3, r3, e3, h3, h3'⟩ := h2'.cons_inv
 have := h3'.nil_inv
 subst this; subst e3; subst e2
 have := h2.sc_inv
 subst this
 have := h3.sc_inv
 subst this
 obtain ⟨g, cap, cur, e, rfl, hGg, hh, hnc, hm, hs, hx, h1c, hP⟩ := own_row h1 (by omega) (by omega)
 have hvs : vs = #[.slice (some ⟨g, 0, none⟩) xs.length cap, .int .i64 i, .int .i64 ((i : Int) + 1)] := by cases vs; simp_all
 subst hvs
 have hl1 : cur.toList.length = cap * 2 := by rw [Array.length_toList, hs]
 have hcl : ((cur.toList.take (xs.length * 2)).drop ((i + 1) * 2)).length = (xs.length - (i + 1)) * 2 := by
  rw [List.length_drop, List.length_take, hl1, Nat.min_eq_left (by omega)]; omega
 have hol : (cur.toList.take (i * 2)).length = i * 2 := by rw [List.length_take, hl1, Nat.min_eq_left (by omega)]
 have e : xs.eraseIdx i = xs.take i ++ xs.drop (i + 1) := List.eraseIdx_eq_take_drop_succ ..
 have hlen : (xs.eraseIdx i).length = xs.length - 1 := List.length_eraseIdx_of_lt hi
 have hxs : ∀ x ∈ xs.eraseIdx i, x.cells.length = 2 := fun x hx' => hx x (List.mem_of_mem_eraseIdx hx')
 have hpw : PW (FRel (Stable G) w) (flat (xs.eraseIdx i)) (cur.toList.take (i * 2) ++ (cur.toList.take (xs.length * 2)).drop ((i + 1) * 2)) := by
  rw [e, flat_app', flat_take i hx, flat_drop (i + 1) hx]
  have := (hP.take (i * 2)).append (hP.drop ((i + 1) * 2))
  rwa [List.take_take, Nat.min_eq_left (by omega)] at this
 have hone : One (cur.toList.take (i * 2) ++ (cur.toList.take (xs.length * 2)).drop ((i + 1) * 2)) := fun u hu => by
  rcases List.mem_append.1 hu with hu | hu
  ·exact h1c u (by
    have : cur.toList.take (i * 2) = (cur.toList.take (xs.length * 2)).take (i * 2) := by rw [List.take_take, Nat.min_eq_left (by omega)]
    rw [this] at hu; exact List.mem_of_mem_take hu)
  ·exact h1c u (List.mem_of_mem_drop hu)
 have hlv : (cur.toList.take (i * 2) ++ (cur.toList.take (xs.length * 2)).drop ((i + 1) * 2)).length = (xs.length - 1) * 2 := by rw [List.length_append, hol, hcl]; omega
 have hgd : w.drew.heap[g]? = some (.cells cur _ (0, 0)) := hh
 have hrs : (delRowB cur xs.length i).size = cap * 2 := by
  unfold delRowB
  rw [List.size_toArray, List.length_append, List.length_append, hcl, hol, List.length_drop, hl1]; omega
 have hdl : (delRowB cur xs.length i).toList.length = cap * 2 := by rw [Array.length_toList]; exact hrs
 have hg1 := setRow_heap w.drew g cur (delRowB cur xs.length i) _ _ hgd
 have hg2 := setRow_heap _ g _ (clrRowB (delRowB cur xs.length i) xs.length [.bool false, .slice none 0 0]) _ _ hg1
 refine (del_one g xs.length cap i cur _ w hh hs hnc hm hi h1c).mono fun e1 w' ⟨he, hw⟩ => ?_
 refine row_here (row := clrRowB (delRowB cur xs.length i) xs.length [.bool false, .slice none 0 0]) hgood hnb hGg he (by rw [hw]; exact hg2) (fun b hb => by rw [hw, heap_setRow_ne hb, heap_setRow_ne hb]; rfl) (by rw [hw, setRow_size, setRow_size]; rfl) (by rw [hw]; rfl) (by rw [hw]; rfl) (by rw [hw]; rfl) (by omega) hm ?_ ?_ hlen hxs hone hpw hlv
 ·unfold clrRowB
  rw [List.size_toArray, List.length_append, List.length_append, List.length_take, List.length_drop, hdl, Nat.min_eq_left (by omega)]
  simp only [List.length_cons, List.length_nil]; omega
 ·unfold clrRowB
  simp only []
  have e2 : (delRowB cur xs.length i).toList.take ((xs.length - 1) * 2) = cur.toList.take (i * 2) ++ (cur.toList.take (xs.length * 2)).drop ((i + 1) * 2) := by
   unfold delRowB
   simp only []
   rw [List.take_append_of_le_length (by rw [hlv]; exact Nat.le_refl _), List.take_of_length_le (by rw [hlv]; exact Nat.le_refl _)]
  rw [List.append_assoc, List.take_append_of_le_length (by rw [List.length_take, hdl]; omega), List.take_take, Nat.min_self, e2]
end Go.AM
namespace Go.AM
open Go Go.Proofs Go.RowKit
set_option maxRecDepth 100000
theorem Con.le {P : Program} {f : FuncId} {args : List AV} {bx : List (List AV)} {post post' : AV -> List (List AV) -> Prop} (h : Con P f args bx post) (hp : ∀ r b, post r b -> ∃ r', leV r r' /\ post' r' b) : Con P f args bx post' :=
 ⟨h.1, fun G w vs h1 h2 h3 h4 h5 => (h.2 G w vs h1 h2 h3 h4 h5).mono fun e w' ⟨v, r, bx', G', he, hq, hr, rest⟩ => by
  obtain ⟨r', hl, hq'⟩ := hp r bx' hq
  exact ⟨v, r', bx', G', he, hq', hr.le hl, rest⟩⟩
theorem con_mxClone (l : List Int) (hl : l.length <= 1000000) : Con Tryz.prog 95 [vs 0 l] [] fun r _ => r = vs 2 l := by
 refine Con.le (post := fun r _ => r = .nil /\ l = [] \/ r = vs 2 l) ?_ (fun r b h => ⟨vs 2 l, by rcases h with ⟨rfl, rfl⟩ | rfl; exact leV_nil 2 1; exact leV_refl _, rfl⟩)
 refine Con.intro Tryz.func95 rfl Tryz.ntmps95 Tryz.results95 (by kernel_rfl) (by simp) 0 (by simp) ?_
 cases l with
 | nil =>
  simp only [go_sem]
  simp [roomFor]
 | cons x l =>
  simp only [go_sem]
  simp [roomFor]; simp at hl; omega
theorem con_mxGrow (n : Nat) (hn : n <= 1000000) : Con Tryz.prog 101 [.nil, vi n] [] fun r _ => r = vs 2 [] := by
 refine Con.le (post := fun r _ => r = .nil \/ r = vs 2 []) ?_ (fun r b h => ⟨vs 2 [], by rcases h with rfl | rfl; exact leV_nil 2 1; exact leV_refl _, rfl⟩)
 refine Con.intro Tryz.func101 rfl Tryz.ntmps101 Tryz.results101 (by kernel_rfl) (by simp) 0 (by simp) ?_
 have hw0 : IntKind.i64.wrap 0 = 0 := wrap_in (by omega) (by omega)
 by_cases h : n = 0
 ·subst h
  simp only [go_sem, hw0, Int.sub_zero, true_or]
 ·have hz : ¬ n < 0 := by omega
  have hw : IntKind.i64.wrap (n : Int) = n := wrap_in (by omega) (by omega)
  have hp : 0 < n := by omega
  simp only [go_sem, hz, hw, hw0, hp, Int.sub_zero]
  exact ⟨by omega, by omega, .inr trivial⟩
def bound (m : List (List Int)) : Prop := m.length <= 1000 /\ ∀ row ∈ m, row.length <= 1000
def totalN (m : List (List Int)) : Nat -> Nat
 | 0 => 0
 | k + 1 => totalN m k + m[k]!.length
theorem totalN_le {m : List (List Int)} (hb : bound m) : ∀ k, k <= m.length -> totalN m k <= k * 1000
 | 0, _ => by simp [totalN]
 | k + 1, hk => by
  have := totalN_le hb k (by omega)
  have := hb.2 m[k]! (by simp [show k < m.length by omega])
  simp only [totalN]; omega
theorem con_mxConcat (m : List (List Int)) (hb : bound m) : Con Tryz.prog 69 [vm 0 m] [] fun r _ => r = vs 2 m.flatten := by
 refine Con.intro Tryz.func69 rfl Tryz.ntmps69 Tryz.results69 (by kernel_rfl) (by simp) 0 (by simp) ?_
 have hm := hb.1
 simp only [go_sem]
 refine LoopK.intro (fun i : Nat => ⟨36, [(0, .sl 0 1 (m.map (vs 0))), (3, .sc (.int .i64 (totalN m i))), (9, .sl 0 1 (m.map (vs 0))), (10, .sc (.int .i64 m.length)), (11, .sc (.int .i64 i))], []⟩)
  (fun i => m.length - i) (fun i => i <= m.length) 0 (by omega) ?_ ?_
 ·simp only [go_sem, totalN]
 intro i hi
 by_cases h : i < m.length
 ·have hg := getm h
  have ht := totalN_le hb i hi
  have hr := hb.2 m[i]! (by simp [h])
  have hw : IntKind.i64.wrap (i + 1) = i + 1 := wrap_in (by omega) (by omega)
  have hw2 : IntKind.i64.wrap ((totalN m i : Int) + m[i]!.length) = ((totalN m (i + 1) : Nat) : Int) := by rw [wrap_in (by omega) (by omega)]; simp [totalN]
  have hnn : ¬ totalN m (i + 1) < 0 := by omega
  simp only [go_sem, h, hg, hw, hw2, hnn]
  refine roundK.intro (i + 1) (by omega) (by omega) ?_
  simp only [go_sem]
 simp only [go_sem, h]
 have htot := totalN_le hb i hi
 refine CallU.free (con_mxGrow (totalN m i) (by omega)) (by simp only [go_sem]) (by simp only [go_sem]) ?_
 rintro r bx rfl
 simp only [go_sem]
 refine LoopK.intro (fun k : Nat => ⟨36, [(6, .sl 1602 1 ((m.take k).flatten.map vi)), (25, .sl 0 1 (m.map (vs 0))), (26, .sc (.int .i64 m.length)), (27, .sc (.int .i64 k))], []⟩)
  (fun k => m.length - k) (fun k => k <= m.length) 0 (by omega) ?_ ?_
 ·simp only [go_sem, List.flatten_nil]
 intro k hk
 by_cases h2 : k < m.length
 ·have hg := getm h2
  have hw : IntKind.i64.wrap (k + 1) = k + 1 := wrap_in (by omega) (by omega)
  have hmk : m[k]? = some m[k]! := by simp [h2]
  have hfl : (m.take k).flatten.length <= 1000 * k := by
   have : ∀ l : List (List Int), (∀ row ∈ l, row.length <= 1000) -> l.flatten.length <= 1000 * l.length := by
    intro l hl
    induction l with
    | nil => simp
    | cons a l ih =>
     have h1 := ih fun row hr => hl row (by simp [hr])
     have h2 := hl a (by simp)
     simp only [List.flatten_cons, List.length_append, List.length_cons]; omega
   have h3 := this (m.take k) fun row hr => hb.2 row (List.mem_of_mem_take hr)
   have h4 : (m.take k).length <= k := by rw [List.length_take]; omega
   omega
  have hr := hb.2 m[k]! (by simp [h2])
  simp only [go_sem, h2, hg, hw]
  refine ⟨⟨by omega, by omega⟩, roundK.intro (k + 1) (by omega) (by omega) ?_⟩
  simp only [go_sem]
  refine leV_sl ?_
  rw [List.take_add_one, hmk, List.flatten_append, List.map_append]; simp
 ·have e : m.take k = m := List.take_of_length_le (by omega)
  simp only [go_sem, h2, e]
set_option maxHeartbeats 8000000
theorem con_xCloneF (l : List Int) (hl : l.length <= 1000000) : Con Tryz.prog 95 [vs 0 l] [] fun r _ => r = vs 0 l :=
 Con.frozX ((con_mxClone l hl).mono fun r _ e => by subst e; exact leV_refl _)
theorem con_xCopied (p : List TmD) (hp : LenP p) : Con Tryz.prog 81 [vPr p] [] fun r _ => r = .sl 2 2 (p.map vTm) := by
 refine Con.intro Tryz.func81 rfl Tryz.ntmps81 Tryz.results81 (by kernel_rfl) (by simp) 0 (by simp) ?_
 have hpl := hp.len
 simp only [go_sem]
 refine LoopK.intro (fun i : Nat => ⟨23, [(3, .sl 1344 2 ((p.take i).map vTm)), (6, vPr p), (7, vi p.length), (8, vi i)], Rk 2 i⟩)
  (fun i => p.length - i) (fun i => i <= p.length) 0 (Nat.zero_le _) ?_ ?_
 ·simp only [go_sem, List.take_zero, List.map_nil, Rk, List.replicate]
  all_goals exact leB_self _
 rintro i hi
 have hB := Rk_len 2 i
 have n0 := fun L : List (List AV) => app_at0 (L := L) hB
 have s0 := fun (L : List (List AV)) z => app_set0 (L := L) (z := z) hB
 by_cases h : i < p.length
 ·have hg := getTm h
  have hw : IntKind.i64.wrap (i + 1) = i + 1 := wrap_in (by omega) (by omega)
  have e : (p.take (i + 1)).map vTm = (p.take i).map vTm ++ [.ag [vb p[i]!.star, vs 0 p[i]!.ls]] := by
   rw [List.take_succ_eq_append_getElem h, List.map_append, <- getElem!_pos p i h]; rfl
  have hc := con_xCloneF p[i]!.ls (hp.terms _ (mem_bangI h))
  simp only [go_sem, h, hg, hB, n0, s0, List.length_map]
  refine DrawK.walk 8 mixed (by kernel_rfl) ?_
  simp only [go_sem, n0]
  refine CallY.mk hc (by simp only [go_sem]) (by simp only [go_sem]) (.inl (by simp only [go_sem])) ?_
  simp only [go_sem, hw]
  refine ⟨by simp only [roomFor, List.length_take]; omega, ?_⟩
  refine roundK.intro (i + 1) (by omega) (by omega) ?_
  simp only [go_sem, e, Rk_succ]
  all_goals exact leB_RkA (x := [[_, _]]) (y := [List.replicate 2 .any]) ⟨⟨leV_any _, leV_any _, trivial⟩, trivial⟩
 ·have e : p.take i = p := List.take_of_length_le (by omega)
  simp only [go_sem, h, e]
def nearB (p : List TmD) (i : Nat) (k : Int) : Bool := decide (0 <= k) && decide (k < p.length) && (p[k.toNat]!.star && witT p[i]! p[k.toNat]!)
theorem idle_near {p : List TmD} {i : Nat} (h : i < p.length) : idleP p i = (p[i]!.ls.isEmpty || nearB p i ((i : Int) - 1) || nearB p i ((i : Int) + 1)) := by
 unfold idleP nearB
 have e2 : ((i : Int) + 1).toNat = i + 1 := by omega
 have e3 : decide (0 <= (i : Int) + 1) = true := decide_eq_true (by omega)
 have e4 : decide ((i : Int) + 1 < p.length) = decide (i + 1 < p.length) := by rw [Bool.eq_iff_iff, decide_eq_true_eq, decide_eq_true_eq]; omega
 rw [e2, e3, e4, Bool.true_and]
 by_cases h0 : 0 < i
 ·have e1 : ((i : Int) - 1).toNat = i - 1 := by omega
  rw [e1, decide_eq_true h0, decide_eq_true (show (0 : Int) <= (i : Int) - 1 by omega), decide_eq_true (show (i : Int) - 1 < p.length by omega)]
  rfl
 ·rw [decide_eq_false h0, decide_eq_false (show ¬ (0 : Int) <= (i : Int) - 1 by omega)]
  rfl
theorem con_xIdle (p : List TmD) (i : Nat) (hi : i < p.length) (hok : OkP p) (hp : LenP p) : Con Tryz.prog 82 [vPr p, vi i] [] fun r _ => r = vb (idleP p i) := by
 refine Con.intro Tryz.func82 rfl Tryz.ntmps82 Tryz.results82 (by kernel_rfl) (by simp) 0 (by simp) ?_
 have hpl := hp.len
 have hg := getTm hi
 rw [idle_near hi]
 by_cases h0 : p[i]!.ls = []
 ·have e : p[i]!.ls.isEmpty = true := nil_iff.2 h0
  rw [h0] at hg
  simp only [go_sem, hi, hg, e, List.length_map, Bool.true_or]
 have e : p[i]!.ls.isEmpty = false := by cases h : p[i]!.ls <;> simp_all
 have hl0 : ((p[i]!.ls.length : Int) == 0) = false := beq_eq_false_iff_ne.2 fun h => h0 (List.length_eq_zero_iff.1 (by omega))
 have w1 : IntKind.i64.wrap ((i : Int) - 1) = (i : Int) - 1 := wrap_in (by omega) (by omega)
 have w2 : IntKind.i64.wrap ((i : Int) + 1) = (i : Int) + 1 := wrap_in (by omega) (by omega)
 rw [e, Bool.false_or]
 simp only [go_sem, hi, hg, hl0, w1, w2, List.length_map]
 refine LoopK.intro (fun k : Nat => ⟨49, [(0, vPr p), (1, vi i), (18, .ag [vi ((i : Int) - 1), vi ((i : Int) + 1)]), (19, vi k)], []⟩)
  (fun k => 2 - k) (fun k => k <= 2 /\ (0 < k -> nearB p i ((i : Int) - 1) = false) /\ (1 < k -> nearB p i ((i : Int) + 1) = false)) 0 ⟨by omega, fun h => by omega, fun h => by omega⟩ ?_ ?_
 ·simp only [go_sem]
 rintro k ⟨hk, hk1, hk2⟩
 have hwa : IntKind.i64.wrap 1 = 1 := wrap_in (by omega) (by omega)
 have hwb : IntKind.i64.wrap 2 = 2 := wrap_in (by omega) (by omega)
 match k, hk, hk1, hk2 with
 | 2, _, hk1, hk2 =>
  rw [hk1 (by omega), hk2 (by omega)]
  simp only [go_sem, Bool.or_false]
 | 0, _, _, _ =>
  by_cases hx0 : (0 : Int) <= (i : Int) - 1
  case neg =>
   have hn : nearB p i ((i : Int) - 1) = false := by unfold nearB; rw [decide_eq_false hx0]; rfl
   simp only [go_sem]
   refine DrawK.walk 26 mixed (by kernel_rfl) ?_
   simp only [go_sem, hx0, hwa]
   refine roundK.intro 1 ⟨by omega, fun _ => hn, fun h => by omega⟩ (by omega) ?_
   simp only [go_sem]
  by_cases hxl : (i : Int) - 1 < (p.length : Int)
  case neg =>
   have hn : nearB p i ((i : Int) - 1) = false := by unfold nearB; rw [decide_eq_false hxl, Bool.and_false]; rfl
   simp only [go_sem]
   refine DrawK.walk 26 mixed (by kernel_rfl) ?_
   simp only [go_sem, hx0, hxl, List.length_map, hwa]
   refine roundK.intro 1 ⟨by omega, fun _ => hn, fun h => by omega⟩ (by omega) ?_
   simp only [go_sem]
  have ht : ((i : Int) - 1).toNat = i - 1 := by omega
  have hj : i - 1 < p.length := by omega
  have gj := getTm hj
  have hn : nearB p i ((i : Int) - 1) = (p[i - 1]!.star && witT p[i]! p[i - 1]!) := by unfold nearB; rw [decide_eq_true hx0, decide_eq_true hxl, ht]; rfl
  cases hs : p[i - 1]!.star with
  | false =>
   rw [hs] at gj hn
   rw [Bool.false_and] at hn
   simp only [go_sem]
   refine DrawK.walk 26 mixed (by kernel_rfl) ?_
   simp only [go_sem, hx0, hxl, ht, gj, List.length_map, hwa]
   refine roundK.intro 1 ⟨by omega, fun _ => hn, fun h => by omega⟩ (by omega) ?_
   simp only [go_sem]
  | true =>
   rw [hs] at gj hn
   rw [Bool.true_and] at hn
   have hw := con_xWithin p[i]! p[i - 1]! (hp.terms _ (mem_bangI hi)) (hp.terms _ (mem_bangI hj)) (fun h => by rw [hs] at h; cases h)
   simp only [vTm, hs] at hw
   simp only [go_sem]
   refine DrawK.walk 26 mixed (by kernel_rfl) ?_
   simp only [go_sem, hx0, hxl, ht, gj, hi, hg, List.length_map]
   refine CallY.mk hw (by simp only [go_sem]) (by simp only [go_sem]) (.inl (by simp only [go_sem])) ?_
   cases hwt : witT p[i]! p[i - 1]! with
   | true =>
    rw [hwt] at hn
    rw [hn]
    simp only [go_sem, Bool.true_or]
   | false =>
    rw [hwt] at hn
    simp only [go_sem, hwa]
    refine roundK.intro 1 ⟨by omega, fun _ => hn, fun h => by omega⟩ (by omega) ?_
    simp only [go_sem]
 | 1, _, hk1, _ =>
  by_cases hx0 : (0 : Int) <= (i : Int) + 1
  case neg =>
   have hn : nearB p i ((i : Int) + 1) = false := by unfold nearB; rw [decide_eq_false hx0]; rfl
   simp only [go_sem]
   refine DrawK.walk 26 mixed (by kernel_rfl) ?_
   simp only [go_sem, hx0, hwb]
   refine roundK.intro 2 ⟨by omega, fun _ => hk1 (by omega), fun _ => hn⟩ (by omega) ?_
   simp only [go_sem]
  by_cases hxl : (i : Int) + 1 < (p.length : Int)
  case neg =>
   have hn : nearB p i ((i : Int) + 1) = false := by unfold nearB; rw [decide_eq_false hxl, Bool.and_false]; rfl
   simp only [go_sem]
   refine DrawK.walk 26 mixed (by kernel_rfl) ?_
   simp only [go_sem, hx0, hxl, List.length_map, hwb]
   refine roundK.intro 2 ⟨by omega, fun _ => hk1 (by omega), fun _ => hn⟩ (by omega) ?_
   simp only [go_sem]
  have ht : ((i : Int) + 1).toNat = i + 1 := by omega
  have hj : i + 1 < p.length := by omega
  have gj := getTm hj
  have hn : nearB p i ((i : Int) + 1) = (p[i + 1]!.star && witT p[i]! p[i + 1]!) := by unfold nearB; rw [decide_eq_true hx0, decide_eq_true hxl, ht]; rfl
  cases hs : p[i + 1]!.star with
  | false =>
   rw [hs] at gj hn
   rw [Bool.false_and] at hn
   simp only [go_sem]
   refine DrawK.walk 26 mixed (by kernel_rfl) ?_
   simp only [go_sem, hx0, hxl, ht, gj, List.length_map, hwb]
   refine roundK.intro 2 ⟨by omega, fun _ => hk1 (by omega), fun _ => hn⟩ (by omega) ?_
   simp only [go_sem]
  | true =>
   rw [hs] at gj hn
   rw [Bool.true_and] at hn
   have hw := con_xWithin p[i]! p[i + 1]! (hp.terms _ (mem_bangI hi)) (hp.terms _ (mem_bangI hj)) (fun h => by rw [hs] at h; cases h)
   simp only [vTm, hs] at hw
   simp only [go_sem]
   refine DrawK.walk 26 mixed (by kernel_rfl) ?_
   simp only [go_sem, hx0, hxl, ht, gj, hi, hg, List.length_map]
   refine CallY.mk hw (by simp only [go_sem]) (by simp only [go_sem]) (.inl (by simp only [go_sem])) ?_
   cases hwt : witT p[i]! p[i + 1]! with
   | true =>
    rw [hwt] at hn
    rw [hn]
    simp only [go_sem, Bool.or_true]
   | false =>
    rw [hwt] at hn
    simp only [go_sem, hwb]
    refine roundK.intro 2 ⟨by omega, fun _ => hk1 (by omega), fun _ => hn⟩ (by omega) ?_
    simp only [go_sem]
 | k + 3, hk, _, _ => omega
theorem norm_step {D : List TmD} {i : Nat} (h : i < D.length) (hb : ∀ j, j < i -> idleP D j = false) (hi : idleP D i = true) : normN D.length D = normN (D.eraseIdx i).length (D.eraseIdx i) := by
 have hf : (List.range D.length).find? (idleP D) = some i := List.find?_range_eq_some.2 ⟨hi, List.mem_range.2 h, fun j hj => by rw [hb j hj]; rfl⟩
 obtain ⟨n, hn⟩ : ∃ n, D.length = n + 1 := ⟨D.length - 1, by omega⟩
 have hl : (D.eraseIdx i).length = n := by rw [List.length_eraseIdx_of_lt h]; omega
 rw [hl]
 conv => lhs; rw [hn]
 rw [normN, hf]
theorem norm_stop {D : List TmD} (hb : ∀ j, j < D.length -> idleP D j = false) : normN D.length D = D := by
 cases hn : D.length with
 | zero => rfl
 | succ n =>
  have hf : (List.range D.length).find? (idleP D) = none := List.find?_eq_none.2 fun j hj => by rw [hb j (List.mem_range.1 hj)]; simp
  rw [normN, hf]
theorem lenP_erase {p : List TmD} {i : Nat} (h : LenP p) : LenP (p.eraseIdx i) := ⟨Nat.le_trans (List.length_eraseIdx_le _ _) h.len, fun t ht => h.terms t (List.mem_of_mem_eraseIdx ht)⟩
theorem con_xnormal (p : List TmD) (hok : OkP p) (hp : LenP p) : Con Tryz.prog 53 [vPr p] [] fun r _ => r = .sl 2 2 ((normP p).map vTm) := by
 refine Con.intro Tryz.func53 rfl Tryz.ntmps53 Tryz.results53 (by kernel_rfl) (by simp) 0 (by simp) ?_
 have hc := con_xCopied p hp
 simp only [vPr] at hc
 simp only [go_sem]
 refine ScopeK.label (fun D : List TmD => ⟨22, [(3, .sl 450 2 (D.map vTm))], []⟩) (fun D => D.length) (fun D => OkP D /\ LenP D /\ normN D.length D = normP p) (by rfl) ?_ ?_
 ·simp only [go_sem]
  refine CallU.free hc (by simp only [go_sem]) (by simp only [go_sem]) ?_
  rintro r bx rfl
  simp only [go_sem]
  refine ⟨p, ⟨hok, hp, rfl⟩, Turn.le ?_⟩
  simp only [go_sem]
 rintro D ⟨hD, hDl, hn⟩
 have hdl := hDl.len
 simp only [go_sem, List.length_map]
 refine LoopK.intro (fun i : Nat => ⟨22, [(3, .sl 450 2 (D.map vTm)), (8, vi D.length), (9, vi i)], []⟩)
  (fun i => D.length - i) (fun i => i <= D.length /\ ∀ j, j < i -> idleP D j = false) 0 ⟨Nat.zero_le _, fun j hj => by omega⟩ ?_ ?_
 ·simp only [go_sem]
 rintro i ⟨hi, hb⟩
 by_cases h : i < D.length
 case neg =>
  have e : normP p = D := by rw [<- hn]; exact norm_stop fun j hj => hb j (by omega)
  rw [e]
  simp only [go_sem, h]
 have hw : IntKind.i64.wrap (i + 1) = i + 1 := wrap_in (by omega) (by omega)
 have hid := con_xIdle D i h hD hDl
 simp only [vPr] at hid
 simp only [go_sem, h]
 refine CallU.flat hid (by simp only [go_sem]) (by simp only [go_sem]) ?_
 rintro r bx rfl
 cases hx : idleP D i with
 | false =>
  simp only [go_sem, hw]
  refine roundK.intro (i + 1) ⟨by omega, fun j hj => ?_⟩ (by omega) ?_
  ·by_cases e : j = i
   ·subst e; exact hx
   ·exact hb j (by omega)
  ·simp only [go_sem]
 | true =>
  have hdel := con_delete (D.map vTm) i (by rw [List.length_map]; exact h)
  have he : (D.map vTm).eraseIdx i = (D.eraseIdx i).map vTm := by rw [List.eraseIdx_eq_take_drop_succ, List.eraseIdx_eq_take_drop_succ, List.map_append, List.map_take, List.map_drop]
  rw [he] at hdel
  simp only [go_sem, hw]
  refine CallU.lend hdel (by simp only [go_sem]) (by simp only [go_sem]) ?_
  rintro r rfl
  simp only [go_sem]
  refine ⟨D.eraseIdx i, ⟨okP_erase hD, lenP_erase hDl, by rw [<- hn]; exact (norm_step h hb hx).symm⟩, by show (D.eraseIdx i).length < D.length; rw [List.length_eraseIdx_of_lt h]; omega, Turn.mv 1282 450 (by omega) (by omega) (by omega) (Turn.le ?_)⟩
  simp only [go_sem]
  exact leV_refl _
theorem con_xnormalF (p : List TmD) (hok : OkP p) (hp : LenP p) : Con Tryz.prog 53 [vPr p] [] fun r _ => r = vPr (normP p) :=
 Con.frozX ((con_xnormal p hok hp).mono fun r _ e => by subst e; exact leV_refl _)
theorem con_xNormal (n : Int) (p : List TmD) (hp : LenP p) : Con Tryz.prog 20 [vi n, vPr p] [] fun r _ => r = if checkX n p = 0 then .tup [vPr (normP p), vi 0] else .tup [.nil, vi (checkX n p)] := by
 refine Con.intro Tryz.func20 rfl Tryz.ntmps20 Tryz.results20 (by kernel_rfl) (by simp) 0 (by simp) ?_
 have hc := con_xCheckL n p hp
 simp only [vPr] at hc
 simp only [go_sem]
 refine CallU.free hc (by simp only [go_sem]) (by simp only [go_sem]) ?_
 rintro r bx rfl
 by_cases h : checkX n p = 0
 ·have hn := con_xnormalF p (check_zero.1 h).ok hp
  simp only [vPr] at hn
  simp only [go_sem, h, if_true]
  refine CallU.free hn (by simp only [go_sem]) (by simp only [go_sem]) ?_
  rintro r bx rfl
  simp only [go_sem, h, if_true]
 ·have h' : (checkX n p != 0) = true := bne_iff_ne.2 h
  simp only [go_sem, h, h', if_false]
def letX (n : Int) (p : List TmD) (x : Int) : Int := if checkX n p ≠ 0 then checkX n p else if x < 0 \/ n <= x then 2 else 0
theorem con_xletter (n : Int) (p : List TmD) (x : Int) (hp : LenP p) : Con Tryz.prog 55 [vi n, vPr p, vi x] [] fun r _ => r = vi (letX n p x) := by
 refine Con.intro Tryz.func55 rfl Tryz.ntmps55 Tryz.results55 (by kernel_rfl) (by simp) 0 (by simp) ?_
 have hc := con_xCheckL n p hp
 simp only [vPr] at hc
 unfold letX
 simp only [go_sem]
 refine CallU.free hc (by simp only [go_sem]) (by simp only [go_sem]) ?_
 rintro r bx rfl
 by_cases h : checkX n p = 0
 ·by_cases h1 : x < 0
  ·simp only [go_sem, h, h1, not_true, if_false, true_or, if_true]
  ·by_cases h2 : n <= x
   ·simp only [go_sem, h, h1, h2, not_true, if_false, or_true, if_true]
   ·simp only [go_sem, h, h1, h2, not_true, if_false, or_self]
 ·have h' : (checkX n p != 0) = true := bne_iff_ne.2 h
  simp only [go_sem, h, h', not_false_iff, if_true]
theorem con_xClip (p : List TmD) (hl : p.length <= 1000000) : Con Tryz.prog 56 [vPr p] [] fun r _ => r = .sl 1 2 (p.map vTm) := by
 refine Con.intro Tryz.func56 rfl Tryz.ntmps56 Tryz.results56 (by kernel_rfl) (by simp) 0 (by simp) ?_
 have ht : (p.map vTm).take p.length = p.map vTm := List.take_of_length_le (by simp)
 simp only [go_sem, List.length_map, ht]
 exact Nat.le_refl _
def snocP (p : List TmD) (x : Int) : List TmD := p ++ [⟨false, [x]⟩]
theorem snoc_ok {p : List TmD} (h : OkP p) (x : Int) : OkP (snocP p x) := fun t ht => by
 rcases List.mem_append.1 ht with ht | ht
 ·exact h t ht
 ·rw [List.mem_singleton.1 ht]; exact one_ok x
theorem snoc_len {p : List TmD} {x : Int} (h : p.length <= 24) (ht : ∀ t ∈ p, t.ls.length <= 1000000) : LenP (snocP p x) := by
 refine ⟨by unfold snocP; rw [List.length_append]; simp; omega, fun t h' => ?_⟩
 rcases List.mem_append.1 h' with h' | h'
 ·exact ht t h'
 ·rw [List.mem_singleton.1 h']; simp
def appX (n : Int) (p : List TmD) (x : Int) : AV := if letX n p x ≠ 0 then .tup [.nil, vi (letX n p x)] else if 24 < (normP (snocP p x)).length then .tup [.nil, vi 1] else .tup [vPr (normP (snocP p x)), vi 0]
theorem let_zero {n : Int} {p : List TmD} {x : Int} (h : letX n p x = 0) : ValidP n p /\ 0 <= x /\ x < n := by
 unfold letX at h
 split at h
 ·rename_i h1; exact absurd h h1
 ·rename_i h1
  split at h
  ·omega
  ·exact ⟨check_zero.1 (Classical.byContradiction h1), by omega⟩
theorem con_xAppend (n : Int) (p : List TmD) (x : Int) (hp : LenP p) : Con Tryz.prog 23 [vi n, vPr p, vi x] [] fun r _ => r = appX n p x := by
 refine Con.intro Tryz.func23 rfl Tryz.ntmps23 Tryz.results23 (by kernel_rfl) (by simp) 0 (by simp) ?_
 have hc := con_xletter n p x hp
 have hcl := con_xClip p hp.len
 simp only [vPr] at hc hcl
 unfold appX
 simp only [go_sem]
 refine CallU.free hc (by simp only [go_sem]) (by simp only [go_sem]) ?_
 rintro r bx rfl
 by_cases h : letX n p x = 0
 case neg =>
  have h' : (letX n p x != 0) = true := bne_iff_ne.2 h
  simp only [go_sem, h, h', not_false_iff, if_true]
 obtain ⟨hv, _⟩ := let_zero h
 have hfew := hv.few
 have hn := con_xnormalF (snocP p x) (snoc_ok hv.ok x) (snoc_len hv.few hp.terms)
 have e : (snocP p x).map vTm = p.map vTm ++ [.ag [vb false, .sl 0 1 [vi x]]] := by unfold snocP; rw [List.map_append]; rfl
 simp only [vPr, e] at hn
 simp only [go_sem, h, if_false]
 refine CallU.free hcl (by simp only [go_sem]) (by simp only [go_sem]) ?_
 rintro r bx rfl
 simp only [go_sem]
 refine ⟨by simp only [roomFor]; omega, ?_⟩
 refine CallU.freeze hn (by simp only [go_sem]) (by simp only [go_sem]) ?_
 rintro r bx rfl
 by_cases h2 : 24 < (normP (snocP p x)).length
 ·have h3 : (24 : Int) < ((normP (snocP p x)).length : Int) := by omega
  simp only [go_sem, h, h2, h3, List.length_map, not_true, if_false, if_true]
 ·have h3 : ¬ (24 : Int) < ((normP (snocP p x)).length : Int) := by omega
  simp only [go_sem, h, h2, h3, List.length_map, not_true, if_false, if_true]
theorem con_xBehind1 (t : TmD) (x : Int) (hl : t.ls.length <= 1000000) : Con Tryz.prog 58 [vTm t, .fp [vi x] 0] [] fun r _ => r = .sc (.bool (decide (x ∈ t.ls))) := by
 refine Con.intro Tryz.func58 rfl Tryz.ntmps58 Tryz.results58 (by kernel_rfl) (by simp) 0 (by simp) ?_
 have e : (t.ls.any fun y => x == y) = decide (x ∈ t.ls) := by
  rw [Bool.eq_iff_iff, List.any_eq_true, decide_eq_true_eq]
  constructor
  ·rintro ⟨y, hy, h⟩; rw [beq_iff_eq.1 h]; exact hy
  ·intro h; exact ⟨x, h, beq_self_eq_true _⟩
 have hc := con_mxContains t.ls x (by omega)
 rw [e] at hc
 simp only [go_sem]
 refine CallU.free hc (by simp only [go_sem]) (by simp only [go_sem]) ?_
 rintro r bx rfl
 simp only [go_sem]
theorem beh_none {x : Int} : ∀ {p : List TmD}, (p.any fun t => decide (x ∈ t.ls)) = false -> behP x p = none
 | [], _ => rfl
 | u :: p, h => by
  rw [List.any_cons, Bool.or_eq_false_iff] at h
  rw [behP, if_neg (of_decide_eq_false h.1)]
  exact beh_none h.2
theorem beh_some {x : Int} : ∀ {p : List TmD} {i : Nat}, i < p.length -> (∀ j, j < i -> x ∉ p[j]!.ls) -> x ∈ p[i]!.ls -> behP x p = some (p.drop (if p[i]!.star then i else i + 1))
 | [], i, h, _, _ => by simp at h
 | u :: p, 0, _, _, h => by
  have h : x ∈ u.ls := h
  rw [behP, if_pos h]
  show _ = some ((u :: p).drop (if u.star then 0 else 0 + 1))
  cases u.star <;> rfl
 | u :: p, i + 1, hi, hb, h => by
  have h0 : x ∉ u.ls := hb 0 (by omega)
  rw [behP, if_neg h0, beh_some (p := p) (i := i) (by simpa using hi) (fun j hj => hb (j + 1) (by omega)) h]
  show some (p.drop (if p[i]!.star then i else i + 1)) = some ((u :: p).drop (if p[i]!.star then i + 1 else i + 1 + 1))
  cases p[i]!.star <;> rfl
def behX (n : Int) (p : List TmD) (x : Int) : AV := if letX n p x ≠ 0 then .tup [.nil, vb false, vi (letX n p x)] else match behP x p with
 | none => .tup [.nil, vb false, vi 0]
 | some q => .tup [vPr (normP q), vb true, vi 0]
theorem lenP_drop {p : List TmD} (h : LenP p) (k : Nat) : LenP (p.drop k) := ⟨by have := h.len; rw [List.length_drop]; omega, fun t ht => h.terms t (List.mem_of_mem_drop ht)⟩
theorem con_xBehind (n : Int) (p : List TmD) (x : Int) (hp : LenP p) : Con Tryz.prog 25 [vi n, vPr p, vi x] [] fun r _ => r = behX n p x := by
 refine Con.intro Tryz.func25 rfl Tryz.ntmps25 Tryz.results25 (by kernel_rfl) (by simp) 0 (by simp) ?_
 have hpl := hp.len
 have hc := con_xletter n p x hp
 have hx := con_indexTm p 58 [.fp [vi x] 0] (fun t => decide (x ∈ t.ls)) (by simp only [go_sem]) (fun t ht => con_xBehind1 t x (hp.terms t ht)) (by omega)
 simp only [vPr] at hc hx
 unfold behX
 simp only [go_sem]
 refine CallU.free hc (by simp only [go_sem]) (by simp only [go_sem]) ?_
 rintro r bx rfl
 by_cases h : letX n p x = 0
 case neg =>
  have h' : (letX n p x != 0) = true := bne_iff_ne.2 h
  simp only [go_sem, h, h', not_false_iff, if_true]
 obtain ⟨hv, _⟩ := let_zero h
 simp only [go_sem, h, if_false]
 refine CallU.look hx (by simp only [go_sem]) (by simp only [go_sem]) ?_
 rintro r bx rfl
 cases ha : p.any fun t => decide (x ∈ t.ls) with
 | false =>
  have hi : findI (fun t : TmD => decide (x ∈ t.ls)) p = -1 := findI_none fun j hj => by
   rw [List.any_eq_false] at ha
   have := ha _ (mem_bangI hj)
   simpa using this
  rw [hi, beh_none ha]
  simp only [go_sem, h, not_true, if_false]
 | true =>
  obtain ⟨i, hi, hb, hpi⟩ : ∃ i, i < p.length /\ (∀ j, j < i -> x ∉ p[j]!.ls) /\ x ∈ p[i]!.ls := by
   cases hf : p.findIdx? fun t => decide (x ∈ t.ls) with
   | none =>
    rw [List.findIdx?_eq_none_iff] at hf
    obtain ⟨t, ht, hb⟩ := List.any_eq_true.1 ha
    rw [hf t ht] at hb; cases hb
   | some i =>
    obtain ⟨h1, h2, h3⟩ := List.findIdx?_eq_some_iff_getElem.1 hf
    refine ⟨i, h1, fun j hj => ?_, ?_⟩
    ·have := h3 j hj
     rw [getElem!_pos p j (by omega)]
     simpa using this
    ·rw [getElem!_pos p i h1]
     simpa using h2
  have hfi : findI (fun t : TmD => decide (x ∈ t.ls)) p = i := findI_stop hi (fun j hj => decide_eq_false (hb j hj)) (decide_eq_true hpi)
  have hg := getTm hi
  have hneg : ¬ (i : Int) < 0 := by omega
  have hw : IntKind.i64.wrap ((i : Int) + 1) = (i : Int) + 1 := wrap_in (by omega) (by omega)
  have hok : ∀ k, OkP (p.drop k) := fun k t ht => hv.ok t (List.mem_of_mem_drop ht)
  have htk : (p.map vTm).take p.length = p.map vTm := List.take_of_length_le (by simp)
  rw [hfi, beh_some hi hb hpi]
  cases hs : p[i]!.star with
  | true =>
   have hn := con_xnormalF (p.drop i) (hok i) (lenP_drop hp i)
   have hle : (i : Int) <= (p.length : Int) := by omega
   have hd := drop_tm p i
   simp only [vPr] at hn
   rw [hs] at hg
   simp only [go_sem, hi, hg, hneg, htk, hd, List.length_map]
   refine ⟨by omega, Nat.le_refl _, ?_⟩
   refine CallU.free hn (by simp only [go_sem]) (by simp only [go_sem]) ?_
   rintro r bx rfl
   simp only [go_sem, h, not_true, if_false, if_true]
  | false =>
   have hn := con_xnormalF (p.drop (i + 1)) (hok _) (lenP_drop hp _)
   have hle : (0 : Int) <= (i : Int) + 1 := by omega
   have ht : ((i : Int) + 1).toNat = i + 1 := by omega
   have hd := drop_tm p (i + 1)
   simp only [vPr] at hn
   rw [hs] at hg
   simp only [go_sem, hi, hg, hneg, hle, ht, hw, htk, hd, List.length_map]
   refine ⟨by omega, Nat.le_refl _, ?_⟩
   refine CallU.free hn (by simp only [go_sem]) (by simp only [go_sem]) ?_
   rintro r bx rfl
   simp only [go_sem, h, not_true, if_false, Bool.false_eq_true]
theorem share9b {body : (Exit -> St -> Prop) -> St -> Prop} {Q : Exit -> St -> Prop} {T : St -> Prop} {A : Prop} (h : (∀ τ, T τ -> LoopK body Q τ) -> A) (key : ∀ τ, T τ -> LoopK body Q τ) : A := h key
theorem mem_not {l : List Int} {x : Int} (h : ∀ j, j < l.length -> l[j]! ≠ x) : decide (x ∈ l) = false := by
 refine decide_eq_false fun hm => ?_
 obtain ⟨j, hj, e⟩ := List.getElem_of_mem hm
 exact h j hj (by rw [getElem!_pos l j hj]; exact e)
theorem con_r09has (l : List Int) (x : Int) (hl : l.length <= 1000000) : Con Tryz.prog 60 [vs 0 l, vi x] [] fun r _ => r = vb (decide (x ∈ l)) := by
 refine Con.intro Tryz.func60 rfl Tryz.ntmps60 Tryz.results60 (by kernel_rfl) (by simp) 0 (by simp) ?_
 simp only [go_sem]
 refine LoopK.intro (fun i : Nat => ⟨18, [(0, vs 0 l), (1, vi x), (5, vi i)], []⟩)
  (fun i => l.length - i) (fun i => i <= l.length /\ ∀ j, j < i -> l[j]! ≠ x) 0 ⟨Nat.zero_le _, fun j hj => by omega⟩ ?_ ?_
 ·simp only [go_sem]
 rintro i ⟨hi, hn⟩
 by_cases h : i < l.length
 case neg =>
  have e := mem_not (l := l) (x := x) fun j hj => hn j (by omega)
  simp only [go_sem, h, e]
 have hg := getv h
 have hwi : IntKind.i64.wrap (i + 1) = i + 1 := wrap_in (by omega) (by omega)
 by_cases he : l[i]! = x
 ·have e : decide (x ∈ l) = true := decide_eq_true (by rw [<- he]; exact mem_bangI h)
  have hb : (l[i]! == x) = true := beq_iff_eq.2 he
  simp only [go_sem, h, hg, hb, e]
 ·have hb : (l[i]! == x) = false := beq_eq_false_iff_ne.2 he
  simp only [go_sem, h, hg, hb, hwi]
  refine roundK.intro (i + 1) ⟨by omega, fun j hj => ?_⟩ (by omega) ?_
  ·by_cases hji : j = i
   ·rw [hji]; exact he
   ·exact hn j (by omega)
  simp only [go_sem]
def subL (a b : List Int) : Bool := a.all fun x => decide (x ∈ b)
theorem con_r09subset (a b : List Int) (ha : a.length <= 1000000) (hb : b.length <= 1000000) : Con Tryz.prog 84 [vs 0 a, vs 0 b] [] fun r _ => r = vb (subL a b) := by
 refine Con.intro Tryz.func84 rfl Tryz.ntmps84 Tryz.results84 (by kernel_rfl) (by simp) 0 (by simp) ?_
 simp only [go_sem]
 refine LoopK.intro (fun i : Nat => ⟨19, [(0, vs 0 a), (1, vs 0 b), (5, vi i)], []⟩)
  (fun i => a.length - i) (fun i => i <= a.length /\ ∀ j, j < i -> a[j]! ∈ b) 0 ⟨Nat.zero_le _, fun j hj => by omega⟩ ?_ ?_
 ·simp only [go_sem]
 rintro i ⟨hi, hn⟩
 by_cases h : i < a.length
 case neg =>
  have e : subL a b = true := List.all_eq_true.2 fun x hx => by
   obtain ⟨j, hj, ej⟩ := List.getElem_of_mem hx
   have := hn j (by omega)
   rw [getElem!_pos a j hj, ej] at this
   exact decide_eq_true this
  simp only [go_sem, h, e]
 have hg := getv h
 have hwi : IntKind.i64.wrap (i + 1) = i + 1 := wrap_in (by omega) (by omega)
 have hc := con_r09has b a[i]! hb
 simp only [go_sem, h, hg]
 refine CallU.free hc (by simp only [go_sem]) (by simp only [go_sem]) ?_
 rintro r bx rfl
 by_cases he : a[i]! ∈ b
 ·simp only [go_sem, he, hwi, decide_true]
  refine roundK.intro (i + 1) ⟨by omega, fun j hj => ?_⟩ (by omega) ?_
  ·by_cases hji : j = i
   ·rw [hji]; exact he
   ·exact hn j (by omega)
  simp only [go_sem]
 ·have e : subL a b = false := by
   unfold subL
   rw [List.all_eq_false]
   exact ⟨a[i]!, mem_bangI h, by simpa using he⟩
  simp only [go_sem, he, e, decide_false]
theorem con_r02ValidG (w : List Int) (hl : w.length <= 1000000) : Con Tryz.prog 51 [vs 0 w] [] fun r _ => r = vb (validW w) := by
 refine Con.intro Tryz.func51 rfl Tryz.ntmps51 Tryz.results51 (by kernel_rfl) (by simp) 0 (by simp) ?_
 simp only [go_sem]
 refine LoopK.intro (fun i : Nat => ⟨25, [(0, vs 0 w), (3, vi i)], []⟩)
  (fun i => w.length - i) (fun i => i <= w.length /\ ∀ j, j < i -> 0 <= w[j]! /\ w[j]! < 16) 0 ⟨Nat.zero_le _, fun j hj => by omega⟩ ?_ ?_
 ·simp only [go_sem]
 rintro i ⟨hi, hn⟩
 by_cases h : i < w.length
 case neg =>
  have e : (w.all fun x => decide (0 <= x /\ x < 16)) = true := List.all_eq_true.2 fun x hx => by
   obtain ⟨j, hj, ej⟩ := List.getElem_of_mem hx
   have := hn j (by omega)
   rw [getElem!_pos w j hj, ej] at this
   exact decide_eq_true this
  have e2 : validW w = decide ((w.length : Int) <= 12) := by
   unfold validW
   rw [e, Bool.and_true, decide_eq_decide]; omega
  simp only [go_sem, h, e2, List.length_map]
 have hg := getv h
 have hwi : IntKind.i64.wrap (i + 1) = i + 1 := wrap_in (by omega) (by omega)
 have hbad : ¬ (0 <= w[i]! /\ w[i]! < 16) -> validW w = false := fun hb => by
  unfold validW
  rw [Bool.and_eq_false_iff]
  exact .inr (List.all_eq_false.2 ⟨w[i]!, mem_bangI h, by simpa using hb⟩)
 by_cases e1 : w[i]! < 0
 ·have e := hbad (by omega)
  simp only [go_sem, h, hg, e1, e, List.length_map]
 ·by_cases e2 : 16 <= w[i]!
  ·have e := hbad (by omega)
   simp only [go_sem, h, hg, e1, e2, e, List.length_map]
  ·simp only [go_sem, h, hg, e1, e2, hwi, List.length_map]
   refine roundK.intro (i + 1) ⟨by omega, fun j hj => ?_⟩ (by omega) ?_
   ·by_cases hji : j = i
    ·rw [hji]; omega
    ·exact hn j (by omega)
   simp only [go_sem]
theorem drop_bang' {α : Type} [Inhabited α] {p : List α} {i : Nat} (h : i < p.length) : p.drop i = p[i]! :: p.drop (i + 1) := by
 rw [List.drop_eq_getElem_cons h, getElem!_pos p i h]
theorem con_r09in (p : List TmD) (w : List Int) (hp : LenP p) (hw : w.length <= 1000000) : Con Tryz.prog 52 [vPr p, vs 0 w] [] fun r _ => r = vb (memP p w) := by
 refine Con.intro Tryz.func52 rfl Tryz.ntmps52 Tryz.results52 (by kernel_rfl) (by simp) 0 (by simp) ?_
 have hpl := hp.len
 simp only [go_sem]
 refine LoopK.intro (fun x : Nat × Nat => ⟨41, [(0, vPr p), (1, vs 0 w), (5, vi x.2), (6, vi x.1)], []⟩)
  (fun x => p.length - x.1) (fun x => x.1 <= p.length /\ x.2 <= w.length /\ memP (p.drop x.1) (w.drop x.2) = memP p w) (0, 0) ⟨Nat.zero_le _, Nat.zero_le _, rfl⟩ ?_ ?_
 ·simp only [go_sem]
 rintro ⟨i, a⟩ ⟨hi, ha, hm⟩
 simp only at hi ha hm
 by_cases h : i < p.length
 case neg =>
  have e : p.drop i = [] := List.drop_eq_nil_of_le (by omega)
  rw [e] at hm
  by_cases h2 : a = w.length
  ·have e2 : w.drop a = [] := List.drop_eq_nil_of_le (by omega)
   rw [e2, memP_nil] at hm
   have hb : ((a : Int) == w.length) = true := beq_iff_eq.2 (by omega)
   simp only [go_sem, h, hb, <- hm, List.length_map]
  ·rw [drop_bang' (show a < w.length by omega), memP_none] at hm
   have hb : ((a : Int) == w.length) = false := beq_eq_false_iff_ne.2 (by omega)
   simp only [go_sem, h, hb, <- hm, List.length_map]
 have hg := getTm h
 have hwi : IntKind.i64.wrap (i + 1) = i + 1 := wrap_in (by omega) (by omega)
 have htl := hp.terms _ (mem_bangI h)
 rw [drop_bang' h] at hm
 simp only [go_sem, h, List.length_map]
 refine LoopK.intro (fun a : Nat => ⟨41, [(0, vPr p), (1, vs 0 w), (5, vi a), (6, vi i)], []⟩)
  (fun a => w.length - a) (fun a => a <= w.length /\ memP (p[i]! :: p.drop (i + 1)) (w.drop a) = memP p w) a ⟨ha, hm⟩ ?_ ?_
 ·simp only [go_sem]
 clear hm ha
 rintro a ⟨ha, hm⟩
 by_cases h2 : a < w.length
 case neg =>
  have e2 : w.drop a = [] := List.drop_eq_nil_of_le (by omega)
  rw [e2, memP_nil] at hm
  simp only [go_sem]
  refine DrawK.walk 15 mixed (by kernel_rfl) ?_
  simp only [go_sem, h2, hwi, List.length_map]
  refine roundK.intro (i + 1, a) ⟨by show i + 1 <= _; omega, ha, by show memP (p.drop (i + 1)) (w.drop a) = _; rw [e2, memP_nil]; exact hm⟩ (by show p.length - (i + 1) < p.length - i; omega) ?_
  simp only [go_sem]
 have hg2 := getv h2
 have hwa : IntKind.i64.wrap (a + 1) = a + 1 := wrap_in (by omega) (by omega)
 have hc := con_r09has p[i]!.ls w[a]! htl
 rw [drop_bang' h2] at hm
 simp only [go_sem]
 refine DrawK.walk 15 mixed (by kernel_rfl) ?_
 simp only [go_sem, h, hg, h2, hg2, List.length_map]
 refine CallY.mk hc (by simp only [go_sem]) (by simp only [go_sem]) (.inl (by simp only [go_sem])) ?_
 by_cases he : w[a]! ∈ p[i]!.ls
 ·cases hs : p[i]!.star with
  | true =>
   rw [memP_in he hs] at hm
   simp only [go_sem, he, h, hg, hs, hwa, decide_true, List.length_map]
   refine roundK.intro (a + 1) ⟨by omega, hm⟩ (by omega) ?_
   simp only [go_sem]
  | false =>
   rw [memP_one he hs] at hm
   simp only [go_sem, he, h, hg, hs, hwa, hwi, decide_true, List.length_map]
   refine roundK.intro (i + 1, a + 1) ⟨by show i + 1 <= _; omega, by show a + 1 <= _; omega, hm⟩ (by show p.length - (i + 1) < p.length - i; omega) ?_
   simp only [go_sem]
 ·rw [memP_out he, <- drop_bang' h2] at hm
  simp only [go_sem, he, hwi, decide_false]
  refine roundK.intro (i + 1, a) ⟨by show i + 1 <= _; omega, ha, hm⟩ (by show p.length - (i + 1) < p.length - i; omega) ?_
  simp only [go_sem]
end Go.AM
namespace Go.AM
theorem mod_set {α : Type} {f : α -> α} : ∀ {L : List α} {i : Nat} {a : α}, L[i]? = some a -> L.modify i f = L.set i (f a)
 | [], _, _, h => by simp at h
 | x :: L, 0, a, h => by
  have : x = a := by simpa using h
  subst this; rfl
 | x :: L, i + 1, a, h => by
  have := mod_set (f := f) (L := L) (i := i) (a := a) (by simpa using h)
  rw [List.modify_succ_cons, this]; rfl
end Go.AM
namespace Go.AM
open Go Go.Proofs Go.RowKit
set_option maxRecDepth 100000
set_option maxHeartbeats 8000000
@[go_sem] theorem typed_cl {P : Program} {d : Nat} {T : TypeId} {f : FuncId} {caps : List AV} : typed P d T (.cl f caps) = .cl f caps := rfl
theorem any_first {α : Type} [Inhabited α] {p : α -> Bool} {l : List α} (h : l.any p = true) : ∃ i, i < l.length /\ (∀ j, j < i -> p l[j]! = false) /\ p l[i]! = true := by
 cases hf : l.findIdx? p with
 | none =>
  rw [List.findIdx?_eq_none_iff] at hf
  obtain ⟨t, ht, hb⟩ := List.any_eq_true.1 h
  rw [hf t ht] at hb; cases hb
 | some i =>
  obtain ⟨h1, h2, h3⟩ := List.findIdx?_eq_some_iff_getElem.1 hf
  refine ⟨i, h1, fun j hj => ?_, ?_⟩
  ·have := h3 j hj
   rw [getElem!_pos l j (by omega)]
   simpa using this
  ·rw [getElem!_pos l i h1]; exact h2
structure DelI {α : Type} [Inhabited α] (l : List α) (p : α -> Bool) (D : List α) (q j : Nat) : Prop where
 len : D.length = l.length
 lt : q < j
 le : j <= l.length
 front : D.take q = (l.take j).filter fun x => !p x
 back : D.drop j = l.drop j
section
variable {α : Type} [Inhabited α] {l D : List α} {p : α -> Bool} {q j i : Nat}
theorem del_start (hi : i < l.length) (hb : ∀ j, j < i -> p l[j]! = false) (hp : p l[i]! = true) : DelI l p l i (i + 1) := by
 refine ⟨rfl, by omega, by omega, ?_, rfl⟩
 have e : (l.take i).filter (fun x => !p x) = l.take i := List.filter_eq_self.2 fun x hx => by
  obtain ⟨k, hk, rfl⟩ := List.getElem_of_mem hx
  rw [List.length_take] at hk
  have := hb k (by omega)
  rw [getElem!_pos l k (by omega)] at this
  simp [this]
 have e2 : [l[i]!].filter (fun x => !p x) = [] := by rw [List.filter_cons, hp]; rfl
 rw [List.take_succ_eq_append_getElem hi, List.filter_append, e, <- getElem!_pos l i hi, e2, List.append_nil]
theorem DelI.same (h : DelI l p D q j) (hj : j < l.length) : D[j]! = l[j]! := by
 have hl := h.len
 have := congrArg (fun x => x[0]?) h.back
 simp only [List.getElem?_drop, Nat.add_zero] at this
 rw [getElem!_pos D j (by omega), getElem!_pos l j hj]
 rw [List.getElem?_eq_getElem (by omega), List.getElem?_eq_getElem hj] at this
 exact Option.some.inj this
theorem DelI.drop (h : DelI l p D q j) (hj : j < l.length) (hp : p l[j]! = true) : DelI l p D q (j + 1) := by
 have hlt := h.lt
 refine ⟨h.len, by omega, by omega, ?_, ?_⟩
 ·have e2 : [l[j]!].filter (fun x => !p x) = [] := by rw [List.filter_cons, hp]; rfl
  rw [h.front, List.take_succ_eq_append_getElem hj, List.filter_append, <- getElem!_pos l j hj, e2, List.append_nil]
 ·rw [<- List.drop_drop, <- List.drop_drop, h.back]
theorem DelI.keep (h : DelI l p D q j) (hj : j < l.length) (hp : p l[j]! = false) : DelI l p (D.set q l[j]!) (q + 1) (j + 1) := by
 have hlt := h.lt; have hle := h.le; have hl := h.len
 refine ⟨by rw [List.length_set]; exact hl, by omega, by omega, ?_, ?_⟩
 ·rw [List.take_succ_eq_append_getElem hj, List.filter_append, <- h.front, <- getElem!_pos l j hj]
  have e2 : [l[j]!].filter (fun x => !p x) = [l[j]!] := by rw [List.filter_cons, hp]; rfl
  rw [e2, List.take_succ_eq_append_getElem (by rw [List.length_set]; omega), List.take_set_of_le (Nat.le_refl _), List.getElem_set_self]
 ·rw [List.drop_set_of_lt (by omega), <- List.drop_drop, <- List.drop_drop, h.back]
theorem DelI.stop (h : DelI l p D q j) (hj : l.length <= j) : D.take q = l.filter fun x => !p x := by
 rw [h.front, List.take_of_length_le hj]
end
theorem getPr {l : List (List TmD)} {i : Nat} (h : i < l.length) : (l.map vPr)[i]? = some (.sl 0 2 (l[i]!.map vTm)) := by
 rw [List.getElem?_map, List.getElem?_eq_getElem h, getElem!_pos l i h]; rfl
theorem mod_Pr {D : List (List TmD)} {q : Nat} {x : List TmD} (h : q < D.length) : (D.map vPr).modify q (updElem 0 [vPr x]) = (D.set q x).map vPr := by
 rw [mod_set (getPr h), List.map_set]; rfl
theorem mod_In {D : List Int} {q : Nat} {x : Int} (h : q < D.length) : (D.map vi).modify q (updElem 0 [vi x]) = (D.set q x).map vi := by
 rw [mod_set (getv h), List.map_set]; rfl
theorem con_indexPr (l : List (List TmD)) (f : FuncId) (caps : List AV) (p : List TmD -> Bool) (hc : mapTops (viewV []) caps = caps) (hf : ∀ x ∈ l, Con Tryz.prog f ([vPr x] ++ caps) [] fun r _ => r = .sc (.bool (p x))) (hl : l.length <= 9223372036854775806) : Con Tryz.prog 103 [.sl 0 1 (l.map vPr), .fn f caps] [] fun r _ => r = vi (findI p l) := by
 refine Con.intro Tryz.func103 rfl Tryz.ntmps103 Tryz.results103 (by kernel_rfl) (by simp) 0 (by simp) ?_
 simp only [go_sem]
 refine LoopK.intro (fun i : Nat => ⟨19, [(0, .sl 0 1 (l.map vPr)), (1, .fn f caps), (7, vi l.length), (8, vi i)], []⟩)
  (fun i => l.length - i) (fun i => i <= l.length /\ ∀ j, j < i -> p l[j]! = false) 0 ⟨by omega, fun j hj => by omega⟩ ?_ ?_
 ·simp only [go_sem]
  all_goals exact leV_refl _
 ·rintro i ⟨hi, hb⟩
  by_cases h : i < l.length
  ·have hg := getPr h
   have hw : IntKind.i64.wrap (i + 1) = i + 1 := wrap_in (by omega) (by omega)
   have hx := hf l[i]! (mem_bangI h)
   simp only [vPr] at hx
   simp only [go_sem, h, hg, List.length_map]
   refine CallU.look hx (by simp only [go_sem]) (by simp only [go_sem, hc]) ?_
   rintro r bx rfl
   cases hp : p l[i]!
   ·simp only [go_sem, hw]
    refine roundK.intro (i + 1) ⟨by omega, fun j hj => ?_⟩ (by omega) ?_
    ·by_cases hji : j = i
     ·subst hji; exact hp
     ·exact hb j (by omega)
    ·simp only [go_sem]
     all_goals exact leV_refl _
   ·simp only [go_sem]
    rw [findI_stop h hb hp]
  ·simp only [go_sem, h]
   rw [findI_none (fun j hj => hb j (by omega))]
theorem con_containsPr (l : List (List TmD)) (f : FuncId) (caps : List AV) (p : List TmD -> Bool) (hc : mapTops (viewV []) caps = caps) (hf : ∀ x ∈ l, Con Tryz.prog f ([vPr x] ++ caps) [] fun r _ => r = .sc (.bool (p x))) (hl : l.length <= 9223372036854775806) : Con Tryz.prog 87 [.sl 0 1 (l.map vPr), .fn f caps] [] fun r _ => r = .sc (.bool (l.any p)) := by
 refine Con.intro Tryz.func87 rfl Tryz.ntmps87 Tryz.results87 (by kernel_rfl) (by simp) 0 (by simp) ?_
 have hx := con_indexPr l f caps p hc hf hl
 simp only [go_sem]
 refine CallU.look hx (by simp only [go_sem]) (by simp only [go_sem]) ?_
 rintro r bx rfl
 simp only [go_sem, findI_ge]
theorem con_delFuncPr (l : List (List TmD)) (f : FuncId) (c : List TmD) (p : List TmD -> Bool) (hf : ∀ x ∈ l, Con Tryz.prog f [vPr x, .fp [vPr c] 0] [] fun r _ => r = .sc (.bool (p x))) (hl : l.length <= 1000000) :
  ConX Tryz.prog 89 [.sl 2 1 (l.map (vPr)), .cl f [.pb 0 0]] [[vPr c]] fun r b => r = .sl 2 1 ((l.filter fun x => !p x).map (vPr)) /\ b = [[vPr c]] := by
 refine ConX.intro Tryz.func89 rfl Tryz.ntmps89 Tryz.results89 (by kernel_rfl) (by simp) 1 (by simp) ?_
 have hx := con_indexPr l f [.fp [vPr c] 0] p (by simp only [go_sem]) hf (by omega)
 simp only [go_sem] at hx
 simp only [go_sem]
 refine CallU.look hx (by simp only [go_sem]) (by simp only [go_sem]) ?_
 rintro r bx rfl
 cases ha : l.any p with
 | false =>
  have hi : findI p l = -1 := findI_none fun j hj => by
   rw [List.any_eq_false] at ha
   simpa using ha _ (mem_bangI hj)
  have he : (l.filter fun x => !p x) = l := List.filter_eq_self.2 fun x hx => by
   rw [List.any_eq_false] at ha
   simpa using ha x hx
  rw [hi, he]
  simp only [go_sem]
 | true =>
  obtain ⟨i, hi, hb, hpi⟩ := any_first ha
  have hfi : findI p l = i := findI_stop hi hb hpi
  have hne : ((i : Int) == -1) = false := beq_eq_false_iff_ne.2 (by omega)
  have hw : IntKind.i64.wrap ((i : Int) + 1) = ((i + 1 : Nat) : Int) := by rw [wrap_in (by omega) (by omega)]; omega
  rw [hfi]
  simp only [go_sem, hne, hw]
  refine LoopK.intro (fun x : List (List TmD) × Nat × Nat => ⟨42, [(0, .sl 2 1 (x.1.map (vPr))), (1, .cl f [.pb 0 0]), (5, vi x.2.1), (6, vi x.2.2)], [[vPr c]]⟩)
   (fun x => l.length - x.2.2) (fun x => DelI l p x.1 x.2.1 x.2.2) (l, i, i + 1) (del_start hi hb hpi) ?_ ?_
  ·simp only [go_sem]
  rintro ⟨D, q, j⟩ hI
  have hDl := hI.len
  have hqj := hI.lt
  have hjl := hI.le
  simp only at hI hDl hqj hjl
  have hwj : IntKind.i64.wrap ((j : Int) + 1) = ((j + 1 : Nat) : Int) := by rw [wrap_in (by omega) (by omega)]; omega
  have hwq : IntKind.i64.wrap ((q : Int) + 1) = ((q + 1 : Nat) : Int) := by rw [wrap_in (by omega) (by omega)]; omega
  by_cases h : j < l.length
  case neg =>
   have e := hI.stop (by omega)
   have h' : ¬ (j : Int) < (D.length : Int) := by omega
   have hqD : (q : Int) <= (D.length : Int) := by omega
   simp only [go_sem, h', List.length_map]
   exact ⟨by omega, by omega, by rw [setSeg_length, List.length_map]; omega, by rw [setSeg_take, setSeg_out _ _ _ (by simp; omega), <- List.map_take, e]⟩
  have h' : (j : Int) < (D.length : Int) := by omega
  have hjD : j < D.length := by omega
  have hqD : q < D.length := by omega
  have hg := getPr hjD
  have hDj := hI.same h
  have hfx := hf l[j]! (mem_bangI h)
  rw [hDj] at hg
  simp only [go_sem] at hfx
  simp only [go_sem, h', hg, List.length_map]
  refine CallU.look hfx (by simp only [go_sem]) (by simp only [go_sem]) ?_
  rintro r bx rfl
  cases hp : p l[j]! with
  | true =>
   simp only [go_sem, hwj]
   refine roundK.intro (D, q, j + 1) (hI.drop h hp) (by show l.length - (j + 1) < l.length - j; omega) ?_
   simp only [go_sem]
  | false =>
   have hm := mod_Pr (x := l[j]!) hqD
   simp only [go_sem] at hm
   simp only [go_sem, hqD, hwj, hwq, hm, List.length_map]
   refine roundK.intro (D.set q l[j]!, q + 1, j + 1) (hI.keep h hp) (by show l.length - (j + 1) < l.length - j; omega) ?_
   simp only [go_sem]
def maxTree : Tr := .front 0 (.alt (.one 1 (.alt (.one 2 (.one 3 (.one 4 (.one 5 (.one 6 .done))))) (.one 3 (.alt (.one 2 (.one 4 (.one 5 (.one 6 .done)))) (.one 4 (.one 2 (.one 5 (.one 6 .done)))))))) (.one 3 (.alt (.one 1 (.alt (.one 2 (.one 4 (.one 5 (.one 6 .done)))) (.one 4 (.one 2 (.one 5 (.one 6 .done)))))) (.one 4 (.one 1 (.one 2 (.one 5 (.one 6 .done))))))))
theorem con_xmax1 (q p : List TmD) (hq : OkP q) (hp : OkP p) (hql : LenP q) (hpl : LenP p) : Con Tryz.prog 88 [vPr q, .fp [vPr p] 0] [] fun r _ => r = .sc (.bool (leqP p q)) := by
 refine Con.intro Tryz.func88 rfl Tryz.ntmps88 Tryz.results88 (by kernel_rfl) (by simp) 0 (by simp) ?_
 have hc := con_xleq p q hp hq hpl.len hql.len hpl.terms hql.terms
 simp only [vPr] at hc
 simp only [go_sem]
 refine CallU.free hc (by simp only [go_sem]) (by simp only [go_sem]) ?_
 rintro r bx rfl
 simp only [go_sem]
theorem con_xmax2 (q p : List TmD) (hq : OkP q) (hp : OkP p) (hql : LenP q) (hpl : LenP p) : Con Tryz.prog 90 [vPr q, .fp [vPr p] 0] [] fun r _ => r = .sc (.bool (leqP q p)) := by
 refine Con.intro Tryz.func90 rfl Tryz.ntmps90 Tryz.results90 (by kernel_rfl) (by simp) 0 (by simp) ?_
 have hc := con_xleq q p hq hp hql.len hpl.len hql.terms hpl.terms
 simp only [vPr] at hc
 simp only [go_sem]
 refine CallU.free hc (by simp only [go_sem]) (by simp only [go_sem]) ?_
 rintro r bx rfl
 simp only [go_sem]
theorem con_xinsert1 (l : List (List TmD)) (hl : l.length <= 1) : Con Tryz.prog 108 [.sl 0 1 (l.map vPr), vi 0, vi l.length, .fn 15 []] [] fun r _ => r = .tup [] := by
 refine Con.intro Tryz.func108 rfl Tryz.ntmps108 Tryz.results108 (by kernel_rfl) (by simp) 0 (by simp) ?_
 have w1 : IntKind.i64.wrap 1 = 1 := wrap_in (by omega) (by omega)
 have h1 : ¬ (1 : Int) < (l.length : Int) := by omega
 simp only [go_sem, w1]
 refine LoopK.intro (fun _ : Unit => ⟨53, [(2, vi l.length), (8, vi 1)], []⟩) (fun _ => 0) (fun _ => True) () trivial ?_ ?_
 ·simp only [go_sem]
 rintro ⟨⟩ _
 simp only [go_sem, h1]
theorem con_xpdq1 (l : List (List TmD)) (hl : l.length <= 1) (v : Int) : Con Tryz.prog 104 [.sl 0 1 (l.map vPr), vi 0, vi l.length, vi v, .fn 15 []] [] fun r _ => r = .tup [] := by
 refine Con.intro Tryz.func104 rfl Tryz.ntmps104 Tryz.results104 (by kernel_rfl) (by simp) 0 (by simp) ?_
 have w1 : IntKind.i64.wrap ((l.length : Int) - 0) = l.length := by rw [wrap_in (by omega) (by omega)]; omega
 have h12 : (l.length : Int) <= 12 := by omega
 simp only [go_sem]
 refine LoopK.intro (fun _ : Unit => ⟨148, [(0, .sl 0 1 (l.map vPr)), (1, vi 0), (2, vi l.length), (3, vi v), (4, .fn 15 [])], []⟩) (fun _ => 0) (fun _ => True) () trivial ?_ ?_
 ·simp only [go_sem]
 rintro ⟨⟩ _
 have hc := con_xinsert1 l hl
 simp only [go_sem, w1, h12]
 refine CallU.free hc (by simp only [go_sem]) (by simp only [go_sem]) ?_
 rintro r bx rfl
 simp only [go_sem]
theorem con_xlen64 (n : Nat) (hn : n <= 1) : Con Tryz.prog 117 [.sc (.int .u64 n)] [] fun r _ => ∃ v, r = vi v := by
 refine Con.intro Tryz.func117 rfl Tryz.ntmps117 Tryz.results117 (by kernel_rfl) (by simp) 0 (by simp) ?_
 have h1 : ¬ (4294967296 : Int) <= n := by omega
 have h2 : ¬ (65536 : Int) <= n := by omega
 have h3 : ¬ (256 : Int) <= n := by omega
 simp only [go_sem, h1, h2, h3]
 have h : n = 0 \/ n = 1 := by omega
 rcases h with rfl | rfl
 ·exact ⟨0, by kernel_rfl, by simp only [go_sem]; exact ⟨_, rfl⟩⟩
 ·exact ⟨1, by kernel_rfl, by simp only [go_sem]; exact ⟨_, rfl⟩⟩
theorem con_xlen (n : Nat) (hn : n <= 1) : Con Tryz.prog 105 [.sc (.int .u64 n)] [] fun r _ => ∃ v, r = vi v := by
 refine Con.intro Tryz.func105 rfl Tryz.ntmps105 Tryz.results105 (by kernel_rfl) (by simp) 0 (by simp) ?_
 have hc := con_xlen64 n hn
 simp only [go_sem]
 refine CallU.free hc (by simp only [go_sem]) (by simp only [go_sem]) ?_
 rintro r bx ⟨v, rfl⟩
 simp only [go_sem]
 exact ⟨v, rfl⟩
theorem con_xsort1 (l : List (List TmD)) (hl : l.length <= 1) : Con Tryz.prog 91 [.sl 0 1 (l.map vPr), .fn 15 []] [] fun r _ => r = .tup [] := by
 refine Con.intro Tryz.func91 rfl Tryz.ntmps91 Tryz.results91 (by kernel_rfl) (by simp) 0 (by simp) ?_
 have w2 : IntKind.u64.wrap (l.length : Int) = l.length := by rw [IntKind.wrap_u64]; omega
 have hc := con_xlen l.length hl
 have hd := con_xpdq1 l hl
 simp only [go_sem, w2]
 refine CallU.free hc (by simp only [go_sem]) (by simp only [go_sem]) ?_
 rintro r bx ⟨v, rfl⟩
 simp only [go_sem]
 refine CallU.free (hd v) (by simp only [go_sem]) (by simp only [go_sem]) ?_
 rintro r bx rfl
 simp only [go_sem]
def maxF (l : List (List TmD)) (i : Nat) : List (List TmD) := maxL (l.take i)
theorem maxF_succ {l : List (List TmD)} {i : Nat} (h : i < l.length) : maxF l (i + 1) = insM (maxF l i) (normP l[i]!) := by
 unfold maxF maxL
 rw [List.take_succ_eq_append_getElem h, List.foldl_append, <- getElem!_pos l i h]; rfl
theorem insM_len (out : List (List TmD)) (p : List TmD) : (insM out p).length <= out.length + 1 := by
 unfold insM
 split
 ·omega
 ·rw [List.length_append]
  have := List.length_filter_le (fun q => !leqP q p) out
  simp only [List.length_cons, List.length_nil]; omega
theorem maxF_len (l : List (List TmD)) : ∀ i, i <= l.length -> (maxF l i).length <= i
 | 0, _ => by unfold maxF maxL; simp
 | i + 1, h => by
  rw [maxF_succ (by omega)]
  have := insM_len (maxF l i) (normP l[i]!)
  have := maxF_len l i (by omega)
  omega
theorem lenP_norm {p : List TmD} (h : LenP p) : LenP (normP p) := by
 refine ⟨Nat.le_trans (normP_len p) h.len, fun t ht => h.terms t ?_⟩
 have : ∀ (n : Nat) (q : List TmD), ∀ t ∈ normN n q, t ∈ q := by
  intro n
  induction n with
  | zero => intro q t ht; exact ht
  | succ n ih =>
   intro q t ht
   rw [normN] at ht
   split at ht
   ·exact ht
   ·exact List.mem_of_mem_eraseIdx (ih _ t ht)
 exact this _ p t ht
theorem maxF_mem {l : List (List TmD)} (hl : ∀ p ∈ l, OkP p /\ LenP p) : ∀ i, i <= l.length -> ∀ q ∈ maxF l i, OkP q /\ LenP q
 | 0, _, q, hq => by unfold maxF maxL at hq; simp at hq
 | i + 1, h, q, hq => by
  rw [maxF_succ (by omega)] at hq
  have hi := hl _ (mem_bangI (show i < l.length by omega))
  unfold insM at hq
  split at hq
  ·exact maxF_mem hl i (by omega) q hq
  ·rcases List.mem_append.1 hq with hq | hq
   ·exact maxF_mem hl i (by omega) q (List.mem_filter.1 hq).1
   ·rw [List.mem_singleton.1 hq]; exact ⟨normP_ok hi.1, lenP_norm hi.2⟩
theorem con_xmaximal (l : List (List TmD)) (hl : ∀ p ∈ l, OkP p /\ LenP p) (hlen : l.length <= 1000000) (h1 : (maxL l).length <= 1) : Con Tryz.prog 61 [.sl 0 1 (l.map vPr)] [] fun r _ => r = .sl 0 1 ((maxL l).map vPr) := by
  refine Con.frozX ?_
  refine Con.intro Tryz.func61 rfl Tryz.ntmps61 Tryz.results61 (by kernel_rfl) (by simp) 0 (by simp) ?_
  simp only [go_sem]
  refine LoopK.intro (fun i : Nat => ⟨27, [(3, .sl 256 1 ((maxF l i).map vPr)), (6, .sl 0 1 (l.map vPr)), (7, vi l.length), (8, vi i)], Rk 1 i⟩)
    (fun i => l.length - i) (fun i => i <= l.length) 0 (Nat.zero_le _) ?_ ?_
  · have e : maxF l 0 = [] := rfl
    simp only [go_sem, e, List.map_nil, Rk, List.replicate]
    all_goals exact leB_self _
  rintro i hi
  have hB := Rk_len 1 i
  have n0 := fun L : List (List AV) => app_at0 (L := L) hB
  have s0 := fun (L : List (List AV)) z => app_set0 (L := L) (z := z) hB
  by_cases h : i < l.length
  case neg =>
    have e : maxF l i = maxL l := by unfold maxF; rw [List.take_of_length_le (by omega)]
    have hs := con_xsort1 (maxL l) h1
    rw [e]
    simp only [go_sem, h]
    refine CallU.flat hs (by simp only [go_sem]) (by simp only [go_sem]) ?_
    rintro r bx rfl
    simp only [go_sem]
    exact leV_refl _
  obtain ⟨hok, hlp⟩ := hl _ (mem_bangI h)
  have hg := getPr h
  have hw : IntKind.i64.wrap (i + 1) = i + 1 := wrap_in (by omega) (by omega)
  have hn := con_xnormalF l[i]! hok hlp
  have hm := maxF_mem hl i hi
  have hml := maxF_len l i hi
  have hc1 := con_containsPr (maxF l i) 88 [.fp [vPr (normP l[i]!)] 0] (fun q => leqP (normP l[i]!) q) (by simp only [go_sem]) (fun q hq => con_xmax1 q (normP l[i]!) (hm q hq).1 (normP_ok hok) (hm q hq).2 (lenP_norm hlp)) (by omega)
  have hd := con_delFuncPr (maxF l i) 90 (normP l[i]!) (fun q => leqP q (normP l[i]!)) (fun q hq => con_xmax2 q (normP l[i]!) (hm q hq).1 (normP_ok hok) (hm q hq).2 (lenP_norm hlp)) (by omega)
  have hsucc := maxF_succ h
  unfold insM at hsucc
  simp only [vPr] at hn
  simp only [go_sem] at hc1
  simp only [go_sem, h, hg, hB, n0, s0, List.length_map]
  refine CallU.free hn (by simp only [go_sem]) (by simp only [go_sem]) ?_
  rintro r bx rfl
  simp only [go_sem, n0, s0]
  refine CallU.look hc1 (by simp only [go_sem]) (by simp only [go_sem, n0]) ?_
  rintro r bx rfl
  cases hcv : (maxF l i).any fun q => leqP (normP l[i]!) q with
  | true =>
    rw [if_pos hcv] at hsucc
    simp only [go_sem, hw]
    refine roundK.intro (i + 1) (by omega) (by omega) ?_
    simp only [go_sem, hsucc, Rk_succ]
    all_goals exact leB_RkA (x := [[_]]) (y := [List.replicate 1 .any]) ⟨⟨leV_any _, trivial⟩, trivial⟩
  | false =>
    rw [if_neg (by rw [hcv]; simp)] at hsucc
    have hfl : ((maxF l i).filter fun q => !leqP q (normP l[i]!)).length <= i := Nat.le_trans (List.length_filter_le _ _) hml
    generalize hF : (maxF l i).filter (fun q => !leqP q (normP l[i]!)) = F at hd hsucc hfl
    have hks : mapB (killS [256]) (Rk 1 i) = Rk 1 i := mapB_Rk rfl 1 i
    have hmv : mapB (mvLeaf 1282 256) (Rk 1 i) = Rk 1 i := mapB_Rk rfl 1 i
    have hroom : roomFor (F.length + 1) 24 := by simp only [roomFor]; omega
    simp only [go_sem]
    refine DrawK.meet ⟨27, [(3, .sl 1282 1 (F.map vPr ++ [vPr (normP l[i]!)])), (6, .sl 0 1 (l.map vPr)), (7, vi l.length), (8, vi i)], Rk 1 i ++ [[vPr (normP l[i]!)]]⟩ ?_ ?_
    · refine DrawK.tree maxTree mixed (by kernel_rfl) ?_
      unfold maxTree
      simp only [go_sem]
      repeat' (first
        | exact trivial
        | with_reducible apply andK_mk
        | (refine CallU.close [i] hd (bx0 := [[vPr (normP l[i]!)]]) (by simp only [go_sem]) (by simp only [go_sem]; simp) (by simp only [go_sem, n0]) [256] (by simp only [go_sem]) (by simp only [go_sem]) (by simp only [go_sem]) (by simp only [go_sem]) ?_
           rintro r b ⟨rfl, rfl⟩
           simp only [go_sem, n0, s0, hks, hroom, List.length_map])
        | simp only [go_sem, n0])
    simp only [go_sem, hw]
    refine roundK.mv 1282 256 (by omega) (by omega) (by omega) (i + 1) (by omega) (by omega) ?_
    simp only [go_sem, hsucc, hmv, Rk_succ, List.map_append, List.map_cons, List.map_nil]
    exact leV_refl _
def totF {α : Type} (m : List (List α)) (k : Nat) : Nat := (m.take k).flatten.length
theorem totF_zero {α : Type} (m : List (List α)) : totF m 0 = 0 := by simp [totF]
theorem totF_le {α : Type} (m : List (List α)) (k : Nat) : totF m k <= m.flatten.length := by
 have h : m.flatten = (m.take k).flatten ++ (m.drop k).flatten := by rw [<- List.flatten_append, List.take_append_drop]
 rw [h, List.length_append]; exact Nat.le_add_right _ _
theorem totF_succ {α : Type} {m : List (List α)} {k : Nat} (h : k < m.length) : totF m (k + 1) = totF m k + m[k]!.length := by
 unfold totF
 rw [List.take_succ_eq_append_getElem h, List.flatten_append, List.length_append, <- getElem!_pos m k h]; simp
theorem con_xGrowTm (n : Nat) (hn : n <= 1000000) : Con Tryz.prog 118 [.nil, vi n] [] fun r _ => r = .sl 2 2 [] := by
 refine Con.le (post := fun r _ => r = .nil \/ r = .sl 2 2 []) ?_ (fun r b h => ⟨.sl 2 2 [], by rcases h with rfl | rfl; exact leV_nil 2 2; exact leV_refl _, rfl⟩)
 refine Con.intro Tryz.func118 rfl Tryz.ntmps118 Tryz.results118 (by kernel_rfl) (by simp) 0 (by simp) ?_
 have hw0 : IntKind.i64.wrap 0 = 0 := wrap_in (by omega) (by omega)
 by_cases h : n = 0
 ·subst h
  simp only [go_sem, hw0, Int.sub_zero, true_or]
 ·have hz : ¬ n < 0 := by omega
  have hw : IntKind.i64.wrap (n : Int) = n := wrap_in (by omega) (by omega)
  have hp : 0 < n := by omega
  simp only [go_sem, hz, hw, hw0, hp, Int.sub_zero]
  exact ⟨by omega, by omega, .inr trivial⟩
theorem getLTm {l : List (List (TmD))} {i : Nat} (h : i < l.length) : (l.map fun x => AV.sl 0 2 (x.map (vTm)))[i]? = some (.sl 0 2 (l[i]!.map (vTm))) := by
 rw [List.getElem?_map, List.getElem?_eq_getElem h, getElem!_pos l i h]; rfl
theorem con_xConcatTm (m : List (List (TmD))) (hm : m.length <= 1000000) (ht : m.flatten.length <= 1000000) : Con Tryz.prog 106 [.sl 0 1 (m.map fun x => AV.sl 0 2 (x.map (vTm)))] [] fun r _ => r = .sl 2 2 (m.flatten.map (vTm)) := by
 refine Con.intro Tryz.func106 rfl Tryz.ntmps106 Tryz.results106 (by kernel_rfl) (by simp) 0 (by simp) ?_
 simp only [go_sem]
 refine LoopK.intro (fun i : Nat => ⟨36, [(0, .sl 0 1 (m.map fun x => AV.sl 0 2 (x.map (vTm)))), (3, .sc (.int .i64 (totF m i))), (9, .sl 0 1 (m.map fun x => AV.sl 0 2 (x.map (vTm)))), (10, .sc (.int .i64 m.length)), (11, .sc (.int .i64 i))], []⟩)
  (fun i => m.length - i) (fun i => i <= m.length) 0 (by omega) ?_ ?_
 ·simp only [go_sem, totF_zero]
  all_goals exact leV_refl _
 intro i hi
 by_cases h : i < m.length
 ·have hg := getLTm h
  have h1 := totF_le m i
  have h2 := totF_le m (i + 1)
  have h3 := totF_succ h
  have hw : IntKind.i64.wrap (i + 1) = i + 1 := wrap_in (by omega) (by omega)
  have hw2 : IntKind.i64.wrap ((totF m i : Int) + m[i]!.length) = ((totF m (i + 1) : Nat) : Int) := by rw [wrap_in (by omega) (by omega)]; omega
  have hnn : ¬ totF m (i + 1) < 0 := by omega
  simp only [go_sem, h, hg, hw, hw2, hnn, List.length_map]
  refine roundK.intro (i + 1) (by omega) (by omega) ?_
  simp only [go_sem]
  all_goals exact leV_refl _
 have htot := totF_le m i
 simp only [go_sem, h]
 refine CallU.free (con_xGrowTm (totF m i) (by omega)) (by simp only [go_sem]) (by simp only [go_sem]) ?_
 rintro r bx rfl
 simp only [go_sem]
 refine LoopK.intro (fun k : Nat => ⟨36, [(6, .sl 1602 2 ((m.take k).flatten.map (vTm))), (25, .sl 0 1 (m.map fun x => AV.sl 0 2 (x.map (vTm)))), (26, .sc (.int .i64 m.length)), (27, .sc (.int .i64 k))], []⟩)
  (fun k => m.length - k) (fun k => k <= m.length) 0 (by omega) ?_ ?_
 ·simp only [go_sem, List.take_zero, List.flatten_nil, List.map_nil]
  all_goals exact leV_refl _
 intro k hk
 by_cases h2 : k < m.length
 ·have hg := getLTm h2
  have hw : IntKind.i64.wrap (k + 1) = k + 1 := wrap_in (by omega) (by omega)
  have hmk : m[k]? = some m[k]! := by rw [List.getElem?_eq_getElem h2, getElem!_pos m k h2]
  have hfl : (m.take k).flatten.length = totF m k := rfl
  have h3 := totF_succ h2
  have h4 := totF_le m (k + 1)
  simp only [go_sem, h2, hg, hw, List.length_map]
  refine ⟨by simp only [roomFor, hfl]; omega, ?_⟩
  refine roundK.intro (k + 1) (by omega) (by omega) ?_
  simp only [go_sem]
  refine leV_sl ?_
  rw [List.take_add_one, hmk, List.flatten_append, List.map_append]; simp
 ·have e : m.take k = m := List.take_of_length_le (by omega)
  simp only [go_sem, h2, e]
theorem con_xGrowPr (n : Nat) (hn : n <= 1000000) : Con Tryz.prog 107 [.nil, vi n] [] fun r _ => r = .sl 2 1 [] := by
 refine Con.le (post := fun r _ => r = .nil \/ r = .sl 2 1 []) ?_ (fun r b h => ⟨.sl 2 1 [], by rcases h with rfl | rfl; exact leV_nil 2 1; exact leV_refl _, rfl⟩)
 refine Con.intro Tryz.func107 rfl Tryz.ntmps107 Tryz.results107 (by kernel_rfl) (by simp) 0 (by simp) ?_
 have hw0 : IntKind.i64.wrap 0 = 0 := wrap_in (by omega) (by omega)
 by_cases h : n = 0
 ·subst h
  simp only [go_sem, hw0, Int.sub_zero, true_or]
 ·have hz : ¬ n < 0 := by omega
  have hw : IntKind.i64.wrap (n : Int) = n := wrap_in (by omega) (by omega)
  have hp : 0 < n := by omega
  simp only [go_sem, hz, hw, hw0, hp, Int.sub_zero]
  exact ⟨by omega, by omega, .inr trivial⟩
theorem getLPr {l : List (List (List TmD))} {i : Nat} (h : i < l.length) : (l.map fun x => AV.sl 0 1 (x.map (vPr)))[i]? = some (.sl 0 1 (l[i]!.map (vPr))) := by
 rw [List.getElem?_map, List.getElem?_eq_getElem h, getElem!_pos l i h]; rfl
theorem con_xConcatPr (m : List (List (List TmD))) (hm : m.length <= 1000000) (ht : m.flatten.length <= 1000000) : Con Tryz.prog 93 [.sl 0 1 (m.map fun x => AV.sl 0 1 (x.map (vPr)))] [] fun r _ => r = .sl 2 1 (m.flatten.map (vPr)) := by
 refine Con.intro Tryz.func93 rfl Tryz.ntmps93 Tryz.results93 (by kernel_rfl) (by simp) 0 (by simp) ?_
 simp only [go_sem]
 refine LoopK.intro (fun i : Nat => ⟨36, [(0, .sl 0 1 (m.map fun x => AV.sl 0 1 (x.map (vPr)))), (3, .sc (.int .i64 (totF m i))), (9, .sl 0 1 (m.map fun x => AV.sl 0 1 (x.map (vPr)))), (10, .sc (.int .i64 m.length)), (11, .sc (.int .i64 i))], []⟩)
  (fun i => m.length - i) (fun i => i <= m.length) 0 (by omega) ?_ ?_
 ·simp only [go_sem, totF_zero]
  all_goals exact leV_refl _
 intro i hi
 by_cases h : i < m.length
 ·have hg := getLPr h
  have h1 := totF_le m i
  have h2 := totF_le m (i + 1)
  have h3 := totF_succ h
  have hw : IntKind.i64.wrap (i + 1) = i + 1 := wrap_in (by omega) (by omega)
  have hw2 : IntKind.i64.wrap ((totF m i : Int) + m[i]!.length) = ((totF m (i + 1) : Nat) : Int) := by rw [wrap_in (by omega) (by omega)]; omega
  have hnn : ¬ totF m (i + 1) < 0 := by omega
  simp only [go_sem, h, hg, hw, hw2, hnn, List.length_map]
  refine roundK.intro (i + 1) (by omega) (by omega) ?_
  simp only [go_sem]
  all_goals exact leV_refl _
 have htot := totF_le m i
 simp only [go_sem, h]
 refine CallU.free (con_xGrowPr (totF m i) (by omega)) (by simp only [go_sem]) (by simp only [go_sem]) ?_
 rintro r bx rfl
 simp only [go_sem]
 refine LoopK.intro (fun k : Nat => ⟨36, [(6, .sl 1602 1 ((m.take k).flatten.map (vPr))), (25, .sl 0 1 (m.map fun x => AV.sl 0 1 (x.map (vPr)))), (26, .sc (.int .i64 m.length)), (27, .sc (.int .i64 k))], []⟩)
  (fun k => m.length - k) (fun k => k <= m.length) 0 (by omega) ?_ ?_
 ·simp only [go_sem, List.take_zero, List.flatten_nil, List.map_nil]
  all_goals exact leV_refl _
 intro k hk
 by_cases h2 : k < m.length
 ·have hg := getLPr h2
  have hw : IntKind.i64.wrap (k + 1) = k + 1 := wrap_in (by omega) (by omega)
  have hmk : m[k]? = some m[k]! := by rw [List.getElem?_eq_getElem h2, getElem!_pos m k h2]
  have hfl : (m.take k).flatten.length = totF m k := rfl
  have h3 := totF_succ h2
  have h4 := totF_le m (k + 1)
  simp only [go_sem, h2, hg, hw, List.length_map]
  refine ⟨by simp only [roomFor, hfl]; omega, ?_⟩
  refine roundK.intro (k + 1) (by omega) (by omega) ?_
  simp only [go_sem]
  refine leV_sl ?_
  rw [List.take_add_one, hmk, List.flatten_append, List.map_append]; simp
 ·have e : m.take k = m := List.take_of_length_le (by omega)
  simp only [go_sem, h2, e]
theorem con_delFuncF (l : List (Int)) (f : FuncId) (caps : List AV) (p : Int -> Bool) (hf : ∀ x ∈ l, Con Tryz.prog f ([vi x] ++ caps) [] fun r _ => r = .sc (.bool (p x))) (hcv : ∀ bx, mapTops (viewV bx) caps = caps) (hl : l.length <= 1000000) :
  ConC Tryz.prog 94 [.sl 2 1 (l.map (vi)), .fn f caps] fun r => r = .sl 2 1 ((l.filter fun x => !p x).map (vi)) := by
 refine ConC.intro Tryz.func94 rfl Tryz.ntmps94 Tryz.results94 (by kernel_rfl) (by simp) ?_
 have hx := con_indexInt l f caps p (hcv []) hf (by omega)
 simp only [go_sem] at hx
 simp only [go_sem]
 refine CallU.look hx (by simp only [go_sem]) (by simp only [go_sem]) ?_
 rintro r bx rfl
 cases ha : l.any p with
 | false =>
  have hi : findI p l = -1 := findI_none fun j hj => by
   rw [List.any_eq_false] at ha
   simpa using ha _ (mem_bangI hj)
  have he : (l.filter fun x => !p x) = l := List.filter_eq_self.2 fun x hx => by
   rw [List.any_eq_false] at ha
   simpa using ha x hx
  rw [hi, he]
  simp only [go_sem]
 | true =>
  obtain ⟨i, hi, hb, hpi⟩ := any_first ha
  have hfi : findI p l = i := findI_stop hi hb hpi
  have hne : ((i : Int) == -1) = false := beq_eq_false_iff_ne.2 (by omega)
  have hw : IntKind.i64.wrap ((i : Int) + 1) = ((i + 1 : Nat) : Int) := by rw [wrap_in (by omega) (by omega)]; omega
  rw [hfi]
  simp only [go_sem, hne, hw]
  refine LoopK.intro (fun x : List (Int) × Nat × Nat => ⟨42, [(0, .sl 2 1 (x.1.map (vi))), (1, .fn f caps), (5, vi x.2.1), (6, vi x.2.2)], []⟩)
   (fun x => l.length - x.2.2) (fun x => DelI l p x.1 x.2.1 x.2.2) (l, i, i + 1) (del_start hi hb hpi) ?_ ?_
  ·simp only [go_sem]
  rintro ⟨D, q, j⟩ hI
  have hDl := hI.len
  have hqj := hI.lt
  have hjl := hI.le
  simp only at hI hDl hqj hjl
  have hwj : IntKind.i64.wrap ((j : Int) + 1) = ((j + 1 : Nat) : Int) := by rw [wrap_in (by omega) (by omega)]; omega
  have hwq : IntKind.i64.wrap ((q : Int) + 1) = ((q + 1 : Nat) : Int) := by rw [wrap_in (by omega) (by omega)]; omega
  by_cases h : j < l.length
  case neg =>
   have e := hI.stop (by omega)
   have h' : ¬ (j : Int) < (D.length : Int) := by omega
   have hqD : (q : Int) <= (D.length : Int) := by omega
   simp only [go_sem, h', List.length_map]
   exact ⟨by omega, by omega, by rw [setSeg_length, List.length_map]; omega, by rw [setSeg_take, setSeg_out _ _ _ (by simp; omega), <- List.map_take, e]⟩
  have h' : (j : Int) < (D.length : Int) := by omega
  have hjD : j < D.length := by omega
  have hqD : q < D.length := by omega
  have hg := getv hjD
  have hDj := hI.same h
  have hfx := hf l[j]! (mem_bangI h)
  rw [hDj] at hg
  simp only [go_sem] at hfx
  simp only [go_sem, h', hg, List.length_map]
  refine CallU.look hfx (by simp only [go_sem]) (by simp only [go_sem, hcv]) ?_
  rintro r bx rfl
  cases hp : p l[j]! with
  | true =>
   simp only [go_sem, hwj]
   refine roundK.intro (D, q, j + 1) (hI.drop h hp) (by show l.length - (j + 1) < l.length - j; omega) ?_
   simp only [go_sem]
  | false =>
   have hm := mod_In (x := l[j]!) hqD
   simp only [go_sem] at hm
   simp only [go_sem, hqD, hwj, hwq, hm, List.length_map]
   refine roundK.intro (D.set q l[j]!, q + 1, j + 1) (hI.keep h hp) (by show l.length - (j + 1) < l.length - j; omega) ?_
   simp only [go_sem]
end Go.AM
