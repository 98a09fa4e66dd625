/- CmI CmJ LBnd LTree LVec VL TA TB LRaise LStD LWalk CmK CmL -/
import Derived.Test.YtapjfgddbfneaaaGreatg6
namespace Go.AM
open Go Go.Proofs Go.RowKit
set_option maxRecDepth 100000
theorem mem_bangI {α : Type} [Inhabited α] {l : List α} {i : Nat} (h : i < l.length) : l[i]! ∈ l := by rw [getElem!_pos l i h]; exact List.getElem_mem h
def TellsI (f : FuncId) (caps : List AV) (l : List Int) (p : Int -> Bool) : Prop := ∀ x ∈ l, Con Tryz.prog f ([vi x] ++ caps) [] fun r _ => r = .sc (.bool (p x))
theorem con_indexInt (l : List Int) (f : FuncId) (caps : List AV) (p : Int -> Bool) (hc : mapTops (viewV []) caps = caps) (hf : TellsI f caps l p) (hl : l.length <= 9223372036854775806) : Con Tryz.prog 82 [vs 0 l, .fn f caps] [] fun r _ => r = vi (findI p l) := by
 refine Con.intro Tryz.func82 rfl Tryz.ntmps82 Tryz.results82 (by kernel_rfl) (by simp) 0 (by simp) ?_
 simp only [go_sem]
 refine LoopK.intro (fun i : Nat => ⟨19, [(0, vs 0 l), (1, .fn f caps), (7, vi l.length), (8, vi i)], []⟩)
  (fun i => l.length - i) (fun i => i <= l.length /\ ∀ j, j < i -> p l[j]! = false) 0 ⟨by omega, fun j hj => by omega⟩ ?_ ?_
 ·simp only [go_sem]
  all_goals exact leV_refl _
 ·rintro i ⟨hi, hb⟩
  by_cases h : i < l.length
  ·have hg := getv h
   have hw : IntKind.i64.wrap (i + 1) = i + 1 := wrap_in (by omega) (by omega)
   simp only [go_sem, h, hg]
   refine CallU.look (hf l[i]! (mem_bangI h)) (by simp only [go_sem]) (by simp only [go_sem, hc]) ?_
   rintro r bx rfl
   cases hp : p l[i]!
   ·simp only [go_sem, hw]
    refine roundK.intro (i + 1) ⟨by omega, fun j hj => ?_⟩ (by omega) ?_
    ·by_cases hji : j = i
     ·subst hji; exact hp
     ·exact hb j (by omega)
    ·simp only [go_sem]
   ·simp only [go_sem]
    rw [findI_stop h hb hp]
  ·simp only [go_sem, h]
   rw [findI_none (fun j hj => hb j (by omega))]
theorem con_containsInt (l : List Int) (f : FuncId) (caps : List AV) (p : Int -> Bool) (hc : mapTops (viewV []) caps = caps) (hf : TellsI f caps l p) (hl : l.length <= 9223372036854775806) : Con Tryz.prog 58 [vs 0 l, .fn f caps] [] fun r _ => r = .sc (.bool (l.any p)) := by
 refine Con.intro Tryz.func58 rfl Tryz.ntmps58 Tryz.results58 (by kernel_rfl) (by simp) 0 (by simp) ?_
 simp only [go_sem]
 refine CallU.look (con_indexInt l f caps p hc hf hl) (by simp only [go_sem]) (by simp only [go_sem]) ?_
 rintro r bx rfl
 simp only [go_sem, findI_ge]
def TellsR (f : FuncId) (caps : List AV) (l : List RD) (p : RD -> Bool) : Prop := ∀ x ∈ l, Con Tryz.prog f ([vRule x] ++ caps) [] fun r _ => r = .sc (.bool (p x))
attribute [go_sem] vRule
theorem con_indexRule (l : List RD) (f : FuncId) (caps : List AV) (p : RD -> Bool) (hc : mapTops (viewV []) caps = caps) (hf : TellsR f caps l p) (hl : l.length <= 9223372036854775806) : Con Tryz.prog 137 [.sl 0 14 (l.map vRule), .fn f caps] [] fun r _ => r = vi (findI p l) := by
 refine Con.intro Tryz.func137 rfl Tryz.ntmps137 Tryz.results137 (by kernel_rfl) (by simp) 0 (by simp) ?_
 simp only [go_sem]
 refine LoopK.intro (fun i : Nat => ⟨19, [(0, .sl 0 14 (l.map vRule)), (1, .fn f caps), (7, vi l.length), (8, vi i)], []⟩)
  (fun i => l.length - i) (fun i => i <= l.length /\ ∀ j, j < i -> p l[j]! = false) 0 ⟨by omega, fun j hj => by omega⟩ ?_ ?_
 ·simp only [go_sem]
  all_goals exact leV_refl _
 ·rintro i ⟨hi, hb⟩
  by_cases h : i < l.length
  ·have hg := getRule h
   have hw : IntKind.i64.wrap (i + 1) = i + 1 := wrap_in (by omega) (by omega)
   simp only [go_sem, h, hg]
   refine CallU.look (hf l[i]! (mem_bangI h)) (by simp only [go_sem]) (by simp only [go_sem, hc]) ?_
   rintro r bx rfl
   cases hp : p l[i]!
   ·simp only [go_sem, hw]
    refine roundK.intro (i + 1) ⟨by omega, fun j hj => ?_⟩ (by omega) ?_
    ·by_cases hji : j = i
     ·subst hji; exact hp
     ·exact hb j (by omega)
    ·simp only [go_sem]
   ·simp only [go_sem]
    rw [findI_stop h hb hp]
  ·simp only [go_sem, h]
   rw [findI_none (fun j hj => hb j (by omega))]
theorem con_containsRule (l : List RD) (f : FuncId) (caps : List AV) (p : RD -> Bool) (hc : mapTops (viewV []) caps = caps) (hf : TellsR f caps l p) (hl : l.length <= 9223372036854775806) : Con Tryz.prog 105 [.sl 0 14 (l.map vRule), .fn f caps] [] fun r _ => r = .sc (.bool (l.any p)) := by
 refine Con.intro Tryz.func105 rfl Tryz.ntmps105 Tryz.results105 (by kernel_rfl) (by simp) 0 (by simp) ?_
 simp only [go_sem]
 refine CallU.look (con_indexRule l f caps p hc hf hl) (by simp only [go_sem]) (by simp only [go_sem]) ?_
 rintro r bx rfl
 simp only [go_sem, findI_ge]
theorem con_all1 (x : Int) (g : FuncId) (caps : List AV) (p : Int -> Bool) (hc : mapTops (viewV []) caps = caps) (hf : Con Tryz.prog g ([vi x] ++ caps) [] fun r _ => r = .sc (.bool (p x))) : Con Tryz.prog 178 [vi x, .fp [.fn g caps] 0] [] fun r _ => r = .sc (.bool (!p x)) := by
 refine Con.intro Tryz.func178 rfl Tryz.ntmps178 Tryz.results178 (by kernel_rfl) (by simp) 0 (by simp) ?_
 simp only [go_sem]
 refine CallU.look hf (by simp only [go_sem]) (by simp only [go_sem, hc]) ?_
 rintro r bx rfl
 simp only [go_sem]
theorem any_not {α : Type} (p : α -> Bool) : ∀ l : List α, (!l.any fun x => !p x) = l.all p
 | [] => rfl
 | x :: l => by rw [List.any_cons, List.all_cons, <- any_not p l]; cases p x <;> simp
theorem con_all (l : List Int) (g : FuncId) (caps : List AV) (p : Int -> Bool) (hc : mapTops (viewV []) caps = caps) (hf : TellsI g caps l p) (hl : l.length <= 9223372036854775806) : Con Tryz.prog 144 [vs 0 l, .fn g caps] [] fun r _ => r = .sc (.bool (l.all p)) := by
 refine Con.intro Tryz.func144 rfl Tryz.ntmps144 Tryz.results144 (by kernel_rfl) (by simp) 1 (by simp) ?_
 simp only [go_sem]
 refine CallU.look (con_containsInt l 178 [.fp [.fn g caps] 0] (fun x => !p x) (by simp only [go_sem]) (fun x hx => con_all1 x g caps p hc (hf x hx)) hl) (by simp only [go_sem]) (by simp only [go_sem]) ?_
 rintro r bx rfl
 simp only [go_sem, any_not]
theorem beq_cut {a b : List Int} (h : a.length ≠ b.length) : (a == b) = false := by
 rw [beq_eq_false_iff_ne]; intro e; rw [e] at h; exact h rfl
theorem eqI_stop {a b : List Int} {i : Nat} (h : a[i]! ≠ b[i]!) : (a == b) = false := by
 rw [beq_eq_false_iff_ne]; intro e; rw [e] at h; exact h rfl
theorem eqI_all {a b : List Int} (hl : a.length = b.length) (h : ∀ j, j < a.length -> a[j]! = b[j]!) : (a == b) = true := by
 rw [beq_iff_eq]
 apply List.ext_getElem hl
 intro i h1 h2
 have := h i h1
 rw [getElem!_pos a i h1, getElem!_pos b i h2] at this; exact this
theorem con_equalInt (a b : List Int) (hl : a.length <= 9223372036854775806) : Con Tryz.prog 179 [vs 0 a, vs 0 b] [] fun r _ => r = .sc (.bool (a == b)) := by
 refine Con.intro Tryz.func179 rfl Tryz.ntmps179 Tryz.results179 (by kernel_rfl) (by simp) 0 (by simp) ?_
 by_cases he : a.length = b.length
 case neg =>
  have he' : ((a.length : Int) != (b.length : Int)) = true := bne_iff_ne.2 (by omega)
  simp only [go_sem, he', beq_cut he]
 simp only [go_sem, he]
 refine LoopK.intro (fun i : Nat => ⟨26, [(0, vs 0 a), (1, vs 0 b), (12, vi a.length), (13, vi i)], []⟩)
  (fun i => a.length - i) (fun i => i <= a.length /\ ∀ j, j < i -> a[j]! = b[j]!) 0 ⟨by omega, fun j hj => by omega⟩ ?_ ?_
 ·simp only [go_sem, he]
  all_goals exact leV_refl _
 rintro i ⟨hi, hb⟩
 by_cases h : i < a.length
 ·have h2 : i < b.length := by omega
  have g1 := getv h
  have g2 := getv h2
  have hw : IntKind.i64.wrap (i + 1) = i + 1 := wrap_in (by omega) (by omega)
  simp only [go_sem, h]
  refine DrawK.walk 9 mixed (by kernel_rfl) ?_
  by_cases hp : a[i]! = b[i]!
  ·simp only [go_sem, h, h2, g1, g2, hp, hw]
   refine roundK.intro (i + 1) ⟨by omega, fun j hj => ?_⟩ (by omega) ?_
   ·by_cases hji : j = i
    ·subst hji; exact hp
    ·exact hb j (by omega)
   ·simp only [go_sem]
  ·have hp' : (a[i]! != b[i]!) = true := bne_iff_ne.2 hp
   simp only [go_sem, h, h2, g1, g2, hp']
   rw [eqI_stop hp]
 ·simp only [go_sem, h]
  rw [eqI_all he (fun j hj => hb j (by omega))]
theorem con_indexStr (l : List ByteArray) (v : ByteArray) (hl : l.length <= 9223372036854775806) : Con Tryz.prog 194 [vss l, vStr v] [] fun r _ => r = vi (findI (fun x => v.toList == x.toList) l) := by
 refine Con.intro Tryz.func194 rfl Tryz.ntmps194 Tryz.results194 (by kernel_rfl) (by simp) 0 (by simp) ?_
 simp only [go_sem]
 refine LoopK.intro (fun i : Nat => ⟨19, [(0, vss l), (1, vStr v), (7, vi l.length), (8, vi i)], []⟩)
  (fun i => l.length - i) (fun i => i <= l.length /\ ∀ j, j < i -> (v.toList == l[j]!.toList) = false) 0 ⟨by omega, fun j hj => by omega⟩ ?_ ?_
 ·simp only [go_sem]
  all_goals exact leV_refl _
 ·rintro i ⟨hi, hb⟩
  by_cases h : i < l.length
  ·have hg := getStr h
   have hw : IntKind.i64.wrap (i + 1) = i + 1 := wrap_in (by omega) (by omega)
   cases hp : (v.toList == l[i]!.toList)
   ·simp only [go_sem, h, hg, hp, hw]
    refine roundK.intro (i + 1) ⟨by omega, fun j hj => ?_⟩ (by omega) ?_
    ·by_cases hji : j = i
     ·subst hji; exact hp
     ·exact hb j (by omega)
    ·simp only [go_sem]
   ·simp only [go_sem, h, hg, hp]
    rw [findI_stop (p := fun x : ByteArray => v.toList == x.toList) h hb hp]
  ·simp only [go_sem, h]
   rw [findI_none (p := fun x : ByteArray => v.toList == x.toList) (fun j hj => hb j (by omega))]
theorem con_containsStr (l : List ByteArray) (v : ByteArray) (hl : l.length <= 9223372036854775806) : Con Tryz.prog 170 [vss l, vStr v] [] fun r _ => r = .sc (.bool (l.any fun x => v.toList == x.toList)) := by
 refine Con.intro Tryz.func170 rfl Tryz.ntmps170 Tryz.results170 (by kernel_rfl) (by simp) 0 (by simp) ?_
 simp only [go_sem]
 refine CallU.free (con_indexStr l v hl) (by simp only [go_sem]) (by simp only [go_sem]) ?_
 rintro r bx rfl
 simp only [go_sem, findI_ge]
theorem con_keyword (s : ByteArray) : Con Tryz.prog 136 [vStr s] [] fun r _ => r = vb (keywordB s) := by
 refine Con.intro Tryz.func136 rfl Tryz.ntmps136 Tryz.results136 (by kernel_rfl) (by simp) 0 (by simp) ?_
 simp only [go_sem]
 refine CallU.flat (con_containsStr kwL s (by decide)) (by simp only [go_sem]) (by simp only [go_sem, kwL, List.map_cons, List.map_nil]) ?_
 rintro r bx rfl
 simp only [go_sem]
 rfl
def sumL {α : Type} (ls : List (List α)) (i : Nat) : Nat := ((ls.take i).map List.length).sum
theorem sumL_zero {α : Type} (ls : List (List α)) : sumL ls 0 = 0 := rfl
theorem sumL_succ {α : Type} {ls : List (List α)} {i : Nat} (h : i < ls.length) : sumL ls (i + 1) = sumL ls i + ls[i]!.length := by
 unfold sumL
 rw [List.take_add_one, List.getElem?_eq_getElem h, getElem!_pos ls i h, List.map_append, List.sum_append]
 simp only [Option.toList, List.map_cons, List.map_nil, List.sum_cons, List.sum_nil, Nat.add_zero]
theorem sumL_mono {α : Type} {ls : List (List α)} : ∀ {i : Nat}, sumL ls i <= ls.flatten.length := by
 intro i
 unfold sumL
 rw [<- List.length_flatten]
 have h : ls.flatten = (ls.take i).flatten ++ (ls.drop i).flatten := by rw [<- List.flatten_append, List.take_append_drop]
 rw [h, List.length_append]; omega
theorem flat_succ {α : Type} {ls : List (List α)} {i : Nat} (h : i < ls.length) : (ls.take (i + 1)).flatten = (ls.take i).flatten ++ ls[i]! := by
 rw [List.take_add_one, List.getElem?_eq_getElem h, getElem!_pos ls i h, List.flatten_append]
 simp only [Option.toList, List.flatten_cons, List.flatten_nil, List.append_nil]
theorem getRow {ls : List (List ByteArray)} {i : Nat} (h : i < ls.length) : (ls.map vss)[i]? = some (.sl 0 1 (ls[i]!.map vStr)) := by
 rw [List.getElem?_map, List.getElem?_eq_getElem h, getElem!_pos ls i h, Option.map_some]; rfl
theorem con_growStr (n : Nat) (h1 : 1 <= n) (h2 : n <= 1000000) : Con Tryz.prog 166 [.nil, vi n] [] fun r _ => r = .sl 2 1 [] := by
 refine Con.intro Tryz.func166 rfl Tryz.ntmps166 Tryz.results166 (by kernel_rfl) (by simp) 0 (by simp) ?_
 have a1 : ¬ ((n : Int) < 0) := by omega
 have a2 : (0 : Int) < (n : Int) := by omega
 have hw : IntKind.i64.wrap ((n : Int) - 0) = n := by rw [wrap_in (by omega) (by omega)]; omega
 have hz : IntKind.i64.wrap 0 = 0 := wrap_in (by omega) (by omega)
 simp only [go_sem, a1, a2, hz, hw]
 omega
theorem con_concatStr (ls : List (List ByteArray)) (h1 : 1 <= ls.flatten.length) (h2 : ls.flatten.length <= 1000000) (hl : ls.length <= 1000000) : Con Tryz.prog 134 [.sl 0 1 (ls.map vss)] [] fun r _ => r = .sl 2 1 (ls.flatten.map vStr) := by
 refine Con.intro Tryz.func134 rfl Tryz.ntmps134 Tryz.results134 (by kernel_rfl) (by simp) 0 (by simp) ?_
 simp only [go_sem]
 refine LoopK.intro (fun i : Nat => ⟨36, [(0, .sl 0 1 (ls.map vss)), (2, .nil), (3, vi (sumL ls i)), (9, .sl 0 1 (ls.map vss)), (10, vi ls.length), (11, vi i)], []⟩)
  (fun i => ls.length - i) (fun i => i <= ls.length) 0 (by omega) ?_ ?_
 ·simp only [go_sem, sumL_zero]
  all_goals exact leV_refl _
 rintro i hi
 have hm := sumL_mono (ls := ls) (i := i)
 by_cases h : i < ls.length
 ·have hg := getRow h
  have hw : IntKind.i64.wrap (i + 1) = i + 1 := wrap_in (by omega) (by omega)
  have hm2 := sumL_mono (ls := ls) (i := i + 1)
  have hs := sumL_succ h
  have hw2 : IntKind.i64.wrap ((sumL ls i : Int) + (ls[i]!.length : Int)) = (sumL ls (i + 1) : Int) := by rw [wrap_in (by omega) (by omega)]; omega
  have a1 : ¬ ((sumL ls (i + 1) : Int) < 0) := by omega
  simp only [go_sem, h, hg, hw, hw2, a1]
  refine roundK.intro (i + 1) (by omega) (by omega) ?_
  simp only [go_sem]
 ·obtain rfl : i = ls.length := by omega
  have e : sumL ls ls.length = ls.flatten.length := by unfold sumL; rw [List.take_length, <- List.length_flatten]
  simp only [go_sem, h, e]
  refine CallU.free (con_growStr ls.flatten.length h1 h2) (by simp only [go_sem]) (by simp only [go_sem]) ?_
  rintro r bx rfl
  simp only [go_sem]
  refine LoopK.intro (fun i : Nat => ⟨36, [(0, .sl 0 1 (ls.map vss)), (2, .nil), (6, .sl 1602 1 (((ls.take i).flatten).map vStr)), (25, .sl 0 1 (ls.map vss)), (26, vi ls.length), (27, vi i)], []⟩)
   (fun i => ls.length - i) (fun i => i <= ls.length) 0 (by omega) ?_ ?_
  ·simp only [go_sem, List.take_zero, List.flatten_nil, List.map_nil]
   all_goals exact leV_refl _
  rintro i hi
  by_cases h : i < ls.length
  ·have hg := getRow h
   have hw : IntKind.i64.wrap (i + 1) = i + 1 := wrap_in (by omega) (by omega)
   have hm2 := sumL_mono (ls := ls) (i := i + 1)
   have hs := sumL_succ h
   have hf := flat_succ h
   have el : (ls.take i).flatten.length = sumL ls i := by unfold sumL; rw [List.length_flatten]
   simp only [go_sem, h, hg, hw]
   refine ⟨by simp only [roomFor, el]; omega, ?_⟩
   refine roundK.intro (i + 1) (by omega) (by omega) ?_
   simp only [go_sem, hf, List.map_append]
  ·obtain rfl : i = ls.length := by omega
   simp only [go_sem, h, List.take_length]
end Go.AM
namespace Go.AM
abbrev Om : Int := 1099511627776
def canV (r : RD) (v : List Int) : Bool := (List.range v.length).all fun i => decide (r.need[i]! <= v[i]!)
def fireO (r : RD) (v : List Int) : List Int := (List.range v.length).map fun i => if v[i]! = Om then Om else v[i]! + (r.give[i]! - r.need[i]!)
theorem fireO_len (r : RD) (v : List Int) : (fireO r v).length = v.length := by simp [fireO]
theorem fireO_at {r : RD} {v : List Int} {i : Nat} (h : i < v.length) : (fireO r v)[i]! = if v[i]! = Om then Om else v[i]! + (r.give[i]! - r.need[i]!) := by
 rw [getElem!_pos _ i (by rw [fireO_len]; exact h)]; simp [fireO]
theorem canV_iff {r : RD} {v : List Int} : canV r v = true ↔ ∀ i, i < v.length -> r.need[i]! <= v[i]! := by
 unfold canV
 simp only [List.all_eq_true, List.mem_range, decide_eq_true_eq]
abbrev SV := Int × List Int
def runV (rules : List RD) : SV -> List Nat -> Option SV
 | s, [] => some s
 | s, k :: ks => if k < rules.length /\ rules[k]!.src = s.1 /\ (∀ i, i < s.2.length -> rules[k]!.need[i]! <= s.2[i]!) then runV rules (rules[k]!.dst, (List.range s.2.length).map fun i => s.2[i]! + (rules[k]!.give[i]! - rules[k]!.need[i]!)) ks else none
theorem step_at {r : RD} {v : List Int} {i : Nat} (h : i < v.length) : ((List.range v.length).map fun i => v[i]! + (r.give[i]! - r.need[i]!))[i]! = v[i]! + (r.give[i]! - r.need[i]!) := by
 rw [getElem!_pos _ i (by simpa using h)]; simp
theorem run_len {rules : List RD} : ∀ {ks : List Nat} {s t : SV}, runV rules s ks = some t -> t.2.length = s.2.length
 | [], s, t, h => by simp only [runV, Option.some.injEq] at h; rw [h]
 | k :: ks, s, t, h => by
  unfold runV at h
  split at h
  ·have := run_len h
   rw [this]; simp
  ·cases h
theorem run_mono {rules : List RD} : ∀ {ks : List Nat} {s t : SV} {v : List Int}, runV rules s ks = some t -> v.length = s.2.length -> (∀ i, i < s.2.length -> s.2[i]! <= v[i]!) ->
  ∃ w, runV rules (s.1, v) ks = some (t.1, w) /\ w.length = t.2.length /\ ∀ i, i < s.2.length -> w[i]! = t.2[i]! + (v[i]! - s.2[i]!)
 | [], s, t, v, e, hv, hle => by
  simp only [runV, Option.some.injEq] at e
  subst e
  exact ⟨v, rfl, hv, fun i _ => by omega⟩
 | k :: ks, s, t, v, e, hv, hle => by
  unfold runV at e
  split at e
  ·rename_i g
   have hl := run_len e
   obtain ⟨w, e1, e2, e3⟩ := run_mono (v := (List.range v.length).map fun i => v[i]! + (rules[k]!.give[i]! - rules[k]!.need[i]!)) e (by simp [hv]) fun i hi => by
    have hi : i < s.2.length := by simpa using hi
    have h1 := hle i hi
    show ((List.range s.2.length).map fun i => s.2[i]! + (rules[k]!.give[i]! - rules[k]!.need[i]!))[i]! <= _
    rw [step_at hi, step_at (by omega)]
    omega
   refine ⟨w, ?_, e2, fun i hi => ?_⟩
   ·unfold runV
    rw [if_pos ⟨g.1, g.2.1, fun i hi => by have hi : i < v.length := hi; have := hle i (by omega); have := g.2.2 i (by omega); show _ <= v[i]!; omega⟩]
    exact e1
   ·have h3 := e3 i (by simpa using hi)
    rw [step_at (by omega)] at h3
    have h4 : ((List.range s.2.length).map fun i => s.2[i]! + (rules[k]!.give[i]! - rules[k]!.need[i]!))[i]! = s.2[i]! + (rules[k]!.give[i]! - rules[k]!.need[i]!) := step_at hi
    rw [h3]
    show t.2[i]! + (v[i]! + (rules[k]!.give[i]! - rules[k]!.need[i]!) - ((List.range s.2.length).map fun i => s.2[i]! + (rules[k]!.give[i]! - rules[k]!.need[i]!))[i]!) = _
    rw [h4]
    omega
  ·cases e
theorem run_app {rules : List RD} : ∀ {a b : List Nat} {s t : SV}, runV rules s a = some t -> runV rules s (a ++ b) = runV rules t b
 | [], b, s, t, h => by
  simp only [runV, Option.some.injEq] at h
  rw [h]; rfl
 | k :: a, b, s, t, h => by
  unfold runV at h
  split at h
  ·rename_i g
   have := run_app (b := b) h
   rw [List.cons_append]
   conv => lhs; unfold runV
   rw [if_pos g]
   exact this
  ·cases h
def repV (a : List Nat) : Nat -> List Nat
 | 0 => []
 | n + 1 => repV a n ++ a
theorem pump_run {rules : List RD} {q : Int} {v w : List Int} {a : List Nat} (h : runV rules (q, v) a = some (q, w)) (hle : ∀ i, i < v.length -> v[i]! <= w[i]!) : ∀ n : Nat, ∃ u, runV rules (q, v) (repV a n) = some (q, u) /\ u.length = v.length /\ ∀ i, i < v.length -> u[i]! = v[i]! + n * (w[i]! - v[i]!)
 | 0 => ⟨v, rfl, rfl, fun i _ => by simp⟩
 | n + 1 => by
  have hl : w.length = v.length := run_len h
  obtain ⟨u, e1, e2, e3⟩ := pump_run h hle n
  obtain ⟨x, f1, f2, f3⟩ := run_mono (v := u) h e2 fun i hi => by
   have h1 := e3 i hi
   have h2 := hle i hi
   have h3 : 0 <= (n : Int) * (w[i]! - v[i]!) := Int.mul_nonneg (by omega) (by omega)
   show v[i]! <= u[i]!
   omega
  refine ⟨x, by rw [repV, run_app e1]; exact f1, by rw [f2]; exact hl, fun i hi => ?_⟩
  have h1 := f3 i hi
  have h2 := e3 i hi
  rw [h1]
  show w[i]! + (u[i]! - v[i]!) = _
  rw [h2, Int.natCast_add, Int.add_mul]
  omega
structure ND where
 st : Int
 vec : List Int
 par : Int
 rule : Int
 deriving Inhabited
def okN1 (x : Int) : Prop := (0 <= x /\ x <= 1048576) \/ x = Om
def okV (np : Nat) (v : List Int) : Prop := v.length = np /\ ∀ x ∈ v, okN1 x
theorem okV.at {np : Nat} {v : List Int} (h : okV np v) {i : Nat} (hi : i < np) : okN1 v[i]! := by
 have := h.1
 rw [getElem!_pos v i (by omega)]; exact h.2 _ (List.getElem_mem _)
theorem okN1.nonneg {x : Int} (h : okN1 x) : 0 <= x := by
 unfold okN1 at h
 have h8 : Om = 1099511627776 := rfl
 omega
theorem okN1.le {x : Int} (h : okN1 x) : x <= Om := by
 unfold okN1 at h
 have h8 : Om = 1099511627776 := rfl
 omega
def overO (r : RD) (v : List Int) : Bool := (List.range v.length).any fun i => decide (v[i]! ≠ Om) && decide (1048576 < v[i]! + (r.give[i]! - r.need[i]!))
theorem fire_ok {np : Nat} {r : RD} {v : List Int} (h : okV np v) (hc : canV r v = true) (hg : ∀ i, i < np -> 0 <= r.give[i]!) (ho : overO r v = false) : okV np (fireO r v) := by
 refine ⟨by rw [fireO_len]; exact h.1, fun x hx => ?_⟩
 obtain ⟨i, hi, rfl⟩ := List.mem_iff_getElem.1 hx
 have hi' : i < v.length := by rw [fireO_len] at hi; exact hi
 rw [<- getElem!_pos (fireO r v) i hi, fireO_at hi']
 split
 ·right; rfl
 ·rename_i hn
  left
  have h1 := (canV_iff.1 hc) i hi'
  have h2 := hg i (by have := h.1; omega)
  refine ⟨by omega, ?_⟩
  unfold overO at ho
  rw [List.any_eq_false] at ho
  have := ho i (List.mem_range.2 hi')
  simp only [Bool.and_eq_true, decide_eq_true_eq, not_and, Int.not_lt] at this
  exact this hn
def ClosedAt (rules : List RD) (l : List ND) (s : Int) (v : List Int) (k : Nat) : Prop := ∀ i, i < k -> rules[i]!.src = s -> canV rules[i]! v = true -> ∃ y ∈ l, y.st = rules[i]!.dst /\ y.vec.length = v.length /\ ∀ j, j < v.length -> (fireO rules[i]! v)[j]! <= y.vec[j]!
structure NodeOk (ns np : Nat) (i : Nat) (x : ND) : Prop where
 st : 0 <= x.st /\ x.st < ns
 vec : okV np x.vec
 par : -1 <= x.par /\ x.par < i
 rule : -1 <= x.rule /\ x.rule < 12
structure Tree (rules : List RD) (ns np : Nat) (s0 : Int) (v0 : List Int) (l : List ND) (next : Nat) : Prop where
 root : ∃ x ∈ l, x.st = s0 /\ x.vec = v0
 nextle : next <= l.length
 len : l.length <= 256
 node : ∀ i, i < l.length -> NodeOk ns np i l[i]!
 closed : ∀ i, i < next -> ClosedAt rules l l[i]!.st l[i]!.vec rules.length
theorem ClosedAt.more {rules : List RD} {l l' : List ND} {s : Int} {v : List Int} {k : Nat} (h : ClosedAt rules l s v k) (hm : ∀ x ∈ l, x ∈ l') : ClosedAt rules l' s v k := fun i hi h1 h2 => by
 obtain ⟨y, hy, h3⟩ := h i hi h1 h2
 exact ⟨y, hm _ hy, h3⟩
theorem ClosedAt.skip {rules : List RD} {l : List ND} {s : Int} {v : List Int} {k : Nat} (h : ClosedAt rules l s v k) (hn : rules[k]!.src = s -> canV rules[k]! v = true -> False) : ClosedAt rules l s v (k + 1) := fun i hi h1 h2 => by
 by_cases hk : i < k
 ·exact h i hk h1 h2
 ·have : i = k := by omega
  subst this
  exact (hn h1 h2).elim
theorem ClosedAt.put {rules : List RD} {l : List ND} {s : Int} {v : List Int} {k : Nat} (h : ClosedAt rules l s v k) {x : ND} (h1 : x.st = rules[k]!.dst) (h2 : x.vec.length = v.length) (h3 : ∀ j, j < v.length -> (fireO rules[k]! v)[j]! <= x.vec[j]!) : ClosedAt rules (l ++ [x]) s v (k + 1) := fun i hi e1 e2 => by
 by_cases hk : i < k
 ·obtain ⟨y, hy, h4⟩ := h i hk e1 e2
  exact ⟨y, List.mem_append_left _ hy, h4⟩
 ·have : i = k := by omega
  subst this
  exact ⟨x, List.mem_append_right _ (List.mem_singleton.2 rfl), h1, h2, h3⟩
structure Part (rules : List RD) (ns np : Nat) (s0 : Int) (v0 : List Int) (l : List ND) (next : Nat) (e : List ND) (k : Nat) : Prop where
 few : e.length <= k
 len : (l ++ e).length <= 256
 node : ∀ i, i < (l ++ e).length -> NodeOk ns np i (l ++ e)[i]!
 closed : ClosedAt rules (l ++ e) l[next]!.st l[next]!.vec k
theorem Tree.part {rules : List RD} {ns np : Nat} {s0 : Int} {v0 : List Int} {l : List ND} {next : Nat} (h : Tree rules ns np s0 v0 l next) : Part rules ns np s0 v0 l next [] 0 := by
 refine ⟨by simp, ?_, ?_, fun i hi => by omega⟩
 ·rw [List.append_nil]; exact h.len
 ·rw [List.append_nil]; exact h.node
theorem Part.skip {rules : List RD} {ns np : Nat} {s0 : Int} {v0 : List Int} {l e : List ND} {next k : Nat} (h : Part rules ns np s0 v0 l next e k) (hn : rules[k]!.src = l[next]!.st -> canV rules[k]! l[next]!.vec = true -> False) : Part rules ns np s0 v0 l next e (k + 1) :=
 ⟨by have := h.few; omega, h.len, h.node, h.closed.skip hn⟩
theorem bang_app {α : Type _} [Inhabited α] {l e : List α} {i : Nat} (h : i < l.length) : (l ++ e)[i]! = l[i]! := by
 rw [getElem!_pos (l ++ e) i (by rw [List.length_append]; omega), getElem!_pos l i h, List.getElem_append_left h]
theorem bang_last {α : Type _} [Inhabited α] {l : List α} {x : α} : (l ++ [x])[l.length]! = x := by
 rw [getElem!_pos (l ++ [x]) l.length (by rw [List.length_append]; simp), List.getElem_append_right (Nat.le_refl _)]; simp
theorem Part.put {rules : List RD} {ns np : Nat} {s0 : Int} {v0 : List Int} {l e : List ND} {next k : Nat} (h : Part rules ns np s0 v0 l next e k) (hl : (l ++ e).length < 256) {x : ND} (ho : NodeOk ns np (l ++ e).length x) (h1 : x.st = rules[k]!.dst) (h2 : x.vec.length = l[next]!.vec.length)
  (h3 : ∀ j, j < l[next]!.vec.length -> (fireO rules[k]! l[next]!.vec)[j]! <= x.vec[j]!) : Part rules ns np s0 v0 l next (e ++ [x]) (k + 1) := by
 refine ⟨by have := h.few; simp; omega, ?_, fun i hi => ?_, ?_⟩
 ·rw [<- List.append_assoc, List.length_append]; simp only [List.length_singleton]; omega
 ·rw [<- List.append_assoc] at hi ⊢
  by_cases hk : i < (l ++ e).length
  ·rw [bang_app hk]; exact h.node i hk
  ·have : i = (l ++ e).length := by rw [List.length_append] at hi; simp only [List.length_singleton] at hi; omega
   subst this
   rw [bang_last]; exact ho
 ·rw [<- List.append_assoc]; exact h.closed.put h1 h2 h3
theorem Tree.step {rules : List RD} {ns np : Nat} {s0 : Int} {v0 : List Int} {l e : List ND} {next : Nat} (h : Tree rules ns np s0 v0 l next) (hn : next < l.length) (hp : Part rules ns np s0 v0 l next e rules.length) : Tree rules ns np s0 v0 (l ++ e) (next + 1) := by
 obtain ⟨x, hx, h1⟩ := h.root
 refine ⟨⟨x, List.mem_append_left _ hx, h1⟩, by rw [List.length_append]; omega, hp.len, hp.node, fun i hi => ?_⟩
 by_cases hk : i < next
 ·rw [bang_app (by omega)]
  exact (h.closed i hk).more fun x hx => List.mem_append_left _ hx
 ·have : i = next := by omega
  subst this
  rw [bang_app hn]; exact hp.closed
theorem Tree.again {rules : List RD} {ns np : Nat} {s0 : Int} {v0 : List Int} {l : List ND} {next : Nat} (h : Tree rules ns np s0 v0 l next) (hn : next < l.length) {k : Nat} (hk : k < next) (h1 : l[k]!.st = l[next]!.st) (h2 : l[k]!.vec = l[next]!.vec) : Tree rules ns np s0 v0 l (next + 1) := by
 refine ⟨h.root, by omega, h.len, h.node, fun i hi => ?_⟩
 by_cases hk : i < next
 ·exact h.closed i hk
 ·have : i = next := by omega
  subst this
  have := h.closed k (by omega)
  rw [h1, h2] at this; exact this
structure LimOk (ns np : Nat) (l : List ND) (n : Nat) (L : List SV) : Prop where
 few : L.length <= n
 real : ∀ y ∈ L, 0 <= y.1 /\ y.1 < ns /\ okV np y.2 /\ ∃ x ∈ l, x.st = y.1 /\ x.vec = y.2
 all : ∀ i, i < n -> ∃ y ∈ L, y.1 = l[i]!.st /\ ∀ j, j < np -> l[i]!.vec[j]! <= y.2[j]!
theorem mem_bang_nd {l : List ND} {x : ND} (h : x ∈ l) : ∃ i, i < l.length /\ l[i]! = x := by
 obtain ⟨i, hi, e⟩ := List.mem_iff_getElem.1 h
 exact ⟨i, hi, by rw [getElem!_pos l i hi, e]⟩
structure LimPart (ns np : Nat) (l : List ND) (x : ND) (L : List SV) (k : Nat) (P : List SV) (done : Bool) : Prop where
 few : P.length <= k + (if done then 1 else 0)
 real : ∀ y ∈ P, 0 <= y.1 /\ y.1 < ns /\ okV np y.2 /\ ∃ x ∈ l, x.st = y.1 /\ x.vec = y.2
 has : done = true -> (x.st, x.vec) ∈ P
 old : ∀ i, i < k -> L[i]! ∈ P \/ (L[i]!.1 = x.st /\ ∀ j, j < np -> L[i]!.2[j]! <= x.vec[j]!)
theorem mem_bangSV {L : List SV} {y : SV} (h : y ∈ L) : ∃ i, i < L.length /\ L[i]! = y := by
 obtain ⟨i, hi, e⟩ := List.mem_iff_getElem.1 h
 exact ⟨i, hi, by rw [getElem!_pos L i hi, e]⟩
theorem LimPart.skip {ns np : Nat} {l : List ND} {x : ND} {L P : List SV} {k : Nat} {d : Bool} (h : LimPart ns np l x L k P d) (h1 : L[k]!.1 = x.st) (h2 : ∀ j, j < np -> L[k]!.2[j]! <= x.vec[j]!) : LimPart ns np l x L (k + 1) P d := by
 refine ⟨by have := h.few; omega, h.real, h.has, fun i hi => ?_⟩
 by_cases hk : i < k
 ·exact h.old i hk
 ·have : i = k := by omega
  subst this
  exact .inr ⟨h1, h2⟩
theorem LimPart.keep {ns np : Nat} {l : List ND} {x : ND} {L P : List SV} {k : Nat} {d : Bool} (h : LimPart ns np l x L k P d) (hy : 0 <= L[k]!.1 /\ L[k]!.1 < ns /\ okV np L[k]!.2 /\ ∃ x ∈ l, x.st = L[k]!.1 /\ x.vec = L[k]!.2) : LimPart ns np l x L (k + 1) (P ++ [L[k]!]) d := by
 refine ⟨by have := h.few; simp only [List.length_append, List.length_singleton]; omega, fun y hy' => ?_, fun hd => List.mem_append_left _ (h.has hd), fun i hi => ?_⟩
 ·rcases List.mem_append.1 hy' with h1 | h1
  ·exact h.real y h1
  ·rw [List.mem_singleton] at h1; subst h1; exact hy
 ·by_cases hk : i < k
  ·rcases h.old i hk with h1 | h1
   ·exact .inl (List.mem_append_left _ h1)
   ·exact .inr h1
  ·have : i = k := by omega
   subst this
   exact .inl (List.mem_append_right _ (List.mem_singleton.2 rfl))
theorem LimPart.put {ns np : Nat} {l : List ND} {x : ND} {L P : List SV} {k : Nat} (h : LimPart ns np l x L k P false) (hx : x ∈ l) (ho : 0 <= x.st /\ x.st < ns /\ okV np x.vec) : LimPart ns np l x L k (P ++ [(x.st, x.vec)]) true := by
 refine ⟨by have := h.few; simp only [List.length_append, List.length_singleton] at *; simp at *; omega, fun y hy' => ?_, fun _ => List.mem_append_right _ (List.mem_singleton.2 rfl), fun i hi => ?_⟩
 ·rcases List.mem_append.1 hy' with h1 | h1
  ·exact h.real y h1
  ·rw [List.mem_singleton] at h1; subst h1; exact ⟨ho.1, ho.2.1, ho.2.2, x, hx, rfl, rfl⟩
 ·rcases h.old i hi with h1 | h1
  ·exact .inl (List.mem_append_left _ h1)
  ·exact .inr h1
theorem LimPart.done {ns np : Nat} {l : List ND} {L P : List SV} {n : Nat} (hL : LimOk ns np l n L) (h : LimPart ns np l l[n]! L L.length P true) : LimOk ns np l (n + 1) P := by
 refine ⟨by have h1 := h.few; have h2 := hL.few; simp only [if_true] at h1; omega, h.real, fun i hi => ?_⟩
 have hx := h.has rfl
 by_cases hk : i < n
 ·obtain ⟨y, hy, g1, g2⟩ := hL.all i hk
  obtain ⟨a, ha, rfl⟩ := mem_bangSV hy
  rcases h.old a ha with h1 | ⟨h1, h2⟩
  ·exact ⟨_, h1, g1, g2⟩
  ·exact ⟨_, hx, by rw [<- g1, h1], fun j hj => by have := g2 j hj; have := h2 j hj; show _ <= l[n]!.vec[j]!; omega⟩
 ·have : i = n := by omega
  subst this
  exact ⟨_, hx, rfl, fun j _ => Int.le_refl _⟩
theorem LimOk.cover {ns np : Nat} {l : List ND} {L : List SV} {n : Nat} (hL : LimOk ns np l n L) (h : ∃ y ∈ L, y.1 = l[n]!.st /\ ∀ j, j < np -> l[n]!.vec[j]! <= y.2[j]!) : LimOk ns np l (n + 1) L := by
 refine ⟨by have := hL.few; omega, hL.real, fun i hi => ?_⟩
 by_cases hk : i < n
 ·exact hL.all i hk
 ·have : i = n := by omega
  subst this
  exact h
def raised (v w : List Int) : Prop := ∀ i, i < v.length -> w[i]! = v[i]! \/ w[i]! = Om
theorem raised.le {np : Nat} {v w : List Int} (h : raised v w) (hv : okV np v) {i : Nat} (hi : i < v.length) : v[i]! <= w[i]! := by
 rcases h i hi with h1 | h1
 ·rw [h1]; exact Int.le_refl _
 ·rw [h1]; exact (hv.at (by have := hv.1; omega)).le
def elB (x : Int) : Bool := (decide (0 <= x) && decide (x <= 1048576)) || x == 1099511627776
def vecB (l : List Int) : Bool := l.all elB && decide (l.length <= 6)
def leqV (a b : List Int) : Bool := vecB a && vecB b && decide (a.length = b.length) && (List.range a.length).all fun i => decide (a[i]! <= b[i]!)
end Go.AM
namespace Go.AM
open Go Go.Proofs Go.RowKit
set_option maxRecDepth 100000
theorem con_relem (x : Int) : Con Tryz.prog 79 [vi x] [] fun r _ => r = vb (elB x) := by
 refine Con.intro Tryz.func79 rfl Tryz.ntmps79 Tryz.results79 (by kernel_rfl) (by simp) 0 (by simp) ?_
 unfold elB
 by_cases h1 : 0 <= x
 ·by_cases h2 : x <= 1048576
  ·simp only [go_sem, h1, h2, decide_true, Bool.true_and, Bool.true_or]
  ·simp only [go_sem, h1, h2, decide_true, decide_false, Bool.true_and, Bool.false_or]
 ·simp only [go_sem, h1, decide_false, Bool.false_and, Bool.false_or]
theorem con_rvecValid (l : List Int) (hl : l.length <= 1000000) : Con Tryz.prog 55 [vs 0 l] [] fun r _ => r = vb (vecB l) := by
 refine Con.intro Tryz.func55 rfl Tryz.ntmps55 Tryz.results55 (by kernel_rfl) (by simp) 0 (by simp) ?_
 unfold vecB
 simp only [go_sem]
 refine LoopK.intro (fun i : Nat => ⟨19, [(0, vs 0 l), (3, vi i)], []⟩) (fun i => l.length - i) (fun i => i <= l.length /\ ∀ j, j < i -> elB l[j]! = true) 0 ⟨by omega, fun j hj => by omega⟩ ?_ ?_
 ·simp only [go_sem]
 rintro i ⟨hi, hj⟩
 by_cases h : i < l.length
 ·have hg := getv h
  have hw : IntKind.i64.wrap (i + 1) = i + 1 := wrap_in (by omega) (by omega)
  simp only [go_sem, h, hg]
  refine CallU.free (con_relem l[i]!) (by simp only [go_sem]) (by simp only [go_sem]) ?_
  rintro r bx rfl
  cases hb : elB l[i]!
  ·have e : l.all elB = false := by
    rw [List.all_eq_false]
    exact ⟨l[i]!, mem_bangI h, by rw [hb]; simp⟩
   simp only [go_sem, e, Bool.false_and]
  ·simp only [go_sem, hw]
   refine roundK.intro (i + 1) ⟨by omega, fun j hj2 => ?_⟩ (by omega) ?_
   ·by_cases e : j = i
    ·rw [e, hb]
    ·exact hj j (by omega)
   simp only [go_sem]
 ·have e : l.all elB = true := by
   rw [List.all_eq_true]
   intro x hx
   obtain ⟨j, hj2, rfl⟩ := List.getElem_of_mem hx
   have := hj j (by omega)
   rw [getElem!_pos l j hj2] at this
   exact this
  have e2 : decide ((l.length : Int) <= 6) = decide (l.length <= 6) := by simp; omega
  simp only [go_sem, h, e, Bool.true_and]
theorem con_rvecLeq (a b : List Int) (ha : a.length <= 1000000) (hb : b.length <= 1000000) : Con Tryz.prog 29 [vs 0 a, vs 0 b] [] fun r _ => r = vb (leqV a b) := by
 refine Con.intro Tryz.func29 rfl Tryz.ntmps29 Tryz.results29 (by kernel_rfl) (by simp) 0 (by simp) ?_
 unfold leqV
 simp only [go_sem]
 refine CallU.free (con_rvecValid a ha) (by simp only [go_sem]) (by simp only [go_sem]) ?_
 rintro r bx rfl
 cases h1 : vecB a
 ·simp only [go_sem, Bool.false_and]
 simp only [go_sem]
 refine CallU.free (con_rvecValid b hb) (by simp only [go_sem]) (by simp only [go_sem]) ?_
 rintro r bx rfl
 cases h2 : vecB b
 ·simp only [go_sem, Bool.false_and]
 by_cases h3 : a.length = b.length
 case neg =>
  have h3' : ((a.length : Int) != (b.length : Int)) = true := bne_iff_ne.2 (by omega)
  simp only [go_sem, h3', h3, decide_false, Bool.and_false, Bool.false_and]
 have h3' : ((a.length : Int) != (b.length : Int)) = false := by rw [h3]; simp
 rw [decide_eq_true h3, Bool.true_and]
 simp only [go_sem, h3']
 refine LoopK.intro (fun i : Nat => ⟨36, [(0, vs 0 a), (1, vs 0 b), (5, vi i)], []⟩) (fun i => a.length - i) (fun i => i <= a.length /\ ∀ j, j < i -> a[j]! <= b[j]!) 0 ⟨by omega, fun j hj => by omega⟩ ?_ ?_
 ·simp only [go_sem]
 rintro i ⟨hi, hj⟩
 by_cases h : i < a.length
 ·have h' : i < b.length := by omega
  have hg := getv h
  have hg' := getv h'
  have hw : IntKind.i64.wrap (i + 1) = i + 1 := wrap_in (by omega) (by omega)
  simp only [go_sem, h]
  refine DrawK.walk 9 mixed (by kernel_rfl) ?_
  simp only [go_sem, h, h', hg, hg']
  by_cases hlt : b[i]! < a[i]!
  ·have e : ((List.range a.length).all fun i => decide (a[i]! <= b[i]!)) = false := by
    rw [List.all_eq_false]
    exact ⟨i, List.mem_range.2 h, by rw [decide_eq_true_eq]; omega⟩
   simp only [go_sem, hlt, e]
  ·simp only [go_sem, hlt, hw]
   refine roundK.intro (i + 1) ⟨by omega, fun j hj2 => ?_⟩ (by omega) ?_
   ·by_cases e : j = i
    ·rw [e]; omega
    ·exact hj j (by omega)
   simp only [go_sem]
 ·have e : ((List.range a.length).all fun i => decide (a[i]! <= b[i]!)) = true := by
   rw [List.all_eq_true]
   intro j hj2
   rw [List.mem_range] at hj2
   rw [decide_eq_true_eq]
   exact hj j (by omega)
  simp only [go_sem, h, e]
def vLim (y : SV) : AV := .ag [vi y.1, vs 0 y.2]
def vND (x : ND) : AV := .ag [vi x.st, vs 0 x.vec, vi x.par, vi x.rule]
attribute [go_sem] vLim vND
theorem getLim {l : List SV} {i : Nat} (h : i < l.length) : (l.map vLim)[i]? = some (vLim l[i]!) := by
 rw [List.getElem?_map, List.getElem?_eq_getElem h, getElem!_pos l i h, Option.map_some]
theorem getND {l : List ND} {i : Nat} (h : i < l.length) : (l.map vND)[i]? = some (vND l[i]!) := by
 rw [List.getElem?_map, List.getElem?_eq_getElem h, getElem!_pos l i h, Option.map_some]
theorem mem_bangL {l : List SV} {i : Nat} (h : i < l.length) : l[i]! ∈ l := by rw [getElem!_pos l i h]; exact List.getElem_mem h
def TellsL (f : FuncId) (caps : List AV) (l : List SV) (p : SV -> Bool) : Prop := ∀ x ∈ l, Con Tryz.prog f ([vLim x] ++ caps) [] fun r _ => r = .sc (.bool (p x))
theorem con_indexLim (l : List SV) (f : FuncId) (caps : List AV) (p : SV -> Bool) (hc : mapTops (viewV []) caps = caps) (hf : TellsL f caps l p) (hl : l.length <= 9223372036854775806) : Con Tryz.prog 64 [.sl 0 2 (l.map vLim), .fn f caps] [] fun r _ => r = vi (findI p l) := by
 refine Con.intro Tryz.func64 rfl Tryz.ntmps64 Tryz.results64 (by kernel_rfl) (by simp) 0 (by simp) ?_
 simp only [go_sem]
 refine LoopK.intro (fun i : Nat => ⟨19, [(0, .sl 0 2 (l.map vLim)), (1, .fn f caps), (7, vi l.length), (8, vi i)], []⟩)
  (fun i => l.length - i) (fun i => i <= l.length /\ ∀ j, j < i -> p l[j]! = false) 0 ⟨by omega, fun j hj => by omega⟩ ?_ ?_
 ·simp only [go_sem]
  all_goals exact leV_refl _
 ·rintro i ⟨hi, hb⟩
  by_cases h : i < l.length
  ·have hg := getLim h
   have hw : IntKind.i64.wrap (i + 1) = i + 1 := wrap_in (by omega) (by omega)
   simp only [go_sem, h, hg]
   refine CallU.look (hf l[i]! (mem_bangL h)) (by simp only [go_sem]) (by simp only [go_sem, hc]) ?_
   rintro r bx rfl
   cases hp : p l[i]!
   ·simp only [go_sem, hw]
    refine roundK.intro (i + 1) ⟨by omega, fun j hj => ?_⟩ (by omega) ?_
    ·by_cases hji : j = i
     ·subst hji; exact hp
     ·exact hb j (by omega)
    ·simp only [go_sem]
   ·simp only [go_sem]
    rw [findI_stop h hb hp]
  ·simp only [go_sem, h]
   rw [findI_none (fun j hj => hb j (by omega))]
theorem con_containsLim (l : List SV) (f : FuncId) (caps : List AV) (p : SV -> Bool) (hc : mapTops (viewV []) caps = caps) (hf : TellsL f caps l p) (hl : l.length <= 9223372036854775806) : Con Tryz.prog 38 [.sl 0 2 (l.map vLim), .fn f caps] [] fun r _ => r = .sc (.bool (l.any p)) := by
 refine Con.intro Tryz.func38 rfl Tryz.ntmps38 Tryz.results38 (by kernel_rfl) (by simp) 0 (by simp) ?_
 simp only [go_sem]
 refine CallU.look (con_indexLim l f caps p hc hf hl) (by simp only [go_sem]) (by simp only [go_sem]) ?_
 rintro r bx rfl
 simp only [go_sem, findI_ge]
theorem con_indexI (l : List Int) (v : Int) (hl : l.length <= 9223372036854775806) : Con Tryz.prog 70 [vs 0 l, vi v] [] fun r _ => r = vi (findI (fun x => v == x) l) := by
 refine Con.intro Tryz.func70 rfl Tryz.ntmps70 Tryz.results70 (by kernel_rfl) (by simp) 0 (by simp) ?_
 simp only [go_sem]
 refine LoopK.intro (fun i : Nat => ⟨19, [(0, vs 0 l), (1, vi v), (7, vi l.length), (8, vi i)], []⟩)
  (fun i => l.length - i) (fun i => i <= l.length /\ ∀ j, j < i -> (v == l[j]!) = false) 0 ⟨by omega, fun j hj => by omega⟩ ?_ ?_
 ·simp only [go_sem]
  all_goals exact leV_refl _
 ·rintro i ⟨hi, hb⟩
  by_cases h : i < l.length
  ·have hg := getv h
   have hw : IntKind.i64.wrap (i + 1) = i + 1 := wrap_in (by omega) (by omega)
   cases hp : (v == l[i]!)
   ·simp only [go_sem, h, hg, hp, hw]
    refine roundK.intro (i + 1) ⟨by omega, fun j hj => ?_⟩ (by omega) ?_
    ·by_cases hji : j = i
     ·subst hji; exact hp
     ·exact hb j (by omega)
    ·simp only [go_sem]
   ·simp only [go_sem, h, hg, hp]
    rw [findI_stop (p := fun x : Int => v == x) h hb hp]
  ·simp only [go_sem, h]
   rw [findI_none (p := fun x : Int => v == x) (fun j hj => hb j (by omega))]
theorem con_containsI (l : List Int) (v : Int) (hl : l.length <= 9223372036854775806) : Con Tryz.prog 46 [vs 0 l, vi v] [] fun r _ => r = .sc (.bool (l.any fun x => v == x)) := by
 refine Con.intro Tryz.func46 rfl Tryz.ntmps46 Tryz.results46 (by kernel_rfl) (by simp) 0 (by simp) ?_
 simp only [go_sem]
 refine CallU.free (con_indexI l v hl) (by simp only [go_sem]) (by simp only [go_sem]) ?_
 rintro r bx rfl
 simp only [go_sem, findI_ge]
theorem getRowI {ls : List (List Int)} {i : Nat} (h : i < ls.length) : (ls.map (vs 0))[i]? = some (.sl 0 1 (ls[i]!.map vi)) := by
 rw [List.getElem?_map, List.getElem?_eq_getElem h, getElem!_pos ls i h, Option.map_some]; rfl
theorem con_growInt (n : Nat) (h1 : 1 <= n) (h2 : n <= 1000000) : Con Tryz.prog 68 [.nil, vi n] [] fun r _ => r = .sl 2 1 [] := by
 refine Con.intro Tryz.func68 rfl Tryz.ntmps68 Tryz.results68 (by kernel_rfl) (by simp) 0 (by simp) ?_
 have a1 : ¬ ((n : Int) < 0) := by omega
 have a2 : (0 : Int) < (n : Int) := by omega
 have hw : IntKind.i64.wrap ((n : Int) - 0) = n := by rw [wrap_in (by omega) (by omega)]; omega
 have hz : IntKind.i64.wrap 0 = 0 := wrap_in (by omega) (by omega)
 simp only [go_sem, a1, a2, hz, hw]
 omega
theorem con_concatInt (ls : List (List Int)) (h1 : 1 <= ls.flatten.length) (h2 : ls.flatten.length <= 1000000) (hl : ls.length <= 1000000) : Con Tryz.prog 42 [.sl 0 1 (ls.map (vs 0))] [] fun r _ => r = .sl 2 1 (ls.flatten.map vi) := by
 refine Con.intro Tryz.func42 rfl Tryz.ntmps42 Tryz.results42 (by kernel_rfl) (by simp) 0 (by simp) ?_
 simp only [go_sem]
 refine LoopK.intro (fun i : Nat => ⟨36, [(0, .sl 0 1 (ls.map (vs 0))), (2, .nil), (3, vi (sumL ls i)), (9, .sl 0 1 (ls.map (vs 0))), (10, vi ls.length), (11, vi i)], []⟩)
  (fun i => ls.length - i) (fun i => i <= ls.length) 0 (by omega) ?_ ?_
 ·simp only [go_sem, sumL_zero]
  all_goals exact leV_refl _
 rintro i hi
 have hm := sumL_mono (ls := ls) (i := i)
 by_cases h : i < ls.length
 ·have hg := getRowI h
  have hw : IntKind.i64.wrap (i + 1) = i + 1 := wrap_in (by omega) (by omega)
  have hm2 := sumL_mono (ls := ls) (i := i + 1)
  have hs := sumL_succ h
  have hw2 : IntKind.i64.wrap ((sumL ls i : Int) + (ls[i]!.length : Int)) = (sumL ls (i + 1) : Int) := by rw [wrap_in (by omega) (by omega)]; omega
  have a1 : ¬ ((sumL ls (i + 1) : Int) < 0) := by omega
  simp only [go_sem, h, hg, hw, hw2, a1]
  refine roundK.intro (i + 1) (by omega) (by omega) ?_
  simp only [go_sem]
 ·obtain rfl : i = ls.length := by omega
  have e : sumL ls ls.length = ls.flatten.length := by unfold sumL; rw [List.take_length, <- List.length_flatten]
  simp only [go_sem, h, e]
  refine CallU.free (con_growInt ls.flatten.length h1 h2) (by simp only [go_sem]) (by simp only [go_sem]) ?_
  rintro r bx rfl
  simp only [go_sem]
  refine LoopK.intro (fun i : Nat => ⟨36, [(0, .sl 0 1 (ls.map (vs 0))), (2, .nil), (6, .sl 1602 1 (((ls.take i).flatten).map vi)), (25, .sl 0 1 (ls.map (vs 0))), (26, vi ls.length), (27, vi i)], []⟩)
   (fun i => ls.length - i) (fun i => i <= ls.length) 0 (by omega) ?_ ?_
  ·simp only [go_sem, List.take_zero, List.flatten_nil, List.map_nil]
   all_goals exact leV_refl _
  rintro i hi
  by_cases h : i < ls.length
  ·have hg := getRowI h
   have hw : IntKind.i64.wrap (i + 1) = i + 1 := wrap_in (by omega) (by omega)
   have hm2 := sumL_mono (ls := ls) (i := i + 1)
   have hs := sumL_succ h
   have hf := flat_succ h
   have el : (ls.take i).flatten.length = sumL ls i := by unfold sumL; rw [List.length_flatten]
   simp only [go_sem, h, hg, hw]
   refine ⟨by simp only [roomFor, el]; omega, ?_⟩
   refine roundK.intro (i + 1) (by omega) (by omega) ?_
   simp only [go_sem, hf, List.map_append]
  ·obtain rfl : i = ls.length := by omega
   simp only [go_sem, h, List.take_length]
end Go.AM
namespace Go.AM
theorem okN_el {x : Int} (h : okN1 x) : elB x = true := by
 unfold okN1 at h
 have h8 : Om = 1099511627776 := rfl
 unfold elB
 simp only [Bool.or_eq_true, Bool.and_eq_true, decide_eq_true_eq, beq_iff_eq]
 omega
theorem ok_vec {np : Nat} {v : List Int} (h : okV np v) (h6 : np <= 6) : vecB v = true := by
 have := h.1
 unfold vecB
 rw [Bool.and_eq_true, List.all_eq_true, decide_eq_true_eq]
 exact ⟨fun x hx => okN_el (h.2 x hx), by omega⟩
theorem leq_iff {np : Nat} {a b : List Int} (ha : okV np a) (hb : okV np b) (h6 : np <= 6) : leqV a b = true ↔ ∀ j, j < np -> a[j]! <= b[j]! := by
 have h1 := ha.1
 have h2 := hb.1
 unfold leqV
 rw [ok_vec ha h6, ok_vec hb h6, h1, h2]
 simp
def lessO (a b : List Int) : Bool := (List.range a.length).any fun i => decide (a[i]! < b[i]!) && decide (b[i]! ≠ Om)
theorem less_hit {a b : List Int} {i : Nat} (h : i < a.length) (h1 : a[i]! < b[i]!) (h2 : b[i]! ≠ Om) : lessO a b = true := by
 unfold lessO
 rw [List.any_eq_true]
 exact ⟨i, List.mem_range.2 h, by rw [decide_eq_true h1, decide_eq_true h2]; rfl⟩
theorem less_none {a b : List Int} (h : ∀ i, i < a.length -> ¬ (a[i]! < b[i]! /\ b[i]! ≠ Om)) : lessO a b = false := by
 unfold lessO
 rw [List.any_eq_false]
 intro i hi
 have := h i (List.mem_range.1 hi)
 rw [Bool.and_eq_true, decide_eq_true_eq, decide_eq_true_eq]
 exact this
structure NodesOk (ns np : Nat) (l : List ND) : Prop where
 len : l.length <= 256
 node : ∀ i, i < l.length -> NodeOk ns np i l[i]!
theorem Tree.nodes {rules : List RD} {ns np : Nat} {s0 : Int} {v0 : List Int} {l : List ND} {next : Nat} (h : Tree rules ns np s0 v0 l next) : NodesOk ns np l := ⟨h.len, h.node⟩
def smallerF (l : List ND) (s : Int) (v : List Int) : Nat -> Int -> Int
 | 0, _ => -1
 | k + 1, n => if 0 <= n /\ n < l.length then if l[n.toNat]!.st == s && (leqV l[n.toNat]!.vec v && lessO l[n.toNat]!.vec v) then n else smallerF l s v k l[n.toNat]!.par else -1
theorem smaller_neg {l : List ND} {s : Int} {v : List Int} {n : Int} (h : n < 0) : ∀ k, smallerF l s v k n = -1
 | 0 => rfl
 | k + 1 => by unfold smallerF; rw [if_neg (by omega)]
theorem smaller_spec {l : List ND} {s : Int} {v : List Int} : ∀ (k : Nat) (n : Int), smallerF l s v k n = -1 \/ ∃ j : Nat, smallerF l s v k n = j /\ j < l.length /\ leqV l[j]!.vec v = true /\ lessO l[j]!.vec v = true
 | 0, n => .inl rfl
 | k + 1, n => by
  unfold smallerF
  split
  ·rename_i h
   split
   ·rename_i hq
    rw [Bool.and_eq_true, Bool.and_eq_true] at hq
    exact .inr ⟨n.toNat, by omega, by omega, hq.2.1, hq.2.2⟩
   ·exact smaller_spec k _
  ·exact .inl rfl
def raiseV (x w : List Int) (i : Nat) : List Int := (List.range w.length).map fun j => if j < i /\ x[j]! < w[j]! then Om else w[j]!
theorem raiseV_len (x w : List Int) (i : Nat) : (raiseV x w i).length = w.length := by simp [raiseV]
theorem raiseV_at {x w : List Int} {i j : Nat} (h : j < w.length) : (raiseV x w i)[j]! = if j < i /\ x[j]! < w[j]! then Om else w[j]! := by
 rw [getElem!_pos _ j (by rw [raiseV_len]; exact h)]; simp [raiseV]
theorem raiseV_zero (x w : List Int) : raiseV x w 0 = w := by
 apply List.ext_getElem (raiseV_len _ _ _)
 intro j h1 h2
 rw [<- getElem!_pos (raiseV x w 0) j h1, raiseV_at h2, getElem!_pos w j h2]; simp
theorem raiseV_keep {x w : List Int} {i : Nat} (h : ¬ x[i]! < w[i]!) : raiseV x w (i + 1) = raiseV x w i := by
 unfold raiseV
 apply List.map_congr_left
 intro j _
 by_cases hj : j = i
 ·subst hj; rw [if_neg (fun hh => h hh.2), if_neg (fun hh => h hh.2)]
 ·by_cases h1 : j < i /\ x[j]! < w[j]!
  ·rw [if_pos h1, if_pos ⟨by omega, h1.2⟩]
  ·rw [if_neg h1, if_neg (fun hh => h1 ⟨by omega, hh.2⟩)]
theorem raiseV_set {x w : List Int} {i : Nat} (_hi : i < w.length) (h : x[i]! < w[i]!) : (raiseV x w i).set i Om = raiseV x w (i + 1) := by
 apply List.ext_getElem (by rw [List.length_set, raiseV_len, raiseV_len])
 intro j h1 h2
 have hj : j < w.length := by rw [raiseV_len] at h2; exact h2
 rw [List.getElem_set, <- getElem!_pos (raiseV x w (i + 1)) j h2, raiseV_at hj]
 by_cases e : i = j
 ·subst e; rw [if_pos rfl, if_pos ⟨by omega, h⟩]
 ·rw [if_neg e, <- getElem!_pos (raiseV x w i) j (by rw [raiseV_len]; exact hj), raiseV_at hj]
  by_cases h1 : j < i /\ x[j]! < w[j]!
  ·rw [if_pos h1, if_pos ⟨by omega, h1.2⟩]
  ·rw [if_neg h1, if_neg (fun hh => h1 ⟨by omega, hh.2⟩)]
def finN (w : List Int) : Nat := ((List.range w.length).filter fun i => w[i]! != Om).length
theorem filter_lt {α : Type} {p q : α -> Bool} : ∀ {l : List α} {x : α}, (∀ y ∈ l, q y = true -> p y = true) -> x ∈ l -> p x = true -> q x = false -> (l.filter q).length < (l.filter p).length
 | [], x, _, hx, _, _ => by cases hx
 | y :: l, x, h, hx, hp, hq => by
  have hmono : (l.filter q).length <= (l.filter p).length := by
   have : ∀ {l : List α}, (∀ y ∈ l, q y = true -> p y = true) -> (l.filter q).length <= (l.filter p).length := by
    intro l
    induction l with
    | nil => intro _; simp
    | cons a l ih =>
     intro h
     have := ih fun y hy => h y (List.mem_cons_of_mem _ hy)
     have ha := h a (List.mem_cons_self ..)
     rw [List.filter_cons, List.filter_cons]
     cases hqa : q a
     ·cases hpa : p a <;> simp <;> omega
     ·rw [ha hqa]; simp; omega
   exact this fun y hy => h y (List.mem_cons_of_mem _ hy)
  rw [List.filter_cons, List.filter_cons]
  rcases List.mem_cons.1 hx with rfl | hx
  ·rw [hp, hq]; simp; omega
  ·have ih := filter_lt (fun y hy => h y (List.mem_cons_of_mem _ hy)) hx hp hq
   have ha := h y (List.mem_cons_self ..)
   cases hqa : q y
   ·cases hpa : p y <;> simp <;> omega
   ·rw [ha hqa]; simp; omega
theorem raise_fin {x w : List Int} (hl : x.length = w.length) (h : lessO x w = true) : finN (raiseV x w w.length) < finN w := by
 unfold lessO at h
 rw [List.any_eq_true] at h
 obtain ⟨i, hi, h⟩ := h
 rw [List.mem_range] at hi
 rw [Bool.and_eq_true, decide_eq_true_eq, decide_eq_true_eq] at h
 unfold finN
 rw [raiseV_len]
 refine filter_lt (x := i) (fun j hj hq => ?_) (List.mem_range.2 (by omega)) (bne_iff_ne.2 h.2) ?_
 ·rw [List.mem_range] at hj
  rw [raiseV_at hj] at hq
  rw [bne_iff_ne] at hq ⊢
  intro e
  rw [e] at hq
  split at hq <;> exact hq rfl
 ·rw [raiseV_at (by omega), if_pos ⟨by omega, h.1⟩]; rfl
theorem raise_ok {np : Nat} {x w : List Int} {i : Nat} (h : okV np w) : okV np (raiseV x w i) := by
 refine ⟨by rw [raiseV_len]; exact h.1, fun y hy => ?_⟩
 obtain ⟨j, hj, rfl⟩ := List.mem_iff_getElem.1 hy
 have hj' : j < w.length := by rw [raiseV_len] at hj; exact hj
 rw [<- getElem!_pos (raiseV x w i) j hj, raiseV_at hj']
 split
 ·exact .inr rfl
 ·exact h.at (by have := h.1; omega)
theorem raise_up {v x w : List Int} {i : Nat} (h : raised v w) (hl : v.length = w.length) : raised v (raiseV x w i) := by
 intro j hj
 rw [raiseV_at (by omega)]
 split
 ·exact .inr rfl
 ·exact h j hj
def raiseF (l : List ND) (n : Int) (s : Int) : Nat -> List Int -> List Int
 | 0, v => v
 | k + 1, v => if smallerF l s v 257 n < 0 then v else raiseF l n s k (raiseV l[(smallerF l s v 257 n).toNat]!.vec v v.length)
theorem raiseF_good {l : List ND} {n s : Int} {np : Nat} {v0 : List Int} : ∀ (k : Nat) {w : List Int}, okV np w -> v0.length = np -> raised v0 w -> okV np (raiseF l n s k w) /\ raised v0 (raiseF l n s k w)
 | 0, w, h, _, hr => ⟨h, hr⟩
 | k + 1, w, h, hl, hr => by
  unfold raiseF
  split
  ·exact ⟨h, hr⟩
  ·exact raiseF_good k (raise_ok h) hl (raise_up hr (by have := h.1; omega))
def raiseT (l : List ND) (n : Nat) (s : Int) (v : List Int) : List Int := raiseF l n s (finN v + 1) v
structure StD where
 rule : Nat
 state : Nat
 v : List Int
 deriving Inhabited
theorem mem_bangW {α : Type} [Inhabited α] {l : List α} {i : Nat} (h : i < l.length) : l[i]! ∈ l := by rw [getElem!_pos l i h]; exact List.getElem_mem h
def fitsB (r : RD) (s : Int) (v : List Int) : Bool := r.src == s && canV r v
def atB (a b : List Int) : Bool := (List.range a.length).all fun i => decide (a[i]! <= b[i]!)
theorem at_iff {a b : List Int} : atB a b = true ↔ ∀ i, i < a.length -> a[i]! <= b[i]! := by
 unfold atB
 simp only [List.all_eq_true, List.mem_range, decide_eq_true_eq]
def walkF (rules : List RD) : SV -> List Int -> Int × SV × List StD
 | x, [] => (0, x, [])
 | x, k :: ks => if fitsB rules[k.toNat]! x.1 x.2 then if overO rules[k.toNat]! x.2 then (1, x, []) else
   let r := walkF rules (rules[k.toNat]!.dst, fireO rules[k.toNat]! x.2) ks
   (r.1, r.2.1, ⟨k.toNat, rules[k.toNat]!.dst.toNat, fireO rules[k.toNat]! x.2⟩ :: r.2.2) else (18, x, [])
def growL (v w : List Int) : List Int := ((List.range w.length).filter fun i => decide (v[i]! < w[i]!)).map Int.ofNat
def growsF (rules : List RD) (x0 : SV) (b a : List Int) : Int × List Int :=
 let p := walkF rules x0 b
 if p.1 ≠ 0 then (p.1, []) else
 let q := walkF rules p.2.1 a
 if q.1 ≠ 0 then (q.1, []) else
 if q.2.1.1 ≠ p.2.1.1 \/ atB p.2.1.2 q.2.1.2 = false then (43, []) else
 if (growL p.2.1.2 q.2.1.2).length = 0 then (11, []) else (0, growL p.2.1.2 q.2.1.2)
def finV (np : Nat) (v : List Int) : Prop := v.length = np /\ ∀ x ∈ v, 0 <= x /\ x <= 1048576
theorem finV.ok {np : Nat} {v : List Int} (h : finV np v) : okV np v := ⟨h.1, fun x hx => .inl (h.2 x hx)⟩
theorem finV.at {np : Nat} {v : List Int} (h : finV np v) {i : Nat} (hi : i < np) : 0 <= v[i]! /\ v[i]! <= 1048576 := by
 have := h.1
 rw [getElem!_pos v i (by omega)]; exact h.2 _ (List.getElem_mem _)
theorem fire_fin {np : Nat} {r : RD} {v : List Int} (h : finV np v) : fireO r v = (List.range v.length).map fun i => v[i]! + (r.give[i]! - r.need[i]!) := by
 unfold fireO
 apply List.map_congr_left
 intro i hi
 rw [List.mem_range] at hi
 have := h.at (i := i) (by have := h.1; omega)
 have h8 : Om = 1099511627776 := rfl
 rw [if_neg (by omega)]
theorem fire_finV {np : Nat} {r : RD} {v : List Int} (h : finV np v) (hc : canV r v = true) (hg : ∀ i, i < np -> 0 <= r.give[i]!) (ho : overO r v = false) : finV np (fireO r v) := by
 have h1 := fire_ok h.ok hc hg ho
 refine ⟨h1.1, fun x hx => ?_⟩
 have h2 := h1.2 x hx
 unfold okN1 at h2
 rcases h2 with h2 | h2
 ·exact h2
 exfalso
 obtain ⟨i, hi, rfl⟩ := List.mem_iff_getElem.1 hx
 have hi' : i < v.length := by rw [fireO_len] at hi; exact hi
 rw [<- getElem!_pos (fireO r v) i hi, fireO_at hi'] at h2
 have h3 := h.at (i := i) (by have := h.1; omega)
 have h8 : Om = 1099511627776 := rfl
 unfold overO at ho
 rw [List.any_eq_false] at ho
 have h4 := ho i (List.mem_range.2 hi')
 simp only [Bool.and_eq_true, decide_eq_true_eq, not_and, Int.not_lt] at h4
 have h5 := h4 (by omega)
 split at h2 <;> omega
theorem walk_run {rules : List RD} {ns np : Nat} (hg : ∀ r ∈ rules, 0 <= r.dst /\ r.dst < ns /\ ∀ i, i < np -> 0 <= r.give[i]!) : ∀ {ks : List Int} {x y : SV} {st : List StD}, (∀ k ∈ ks, 0 <= k /\ k < rules.length) -> 0 <= x.1 /\ x.1 < ns -> finV np x.2 -> walkF rules x ks = (0, y, st) -> runV rules x (ks.map Int.toNat) = some y /\ finV np y.2 /\ 0 <= y.1 /\ y.1 < ns
 | [], x, y, st, _, hs, hx, h => by
  simp only [walkF, Prod.mk.injEq, true_and] at h
  rw [<- h.1]
  exact ⟨rfl, hx, hs⟩
 | k :: ks, x, y, st, hk, hs, hx, h => by
  have hk0 := hk k (List.mem_cons_self ..)
  have hlt : k.toNat < rules.length := by omega
  have hr := hg _ (mem_bangW hlt)
  unfold walkF at h
  split at h
  ·rename_i hf
   unfold fitsB at hf
   rw [Bool.and_eq_true, beq_iff_eq] at hf
   split at h
   ·simp at h
   ·rename_i ho
    simp only [Prod.mk.injEq] at h
    have hfin := fire_finV hx hf.2 hr.2.2 (Bool.not_eq_true _ ▸ ho)
    have ih := walk_run hg (ks := ks) (x := (rules[k.toNat]!.dst, fireO rules[k.toNat]! x.2)) (y := y) (st := (walkF rules (rules[k.toNat]!.dst, fireO rules[k.toNat]! x.2) ks).2.2) (fun j hj => hk j (List.mem_cons_of_mem _ hj)) ⟨hr.1, hr.2.1⟩ hfin (Prod.ext h.1 (Prod.ext h.2.1 rfl))
    refine ⟨?_, ih.2⟩
    rw [List.map_cons]
    unfold runV
    rw [if_pos ⟨hlt, hf.1, fun i hi => canV_iff.1 hf.2 i hi⟩, <- fire_fin hx]
    exact ih.1
  ·simp at h
theorem mem_growL {v w : List Int} {k : Int} (h : k ∈ growL v w) : ∃ i : Nat, k = i /\ i < w.length /\ v[i]! < w[i]! := by
 unfold growL at h
 rw [List.mem_map] at h
 obtain ⟨i, hi, rfl⟩ := h
 rw [List.mem_filter, List.mem_range, decide_eq_true_eq] at hi
 exact ⟨i, rfl, hi⟩
end Go.AM
namespace Go.AM
open Go Go.Proofs Go.RowKit
set_option maxRecDepth 100000
attribute [go_sem] vM cM
theorem leC_any : ∀ (l : List AV) (n : Nat), l.length = n -> leC l (List.replicate n .any)
 | [], _, h => by subst h; exact trivial
 | x :: l, _, h => by subst h; exact ⟨leV_any x, leC_any l l.length rfl⟩
theorem take_map_succ {α β : Type} [Inhabited α] {l : List α} {i : Nat} (f : α -> β) (h : i < l.length) : (l.take (i + 1)).map f = (l.take i).map f ++ [f l[i]!] := by
 rw [List.take_add_one, List.getElem?_eq_getElem h, getElem!_pos l i h, List.map_append]; rfl
theorem metD_le : ∀ (n : Nat) (ks : List (List UInt8)), ks.length = n -> mapLen (metD ks) <= n := by
 intro n
 induction n with
 | zero => intro ks h; obtain rfl := List.eq_nil_of_length_eq_zero h; exact Nat.le_refl _
 | succ n ih =>
  intro ks h
  obtain ⟨ks', x, rfl⟩ : ∃ ks' x, ks = ks' ++ [x] := ⟨ks.dropLast, ks.getLast (by intro e; rw [e] at h; simp at h), (List.dropLast_concat_getLast _).symm⟩
  have ih' := ih ks' (by simpa using h)
  have e : ∀ D : DataW Unit, mapLen D = Go.Maps.size D := fun D => by cases D <;> rfl
  rw [<- metD_snoc, e, Go.Maps.size_put (metD_tidy _), <- e]
  split <;> omega
theorem names_bad {l : List ByteArray} {i : Nat} (h : i < l.length) (hb : okN l i = false) : namesB l = false := by
 unfold namesB
 rw [List.all_eq_false]
 exact ⟨i, List.mem_range.2 h, by rw [hb]; simp⟩
theorem names_ok {l : List ByteArray} (h : ∀ i, i < l.length -> okN l i = true) : namesB l = true := by
 unfold namesB
 rw [List.all_eq_true]
 exact fun i hi => h i (List.mem_range.1 hi)
def namesTo (m : MD) (i : Nat) : List ByteArray := m.states ++ m.places ++ m.letters ++ (m.rules.take i).map RD.name
theorem namesTo_zero (m : MD) : namesTo m 0 = m.states ++ m.places ++ m.letters := by simp [namesTo]
theorem namesTo_succ {m : MD} {i : Nat} (h : i < m.rules.length) : namesTo m (i + 1) = namesTo m i ++ [m.rules[i]!.name] := by
 unfold namesTo
 rw [List.take_add_one, List.getElem?_eq_getElem h, getElem!_pos m.rules i h, List.map_append]
 simp only [Option.toList, List.map_cons, List.map_nil, List.append_assoc]
theorem namesTo_all (m : MD) : namesTo m m.rules.length = namesOf m := by unfold namesTo namesOf; rw [List.take_length]
theorem namesTo_len {m : MD} {i : Nat} : (namesTo m i).length <= (namesOf m).length := by
 unfold namesTo namesOf
 simp only [List.length_append, List.length_map, List.length_take]; omega
theorem con_named (m : MD) (h1 : 1 <= m.states.length) (h2 : (namesOf m).length <= 1000000) (hs : ∀ s ∈ namesOf m, s.size <= 9223372036854775806) : Con Tryz.prog 104 [vM m] [] fun r _ => r = vb (namesB (namesOf m)) := by
 refine Con.intro Tryz.func104 rfl Tryz.ntmps104 Tryz.results104 (by kernel_rfl) (by simp) 1 (by simp) ?_
 have h2' := h2
 unfold namesOf at h2'
 simp only [List.length_append, List.length_map] at h2'
 simp only [go_sem]
 refine CallU.freeze (con_concatStr [m.states, m.places, m.letters] (by simp; omega) (by simp; omega) (by simp)) (by simp only [go_sem]) (by simp only [go_sem, List.map_cons, List.map_nil]) ?_
 rintro r bx rfl
 have e0 : [m.states, m.places, m.letters].flatten = namesTo m 0 := by rw [namesTo_zero]; simp
 rw [e0]
 simp only [go_sem]
 refine LoopK.intro (fun i : Nat => ⟨52, [(1, .pb 0 0), (2, vb false), (3, .mp 640 Tryz.prog 9 4 (metD [])), (4, .sl 1154 1 ((namesTo m i).map vStr)), (19, .sl 0 14 (m.rules.map vRule)), (20, vi m.rules.length), (21, vi i)], cM m :: Rk 14 i⟩)
  (fun i => m.rules.length - i) (fun i => i <= m.rules.length) 0 (by omega) ?_ ?_
 ·simp only [go_sem]
  all_goals exact ⟨leV_refl _, leB_self _⟩
 rintro i hi
 have hn := namesTo_len (m := m) (i := i)
 by_cases h : i < m.rules.length
 ·have hg := getRule h
  have hw : IntKind.i64.wrap (i + 1) = i + 1 := wrap_in (by omega) (by omega)
  have hB := Rk_len 14 i
  have n0 := fun L : List (List AV) => app_at0 (L := L) hB
  have s0 := fun (L : List (List AV)) z => app_set0 (L := L) (z := z) hB
  have e := namesTo_succ h
  simp only [go_sem, h, hg, hw, hB, n0, s0]
  refine ⟨by simp only [roomFor]; omega, ?_⟩
  refine roundK.intro (i + 1) (by omega) (by omega) ?_
  simp only [go_sem, Rk_succ, e, List.map_append, List.map_cons, List.map_nil]
  exact leB_RkA ⟨leC_any _ 14 rfl, trivial⟩
 obtain rfl : i = m.rules.length := by omega
 rw [namesTo_all]
 simp only [go_sem, h]
 generalize hL : namesOf m = l at *
 refine LoopK.intro (fun i : Nat => ⟨52, [(1, .pb 0 0), (2, vb false), (3, .mp 640 Tryz.prog 9 4 (metD ((l.take i).map fun s => s.data.toList))), (31, .sl 1154 1 (l.map vStr)), (32, vi l.length), (33, vi i)], cM m :: Rk 14 m.rules.length⟩)
  (fun i => l.length - i) (fun i => i <= l.length /\ ∀ j, j < i -> okN l j = true) 0 ⟨by omega, fun j hj => by omega⟩ ?_ ?_
 ·simp only [go_sem, List.take_zero, List.map_nil]
  all_goals exact leV_refl _
 rintro i ⟨hi, hb⟩
 by_cases h : i < l.length
 ·have hg := getStr h
  have hw : IntKind.i64.wrap (i + 1) = i + 1 := wrap_in (by omega) (by omega)
  have hz := hs l[i]! (mem_bangI h)
  simp only [go_sem, h, hg]
  refine CallU.free (con_word l[i]! hz) (by simp only [go_sem]) (by simp only [go_sem]) ?_
  rintro r bx rfl
  cases a1 : wordB l[i]!
  ·simp only [go_sem]
   rw [names_bad h (by unfold okN; rw [a1]; rfl)]
  simp only [go_sem]
  refine CallU.free (con_keyword l[i]!) (by simp only [go_sem]) (by simp only [go_sem]) ?_
  rintro r bx rfl
  cases a2 : keywordB l[i]!
  case true =>
   simp only [go_sem]
   rw [names_bad h (by unfold okN; rw [a1, a2]; rfl)]
  simp only [go_sem]
  refine evLookup_str (k := 9) (e := 4) (by kernel_rfl) Tryz.underlying9 Tryz.underlying4 tinfo_4 rfl (by omega) ?_
  rw [metD_at]
  cases a3 : ((l.take i).map fun s => s.data.toList).contains l[i]!.data.toList
  case true =>
   simp only [go_sem]
   rw [names_bad h (by unfold okN; rw [a1, a2, a3]; rfl)]
  simp only [go_sem]
  have hlen := metD_le i ((l.take i).map fun s => s.data.toList) (by rw [List.length_map, List.length_take]; omega)
  refine evMapPut_str (k := 9) (e := 4) (by kernel_rfl) Tryz.underlying9 Tryz.underlying4 (by omega) (by omega) ?_
  rw [metD_snoc]
  simp only [go_sem, hw]
  refine roundK.intro (i + 1) ⟨by omega, fun j hj => ?_⟩ (by omega) ?_
  ·by_cases hji : j = i
   ·subst hji; unfold okN; rw [a1, a2, a3]; rfl
   ·exact hb j (by omega)
  ·simp only [go_sem, take_map_succ (fun s : ByteArray => s.data.toList) h]
   all_goals exact leV_refl _
 ·simp only [go_sem, h]
  rw [names_ok (fun j hj => hb j (by omega))]
set_option maxHeartbeats 8000000
def limF (k : Int) : List Int :=
 if k = 1 \/ k = 6 then [1, 6, 0, 0, 0, 0, 0, 0] else if k = 2 \/ k = 3 then [1, 2, 1, 6, 0, 0, 0, 0] else if k = 4 then [0, 0, 1, 6, 1, 2, 0, 0] else [1, 6, 0, 0, 0, 0, 0, 3]
abbrev lim (k : Int) (j : Nat) : Int := (limF k).getD j 0
def limV (l : List Int) : AV := .ag [vi (l.getD 0 0), vi (l.getD 1 0), vi (l.getD 2 0), vi (l.getD 3 0), vi (l.getD 4 0), vi (l.getD 5 0), vi (l.getD 6 0), vi (l.getD 7 0)]
theorem con_of (k : Int) : Con Tryz.prog 132 [vi k] [] fun r _ => r = limV (limF k) := by
 refine Con.intro Tryz.func132 rfl Tryz.ntmps132 Tryz.results132 (by kernel_rfl) (by simp) 0 (by simp) ?_
 by_cases k1 : k = 1
 ·subst k1; simp only [go_sem]; rfl
 have b1 : (k == 1) = false := beq_eq_false_iff_ne.2 k1
 by_cases k6 : k = 6
 ·subst k6; simp only [go_sem]; rfl
 have b6 : (k == 6) = false := beq_eq_false_iff_ne.2 k6
 by_cases k2 : k = 2
 ·subst k2; simp only [go_sem]; rfl
 have b2 : (k == 2) = false := beq_eq_false_iff_ne.2 k2
 by_cases k3 : k = 3
 ·subst k3; simp only [go_sem]; rfl
 have b3 : (k == 3) = false := beq_eq_false_iff_ne.2 k3
 by_cases k4 : k = 4
 ·subst k4; simp only [go_sem]; rfl
 have b4 : (k == 4) = false := beq_eq_false_iff_ne.2 k4
 have e : limF k = [1, 6, 0, 0, 0, 0, 0, 3] := by unfold limF; rw [if_neg (by omega), if_neg (by omega), if_neg (by omega)]
 rw [e]
 simp only [go_sem, b1, b6, b2, b3, b4]
 rfl
def sizedB (m : MD) : Bool := betweenB m.states.length 1 8 && decide (m.rules.length <= 12) && betweenB m.places.length (lim m.kind 0) (lim m.kind 1) && betweenB m.letters.length (lim m.kind 2) (lim m.kind 3) && betweenB m.levels (lim m.kind 4) (lim m.kind 5) && betweenB m.age (lim m.kind 6) (lim m.kind 7)
theorem con_sized (m : MD) : Con Tryz.prog 102 [vM m] [] fun r _ => r = vb (sizedB m) := by
 refine Con.intro Tryz.func102 rfl Tryz.ntmps102 Tryz.results102 (by kernel_rfl) (by simp) 2 (by simp) ?_
 simp only [go_sem]
 refine CallU.free (con_of m.kind) (by simp only [go_sem]) (by simp only [go_sem]) ?_
 rintro r bx rfl
 simp only [go_sem, limV]
 refine CallU.free (con_between m.states.length 1 8) (by simp only [go_sem]) (by simp only [go_sem]) ?_
 rintro r bx rfl
 unfold sizedB
 cases h1 : betweenB m.states.length 1 8
 ·simp only [go_sem, Bool.false_and]
 by_cases h2 : (m.rules.length : Int) <= 12
 case neg =>
  have h2' : ¬ m.rules.length <= 12 := by omega
  simp only [go_sem, h2, h2', decide_false, Bool.and_false, Bool.false_and]
 have h2' : m.rules.length <= 12 := by omega
 simp only [go_sem, h2, decide_true]
 refine CallU.free (con_between m.places.length (lim m.kind 0) (lim m.kind 1)) (by simp only [go_sem]) (by simp only [go_sem]) ?_
 rintro r bx rfl
 cases h3 : betweenB m.places.length (lim m.kind 0) (lim m.kind 1)
 ·simp only [go_sem, Bool.false_and]
 simp only [go_sem]
 refine CallU.free (con_between m.letters.length (lim m.kind 2) (lim m.kind 3)) (by simp only [go_sem]) (by simp only [go_sem]) ?_
 rintro r bx rfl
 cases h4 : betweenB m.letters.length (lim m.kind 2) (lim m.kind 3)
 ·simp only [go_sem, Bool.false_and]
 simp only [go_sem]
 refine CallU.free (con_between m.levels (lim m.kind 4) (lim m.kind 5)) (by simp only [go_sem]) (by simp only [go_sem]) ?_
 rintro r bx rfl
 cases h5 : betweenB m.levels (lim m.kind 4) (lim m.kind 5)
 ·simp only [go_sem, Bool.false_and]
 simp only [go_sem]
 refine CallU.free (con_between m.age (lim m.kind 6) (lim m.kind 7)) (by simp only [go_sem]) (by simp only [go_sem]) ?_
 rintro r bx rfl
 simp only [go_sem, h2', decide_true, Bool.true_and]
def rankedB (m : MD) : Bool := if m.kind = 3 then decide (m.ranks.length = m.letters.length) && m.ranks.all fun r => betweenB r 0 5 else m.ranks.length == 0
theorem con_ranked1 (x : Int) : Con Tryz.prog 133 [vi x] [] fun r _ => r = .sc (.bool (!betweenB x 0 5)) := by
 refine Con.intro Tryz.func133 rfl Tryz.ntmps133 Tryz.results133 (by kernel_rfl) (by simp) 0 (by simp) ?_
 simp only [go_sem]
 refine CallU.free (con_between x 0 5) (by simp only [go_sem]) (by simp only [go_sem]) ?_
 rintro r bx rfl
 simp only [go_sem]
theorem con_ranked (m : MD) (h1 : m.ranks.length <= 9223372036854775806) : Con Tryz.prog 103 [vM m] [] fun r _ => r = vb (rankedB m) := by
 refine Con.intro Tryz.func103 rfl Tryz.ntmps103 Tryz.results103 (by kernel_rfl) (by simp) 1 (by simp) ?_
 unfold rankedB
 by_cases k3 : m.kind = 3
 case neg =>
  have b3 : (m.kind != 3) = true := bne_iff_ne.2 k3
  rw [if_neg k3]
  simp only [go_sem, b3]
  congr 2
  rw [Bool.eq_iff_iff]; simp
 rw [if_pos k3]
 have b3 : (m.kind != 3) = false := by rw [k3]; rfl
 by_cases hl : m.ranks.length = m.letters.length
 case neg =>
  have hl' : ((m.ranks.length : Int) == (m.letters.length : Int)) = false := beq_eq_false_iff_ne.2 (by omega)
  simp only [go_sem, b3, hl', hl, decide_false, Bool.false_and]
 have hl' : ((m.ranks.length : Int) == (m.letters.length : Int)) = true := beq_iff_eq.2 (by omega)
 simp only [go_sem, b3, hl']
 refine CallU.free (con_containsInt m.ranks 133 [] (fun r => !betweenB r 0 5) rfl (fun x _ => con_ranked1 x) h1) (by simp only [go_sem]) (by simp only [go_sem]) ?_
 rintro r bx rfl
 simp only [go_sem, any_not, hl, decide_true, Bool.true_and]
end Go.AM
