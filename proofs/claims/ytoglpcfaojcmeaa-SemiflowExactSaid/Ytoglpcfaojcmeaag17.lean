/- CrD CrE CrF CmX0 LCyc FG MxX MxWO MxWH MxWJ MxWP MxLe -/
import Derived.Test.Ytoglpcfaojcmeaag16
import Derived.Test.Ytoglpcfaojcmeaag13
import Derived.Test.Ytoglpcfaojcmeaag15
import Derived.Test.Ytoglpcfaojcmeaag12
import Derived.Test.Ytoglpcfaojcmeaag11
namespace Go.AM
open Go Go.Proofs Go.RowKit
def ruleN (r : RD) : AV := .ag [vStr r.name, vi r.src, vi r.dst, vs 0 r.need, vs 0 r.give, .nil, vi 0, vi 0, vi 0, .nil, .nil, .nil, .nil, vi 0]
attribute [go_sem] ruleN
def modelN (m : MD) (t s0 : Nat) (v0 : List Int) : AV := .ag [vi 1, vss m.states, vss m.places, .nil, .nil, vi 0, vi 0, .sl t 14 (m.rules.map ruleN), vi 0, .sl t 2 (((s0 : Int) :: v0).map kidN)]
attribute [go_sem] modelN
end Go.AM
namespace Go.AM
end Go.AM
namespace Go.AM
open Go Go.Proofs Go.RowKit
set_option maxRecDepth 100000
theorem con_rcopy (l : List Int) (h2 : l.length ≤ 1000000) : Con Try.prog 53 [vs 0 l] [] fun r _ => r = vs 2 l := by
 refine Con.intro Try.func53 rfl Try.ntmps53 Try.results53 (by kernel_rfl) (by simp) 0 (by simp) ?_
 have hr : roomFor l.length 8 := by simp only [roomFor]; omega
 simp only [go_sem, List.length_map, hr]
set_option maxHeartbeats 8000000
theorem con_r11Check (c : List (List Int)) (hc : Fits c) : Con Try.prog 32 [vm 0 c] [] fun r _ => r = vi (schF c) := by
 refine Con.intro Try.func32 rfl Try.ntmps32 Try.results32 (by kernel_rfl) (by simp) 0 (by simp) ?_
 simp only [go_sem]
 refine CallU.free (con_rmxCheck c hc) (by simp only [go_sem]) (by simp only [go_sem]) ?_
 rintro r bx rfl
 by_cases h1 : mxCheckF c = 0
 ·by_cases h2 : 6 < c.length
  ·simp only [go_sem, h1, h2, schF]
  ·simp only [go_sem, h1, h2, schF]
 ·have hb : (mxCheckF c != 0) = true := bne_iff_ne.2 h1
  simp only [go_sem, hb, h1, schF]
def outB (most x : Int) : Bool := decide (x < 0) || decide (most < x)
theorem con_r11numbers (l : List Int) (most : Int) (hl : l.length ≤ 1000000) : Con Try.prog 43 [vs 0 l, vi most] [] fun r _ => r = vb (!l.any (outB most)) := by
 refine Con.intro Try.func43 rfl Try.ntmps43 Try.results43 (by kernel_rfl) (by simp) 0 (by simp) ?_
 simp only [go_sem]
 refine LoopK.intro (fun i : Nat => ⟨25, [(0, vs 0 l), (1, vi most), (5, vi i)], []⟩)
  (fun i => l.length - i) (fun i => i ≤ l.length ∧ ∀ j, j < i → outB most l[j]! = false) 0 ⟨by omega, fun j hj => by omega⟩ ?_ ?_
 ·simp only [go_sem]
 rintro i ⟨hi, hb⟩
 by_cases h : i < l.length
 ·have hg := getv h
  have hw : IntKind.i64.wrap (i + 1) = i + 1 := wrap_in (by omega) (by omega)
  by_cases h1 : l[i]! < 0
  ·have e : l.any (outB most) = true := any_stop h (by unfold outB; rw [decide_eq_true h1, Bool.true_or])
   simp only [go_sem, h, hg, h1, e]
  by_cases h2 : most < l[i]!
  ·have e : l.any (outB most) = true := any_stop h (by unfold outB; rw [decide_eq_true h2, Bool.or_true])
   simp only [go_sem, h, hg, h1, h2, e]
  ·simp only [go_sem, h, hg, h1, h2, hw]
   refine roundK.intro (i + 1) ⟨by omega, fun j hj => ?_⟩ (by omega) ?_
   ·by_cases hji : j = i
    ·subst hji; unfold outB; rw [decide_eq_false h1, decide_eq_false h2]; rfl
    ·exact hb j (by omega)
   ·simp only [go_sem]
 ·have e : l.any (outB most) = false := mxAnyNone fun j hj => hb j (by omega)
  simp only [go_sem, h, e]
theorem con_r11sum (a b : List Int) (h : a.length ≤ b.length) (ha : a.length ≤ 1000000) : Con Try.prog 44 [vs 0 a, vs 0 b] [] fun r _ => r = vi (dotF a b) := by
 refine Con.intro Try.func44 rfl Try.ntmps44 Try.results44 (by kernel_rfl) (by simp) 0 (by simp) ?_
 simp only [go_sem]
 refine LoopK.intro (fun i : Nat => ⟨25, [(0, vs 0 a), (1, vs 0 b), (5, vi (dotN a b i)), (6, vi i)], []⟩)
  (fun i => a.length - i) (fun i => i ≤ a.length) 0 (by omega) ?_ ?_
 ·simp only [go_sem, dotN]
 intro i hi
 by_cases hia : i < a.length
 ·have hib : i < b.length := by omega
  have hga := getv hia
  have hgb := getv hib
  have hw : IntKind.i64.wrap (i + 1) = i + 1 := wrap_in (by omega) (by omega)
  simp only [go_sem, hia]
  refine DrawK.walk 11 mixed (by kernel_rfl) ?_
  simp only [go_sem, hia, hib, hga, hgb, hw]
  refine roundK.intro (i + 1) (by omega) (by omega) ?_
  simp only [go_sem, dotN, w64]
 ·have : i = a.length := by omega
  subst this
  simp only [go_sem, Nat.lt_irrefl, dotF]
theorem asc_put {l : List (List Int)} {v : List Int} {k : Nat} (hl : AscL l) (hk : k ≤ l.length) (h1 : ∀ j, j < k → lexC l[j]! v < 0) (h2 : k < l.length → 0 ≤ lexC l[k]! v) : l.take k ++ v :: l.drop k = ascF (l ++ [v]) := by
 refine asc_eq ?_ ?_
 ·unfold AscL at hl ⊢
  rw [← List.take_append_drop k l, List.pairwise_append] at hl
  obtain ⟨p1, p2, p3⟩ := hl
  have hv1 : ∀ x ∈ l.take k, lexC x v ≤ 0 := fun x hx => by
   obtain ⟨j, hj, rfl⟩ := List.mem_iff_getElem.1 hx
   rw [List.length_take] at hj
   have := h1 j (by omega)
   rw [getElem!_pos l j (by omega)] at this
   rw [List.getElem_take]; omega
  have hv2 : ∀ x ∈ l.drop k, lexC v x ≤ 0 := fun x hx => by
   have hkl : k < l.length := by
    refine Classical.byContradiction fun hn => ?_
    rw [List.drop_of_length_le (by omega)] at hx; cases hx
   have h3 : lexC v l[k]! ≤ 0 := by rw [lexC_anti]; have := h2 hkl; omega
   rw [List.drop_eq_getElem_cons hkl] at hx p2
   rw [getElem!_pos l k hkl] at h3
   rcases List.mem_cons.1 hx with rfl | hx
   ·exact h3
   ·exact lexC_trans h3 ((List.pairwise_cons.1 p2).1 x hx)
  rw [List.pairwise_append, List.pairwise_cons]
  refine ⟨p1, ⟨hv2, p2⟩, fun x hx y hy => ?_⟩
  rcases List.mem_cons.1 hy with rfl | hy
  ·exact hv1 x hx
  ·exact p3 x hx y hy
 ·have : (l.take k ++ v :: l.drop k).Perm (v :: (l.take k ++ l.drop k)) := List.perm_middle
  rw [List.take_append_drop] at this
  exact this.trans (List.perm_append_comm (l₁ := [v]) (l₂ := l))
def putTr : Tr := .front 0 (.front 1 (.front 4 (.front 8 (.front 9 (.alt (.one 2 (.alt (.one 3 (.alt (.one 5 (.alt (.one 6 (.alt (.one 7 (.one 10 (.one 11 (.one 12 .done)))) (.one 10 (.one 7 (.one 11 (.one 12 .done)))))) (.one 10 (.one 6 (.one 7 (.one 11 (.one 12 .done))))))) (.one 10 (.one 5 (.one 6 (.one 7 (.one 11 (.one 12 .done)))))))) (.one 10 (.one 3 (.one 5 (.one 6 (.one 7 (.one 11 (.one 12 .done))))))))) (.one 10 (.one 2 (.one 3 (.one 5 (.one 6 (.one 7 (.one 11 (.one 12 .done)))))))))))))
theorem con_put (l : List (List Int)) (v : List Int) (hl : l.length ≤ 1000) (hv : v.length ≤ 1000) (hlen : ∀ x ∈ l, x.length = v.length) (hasc : AscL l) (hnot : ¬ v ∈ l) : Con Try.prog 34 [vm 0 l, vs 0 v] [] fun r _ => r = vm 2 (ascF (l ++ [v])) := by
 refine Con.intro Try.func34 rfl Try.ntmps34 Try.results34 (by kernel_rfl) (by simp) 0 (by simp) ?_
 simp only [go_sem]
 refine LoopK.intro (fun k : Nat => ⟨46, [(0, vm 0 l), (1, vs 0 v), (5, vi k)], []⟩)
  (fun k => l.length - k) (fun k => k ≤ l.length ∧ ∀ j, j < k → lexC l[j]! v < 0) 0 ⟨by omega, fun j hj => by omega⟩ ?_ ?_
 ·simp only [go_sem]
 rintro k ⟨hk, hb⟩
 have hcopy := con_rcopy v (by omega)
 have hfin : leV (AV.sl 2432 1 (List.take k (List.map (vs 0) l) ++ [AV.sl 0 1 (List.map vi v)] ++ List.drop k (List.map (vs 0) l))) (AV.sl 2432 1 (List.map (vs 0) (List.take k l ++ v :: List.drop k l))) := by
  rw [List.map_append, List.map_cons, List.map_take, List.map_drop, List.append_assoc]
  exact leV_refl _
 have key : ∀ (_ : k < l.length → 0 ≤ lexC l[k]! v), l.take k ++ v :: l.drop k = ascF (l ++ [v]) := fun h => asc_put hasc hk hb h
 by_cases h : k < l.length
 ·have hg := getm h
  have hw : IntKind.i64.wrap (k + 1) = k + 1 := wrap_in (by omega) (by omega)
  have hm := mem_bang h
  have hcl := cmpI_eq (hlen _ hm)
  have hcmp := con_rcompareI l[k]! v (by have := hlen _ hm; omega)
  rw [hcl] at hcmp
  simp only [go_sem, h, hg]
  refine CallU.free hcmp (by simp only [go_sem]) (by simp only [go_sem]) ?_
  rintro r bx rfl
  by_cases hlt : lexC l[k]! v < 0
  ·simp only [go_sem, hlt, hw]
   refine roundK.intro (k + 1) ⟨by omega, fun j hj => ?_⟩ (by omega) ?_
   ·by_cases hjk : j = k
    ·subst hjk; exact hlt
    ·exact hb j (by omega)
   ·simp only [go_sem]
  have hkey := key fun _ => by omega
  have hsame := con_rsameI l[k]! v (by have := hlen _ hm; omega)
  have hne : (l[k]! == v) = false := beq_eq_false_iff_ne.2 fun e => hnot (by rw [← e]; exact hm)
  rw [hne] at hsame
  simp only [go_sem, hlt, h, hg]
  refine CallU.free hsame (by simp only [go_sem]) (by simp only [go_sem]) ?_
  rintro r bx rfl
  simp only [go_sem]
  refine DrawK.meet ⟨46, [(4, .sl 2432 1 ((l.take k ++ v :: l.drop k).map (vs 0)))], []⟩ ?_ ?_
  ·refine DrawK.tree putTr mixed (by kernel_rfl) ?_
   unfold putTr
   simp only [go_sem]
   repeat' (first | with_reducible apply andK_mk | exact trivial | with_reducible refine And.intro ?_ ?_ | exact hk | exact Nat.le_refl _ | exact hfin | (simp only [roomFor, List.length_append, List.length_take, List.length_drop, List.length_map, List.length_cons, List.length_nil]; omega) | (refine CallU.free hcopy (by simp only [go_sem]) (by simp only [go_sem]) ?_; rintro r bx rfl) | simp only [go_sem])
  ·simp only [go_sem, hkey]
 ·have hkl : k = l.length := by omega
  have hkey := key fun h' => absurd h' h
  simp only [go_sem, h]
  refine DrawK.meet ⟨46, [(4, .sl 2432 1 ((l.take k ++ v :: l.drop k).map (vs 0)))], []⟩ ?_ ?_
  ·refine DrawK.tree putTr mixed (by kernel_rfl) ?_
   unfold putTr
   simp only [go_sem]
   repeat' (first | with_reducible apply andK_mk | exact trivial | with_reducible refine And.intro ?_ ?_ | exact hk | exact Nat.le_refl _ | exact hfin | (simp only [roomFor, List.length_append, List.length_take, List.length_drop, List.length_map, List.length_cons, List.length_nil]; omega) | (refine CallU.free hcopy (by simp only [go_sem]) (by simp only [go_sem]) ?_; rintro r bx rfl) | simp only [go_sem])
  ·simp only [go_sem, hkey]
theorem con_has (l : List Int) (x : Int) (hl : l.length ≤ 140737488355328) : Con Try.prog 66 [vs 0 l, vi x] [] fun r _ => r = .sc (.bool (l.any fun y => y == x)) := by
 refine Con.intro Try.func66 rfl Try.ntmps66 Try.results66 (by kernel_rfl) (by simp) 0 (by simp) ?_
 simp only [go_sem]
 refine LoopK.intro (fun i : Nat => ⟨18, [(0, vs 0 l), (1, vi x), (5, vi i)], []⟩)
  (fun i => l.length - i) (fun i => i ≤ l.length ∧ ∀ j, j < i → (l[j]! == x) = false) 0 ⟨by omega, fun j hj => by omega⟩ ?_ ?_
 ·simp only [go_sem]
 rintro i ⟨hi, hb⟩
 by_cases h : i < l.length
 ·have hg := getv h
  have hw : IntKind.i64.wrap (i + 1) = i + 1 := wrap_in (by omega) (by omega)
  cases he : l[i]! == x
  ·simp only [go_sem, h, hg, he, hw]
   refine roundK.intro (i + 1) ⟨by omega, fun j hj => ?_⟩ (by omega) ?_
   ·by_cases hji : j = i
    ·rw [hji]; exact he
    ·exact hb j (by omega)
   ·simp only [go_sem]
  ·have := any_stop (p := fun y => y == x) h he
   simp only [go_sem, h, hg, he, this]
 ·have := mxAnyNone (p := fun y => y == x) (fun j hj => hb j (by omega))
  simp only [go_sem, h, this]
theorem con_times (l : List Int) (x : Int) (hl : l.length ≤ 1000000) : Con Try.prog 87 [vs 0 l, vi x] [] fun r _ => r = vs 2 (l.map fun y => w64 (y * x)) := by
 refine Con.intro Try.func87 rfl Try.ntmps87 Try.results87 (by kernel_rfl) (by simp) 0 (by simp) ?_
 simp only [go_sem]
 refine LoopK.intro (fun i : Nat => ⟨23, [(0, vs 0 l), (1, vi x), (5, .sl 1408 1 (((l.map fun y => w64 (y * x)).take i).map vi)), (6, vi i)], []⟩)
  (fun i => l.length - i) (fun i => i ≤ l.length) 0 (by omega) ?_ ?_
 ·simp only [go_sem]
 intro i hi
 by_cases h : i < l.length
 ·have hg := getv h
  have hw : IntKind.i64.wrap (i + 1) = i + 1 := wrap_in (by omega) (by omega)
  simp only [go_sem, h, hg, hw]
  refine ⟨by simp [roomFor]; omega, roundK.intro (i + 1) (by omega) (by omega) ?_⟩
  simp only [go_sem]
  refine leV_sl ?_
  have hm : i < (l.map fun y => w64 (y * x)).length := by simpa using h
  rw [List.take_add_one, List.getElem?_eq_getElem hm, ← getElem!_pos (l.map fun y => w64 (y * x)) i hm, List.map_append]
  have : (l.map fun y => w64 (y * x))[i]! = w64 (l[i]! * x) := by simp [h]
  rw [this]; rfl
 ·have e : (l.map fun y => w64 (y * x)).take i = l.map fun y => w64 (y * x) := List.take_of_length_le (by simp; omega)
  simp only [go_sem, h, e]
theorem con_gcd (a b : Int) (ha : -4611686018427387904 ≤ a ∧ a ≤ 4611686018427387904) (hb : -4611686018427387904 ≤ b ∧ b ≤ 4611686018427387904) : Con Try.prog 67 [vi a, vi b] [] fun r _ => r = vi (Nat.gcd a.natAbs b.natAbs) := by
 refine Con.intro Try.func67 rfl Try.ntmps67 Try.results67 (by kernel_rfl) (by simp) 0 (by simp) ?_
 have hwa : a < 0 → IntKind.i64.wrap (0 - a) = a.natAbs := fun h => by rw [wrap_in (by omega) (by omega)]; omega
 have hwb : b < 0 → IntKind.i64.wrap (0 - b) = b.natAbs := fun h => by rw [wrap_in (by omega) (by omega)]; omega
 have hpa : ¬ a < 0 → a = (a.natAbs : Int) := fun h => by omega
 have hpb : ¬ b < 0 → b = (b.natAbs : Int) := fun h => by omega
 by_cases h1 : a < 0 <;> by_cases h2 : b < 0
 all_goals first
  | simp only [go_sem, h1, h2, hwa h1, hwb h2]
  | simp only [go_sem, h1, h2, hwa h1]
  | simp only [go_sem, h1, h2, hwb h2]
  | simp only [go_sem, h1, h2]
 all_goals
  refine LoopK.intro (fun p : Nat × Nat => ⟨20, [(0, vi p.1), (1, vi p.2)], []⟩) (fun p => p.2) (fun p => Nat.gcd p.1 p.2 = Nat.gcd a.natAbs b.natAbs) (a.natAbs, b.natAbs) rfl ?_ ?_
  ·simp only [go_sem]
   try rw [← hpa h1]
   try rw [← hpb h2]
   try simp only [go_sem]
  rintro ⟨x, y⟩ hxy
  simp only at hxy
  by_cases h : 0 < y
  ·have hne : (y : Int) ≠ 0 := by omega
   have hneb : ((y : Int) != 0) = true := bne_iff_ne.2 hne
   have hm : Int.tmod (x : Int) (y : Int) = ((x % y : Nat) : Int) := by rw [Int.tmod_eq_emod_of_nonneg (by omega)]; rfl
   simp only [go_sem, hneb]
   refine DrawK.walk 6 mixed (by kernel_rfl) ?_
   simp only [go_sem, hm]
   refine ⟨hne, roundK.intro (y, x % y) ?_ ?_ ?_⟩
   ·simp only; rw [← hxy, Nat.gcd_comm x y, Nat.gcd_rec y x]; exact Nat.gcd_comm _ _
   ·exact Nat.mod_lt _ h
   ·simp only [go_sem]
  ·have : y = 0 := by omega
   subst this
   simp only [go_sem]
   rw [← hxy, Nat.gcd_zero_right]
theorem prim_same {l : List Int} (h : gcdF l ≤ 1) : primF l = l := by
 unfold primF
 rcases Nat.lt_or_ge 0 (gcdF l) with h1 | h1
 ·have : gcdF l = 1 := by omega
  rw [this]
  simp
 ·have hg : gcdF l = 0 := by omega
  have h0 : ∀ x ∈ l, x = 0 := fun x hx => by
   apply Classical.byContradiction
   intro hne
   have := gcdF_pos hx hne
   omega
  rw [hg]
  conv => rhs; rw [← List.map_id l]
  refine List.map_congr_left fun x hx => ?_
  rw [h0 x hx]; rfl
theorem con_refPrim (l : List Int) (hl : l.length ≤ 1000000) (hb : ∀ x ∈ l, -4611686018427387904 ≤ x ∧ x ≤ 4611686018427387904) : Con Try.prog 68 [vs 0 l] [] fun r _ => r = vs 2 (primF l) := by
 refine Con.intro Try.func68 rfl Try.ntmps68 Try.results68 (by kernel_rfl) (by simp) 0 (by simp) ?_
 simp only [go_sem]
 have hgb : ∀ k, k ≤ l.length → gcdN l k ≤ 4611686018427387904 := by
  intro k
  induction k with
  | zero => intro _; simp [gcdN]
  | succ k ih =>
   intro hk
   have hbk := hb l[k]! (mem_at (by omega))
   have ih := ih (by omega)
   simp only [gcdN]
   by_cases h0 : gcdN l k = 0
   ·rw [h0, Nat.gcd_zero_left]; omega
   ·exact Nat.le_trans (Nat.gcd_le_left _ (by omega)) ih
 refine LoopK.intro (fun k : Nat => ⟨39, [(0, vs 0 l), (3, vi (gcdN l k)), (4, vi k)], []⟩) (fun k => l.length - k) (fun k => k ≤ l.length) 0 (by omega) ?_ ?_
 ·simp only [go_sem, gcdN]
 intro k hk
 by_cases h : k < l.length
 ·have hgk := getv h
  have hwk : IntKind.i64.wrap (k + 1) = k + 1 := wrap_in (by omega) (by omega)
  have hbk := hb l[k]! (mem_at h)
  have hg := hgb k hk
  simp only [go_sem, h, hgk]
  refine CallU.free (con_gcd (gcdN l k) l[k]! (by omega) (by omega)) (by simp only [go_sem]) (by simp only [go_sem]) ?_
  rintro r bx rfl
  simp only [go_sem, hwk, Int.natAbs_natCast]
  refine roundK.intro (k + 1) (by omega) (by omega) ?_
  simp only [go_sem, gcdN]
 have hkl : k = l.length := by omega
 subst hkl
 have hgc : gcdN l l.length = gcdF l := rfl
 simp only [go_sem, h, hgc]
 refine ⟨by simp [roomFor]; omega, ?_⟩
 refine LoopK.intro (fun k : Nat => ⟨39, [(3, vi (gcdF l)), (5, vs 1344 (divTo l (gcdF l) k)), (6, vi k)], []⟩) (fun k => l.length - k) (fun k => k ≤ l.length ∧ (0 < k → 1 < gcdF l)) 0 ⟨by omega, by omega⟩ ?_ ?_
 ·simp only [go_sem, divTo_zero]
 rintro k ⟨hk, hk1⟩
 by_cases h2 : k < l.length
 ·have hgk := getv (l := divTo l (gcdF l) k) (i := k) (by rw [divTo_len]; exact h2)
  rw [divTo_at h2] at hgk
  have hwk : IntKind.i64.wrap (k + 1) = k + 1 := wrap_in (by omega) (by omega)
  have hbk := hb l[k]! (mem_at h2)
  by_cases h3 : 1 < gcdF l
  ·have hne : (gcdF l : Int) ≠ 0 := by omega
   have hq : IntKind.i64.wrap (l[k]!.tdiv (gcdF l)) = l[k]!.tdiv (gcdF l) := by
    have h1 : (l[k]!.tdiv (gcdF l)).natAbs ≤ l[k]!.natAbs := by rw [Int.natAbs_tdiv]; exact Nat.div_le_self _ _
    exact wrap_in (by omega) (by omega)
   simp only [go_sem, h2, h3, hgk, divTo_len, hq]
   refine ⟨hne, ?_⟩
   simp only [go_sem, modify_vi, divTo_set h2, hwk]
   refine roundK.intro (k + 1) ⟨by omega, fun _ => trivial⟩ (by omega) ?_
   simp only [go_sem]
  ·have hk0 : k = 0 := by
    apply Classical.byContradiction
    intro hne; exact h3 (hk1 (by omega))
   subst hk0
   have := prim_same (l := l) (by omega)
   simp only [go_sem, h2, h3, divTo_zero, this]
 ·have hkl : k = l.length := by omega
  subst hkl
  simp only [go_sem, h2, divTo_end, primF]
def rowsA (t : Nat) (M : List (List Int)) : List AV := M.mapIdx fun i r => .sl (subT t i) 1 (r.map vi)
def vt (t : Nat) (M : List (List Int)) : AV := .so t (rowsA t M)
attribute [go_sem] vt
@[go_sem] theorem rowsA_len {t : Nat} {M : List (List Int)} : (rowsA t M).length = M.length := by simp [rowsA]
theorem rowsA_at {t i : Nat} {M : List (List Int)} : (rowsA t M)[i]? = (M[i]?).map fun r => .sl (subT t i) 1 (r.map vi) := by simp [rowsA, List.getElem?_mapIdx]
theorem gett {t i : Nat} {M : List (List Int)} (h : i < M.length) : (rowsA t M)[i]? = some (.sl (subT t i) 1 (M[i]!.map vi)) := by rw [rowsA_at]; simp [h]
@[go_sem] theorem rowsA_nil {t : Nat} : rowsA t [] = [] := rfl
theorem rowsA_ext {t : Nat} {M : List (List Int)} {l : List AV} (hl : l.length = M.length) (h : ∀ i, i < M.length → l[i]? = some (.sl (subT t i) 1 (M[i]!.map vi))) : l = rowsA t M := by
 apply List.ext_getElem?
 intro i
 by_cases hi : i < M.length
 ·rw [h i hi, gett hi]
 ·rw [List.getElem?_eq_none (by omega), List.getElem?_eq_none (by rw [rowsA_len]; omega)]
theorem rowsA_map {t t' : Nat} {M : List (List Int)} {f : AV → AV} (h : ∀ i r, f (.sl (subT t i) 1 (List.map vi r)) = .sl (subT t' i) 1 (List.map vi r)) : (rowsA t M).map f = rowsA t' M := by
 refine rowsA_ext (by simp [rowsA_len]) fun j hj => ?_
 rw [List.getElem?_map, gett hj, Option.map_some, h]
theorem rowsA_frz {t : Nat} {M : List (List Int)} {f : AV → AV} (h : ∀ i r, f (.sl (subT t i) 1 (List.map vi r)) = .sl 0 1 (List.map vi r)) : (rowsA t M).map f = M.map (vs 0) := by
 apply List.ext_getElem?
 intro j
 rw [List.getElem?_map, rowsA_at, List.getElem?_map]
 cases M[j]? with
 | none => rfl
 | some r => simp [h, vs]
@[go_sem] theorem rowsA_view {t : Nat} {M : List (List Int)} : (rowsA t M).map viewRow = M.map (vs 0) := rowsA_frz fun i r => by simp only [viewRow, sub_two, if_true]
@[go_sem] theorem rowsA_shift {t k : Nat} {M : List (List Int)} (h : t + k < 1048576) : (rowsA t M).map (shiftRow k) = rowsA (t + k) M := rowsA_map fun i r => by simp only [shiftRow, shiftTag, sub_lt2, if_false, sub_add h]
@[go_sem] theorem rowsA_ren {t : Nat} {ts : List Nat} {M : List (List Int)} (h : t < 1048576) (h2 : 2 + ts.idxOf t < 1048576) : (rowsA t M).map (renRow ts) = rowsA (2 + ts.idxOf t) M := rowsA_map fun i r => by simp only [renRow, sub_two, if_true, renT_sub h h2]
theorem rowsA_freeze {t : Nat} {p : Nat → Bool} {M : List (List Int)} (h : p (root t) = true) : (rowsA t M).map (freezeRow p) = M.map (vs 0) := rowsA_frz fun i r => by simp only [freezeRow, sub_two, root_sub, h, and_self, if_true]
@[go_sem] theorem rowsA_freezeT {t : Nat} {M : List (List Int)} : (rowsA t M).map (freezeRow fun _ => true) = M.map (vs 0) := rowsA_freeze rfl
theorem rowsA_killset {t i : Nat} {M : List (List Int)} {r : List Int} : ((rowsA t M).map (killRow (subT t i))).set i (.sl (subT t i) 1 (r.map vi)) = rowsA t (M.set i r) := by
 refine rowsA_ext (by simp [rowsA_len]) fun j hj => ?_
 rw [List.length_set] at hj
 rw [List.getElem?_set]
 by_cases h : i = j
 ·subst h
  rw [if_pos rfl, if_pos (by simp [rowsA_len]; exact hj)]
  simp [hj]
 ·rw [if_neg h, List.getElem?_map, gett hj, Option.map_some]
  simp only [killRow, sub_sub, true_and, if_neg (Ne.symm h)]
  rw [getElem!_pos M j hj, getElem!_pos (M.set i r) j (by simpa using hj), List.getElem_set_ne h]
theorem rowsLe_nils {t n : Nat} : rowsLe (root t) (List.replicate n .nil) (rowsA t (List.replicate n [])) := by
 refine ⟨by simp [rowsA_len], fun j x y hx hy => ?_⟩
 have hj : j < n := by have := (List.getElem?_eq_some_iff.1 hx).1; simpa using this
 rw [gett (by simpa using hj)] at hy
 simp only [Option.some.injEq] at hy
 simp [hj] at hx
 subst hx; subst hy
 have e : (List.replicate n ([] : List Int))[j]! = [] := by rw [getElem!_pos _ _ (by simpa using hj)]; simp
 rw [e]
 exact ⟨rfl, .inr (.inr ⟨rfl, subT t j, 1, by have := sub_big t j; omega, root_sub t j, rfl⟩)⟩
def vpairt (r : List (List Int) × Int) : AV := .tup [if r.2 = 0 then vt 2 r.1 else .nil, vi r.2]
@[go_sem] theorem rowsA_killset2 {t i : Nat} {M : List (List Int)} {r : List Int} (h : t < 1048576) : ((rowsA t M).map (killRow t ∘ killRow (subT t i))).set i (.sl (subT t i) 1 (r.map vi)) = rowsA t (M.set i r) := by
 have e : (rowsA t M).map (killRow t ∘ killRow (subT t i)) = (rowsA t M).map (killRow (subT t i)) := by
  apply List.ext_getElem?
  intro j
  simp only [List.getElem?_map, rowsA_at, Option.map_map]
  cases M[j]? with
  | none => rfl
  | some r =>
   simp only [Option.map_some, Function.comp, Option.some.injEq]
   by_cases hji : j = i
   ·subst hji; simp [killRow]
   ·simp [killRow, sub_sub, hji, sub_lit h]
 rw [e, rowsA_killset]
def partT (m : List (List Int)) (c i k : Nat) : List (List Int) := (List.range c).map fun j => (m.take (if j < k then i + 1 else i)).map fun r => r[j]!
theorem partT_len {m : List (List Int)} {c i k : Nat} : (partT m c i k).length = c := by simp [partT]
theorem partT_get {m : List (List Int)} {c i k j : Nat} (h : j < c) : (partT m c i k)[j]? = some ((m.take (if j < k then i + 1 else i)).map fun r => r[j]!) := by
 simp only [partT, List.getElem?_map, List.getElem?_range h, Option.map_some]
theorem partT_at {m : List (List Int)} {c i k : Nat} (h : k < c) : (partT m c i k)[k]! = (m.take i).map fun r => r[k]! := by
 have := partT_get (m := m) (i := i) (k := k) h
 rw [if_neg (by omega)] at this
 rw [List.getElem!_eq_getElem?_getD, this]; rfl
theorem partT_set {m : List (List Int)} {c i k : Nat} : (partT m c i k).set k ((m.take (i + 1)).map fun r => r[k]!) = partT m c i (k + 1) := by
 apply List.ext_getElem?
 intro j
 rw [List.getElem?_set]
 by_cases hj : j < c
 ·rw [partT_get hj, partT_get hj, partT_len]
  by_cases hkj : k = j
  ·subst hkj; simp [hj]
  ·rw [if_neg hkj]
   by_cases h : j < k
   ·rw [if_pos h, if_pos (by omega)]
   ·rw [if_neg h, if_neg (by omega)]
 ·rw [List.getElem?_eq_none (by rw [partT_len]; omega), List.getElem?_eq_none (by rw [partT_len]; omega)]
  split
  ·rw [if_neg (by rw [partT_len]; omega)]
  ·rfl
theorem partT_next {m : List (List Int)} {c i : Nat} : partT m c i c = partT m c (i + 1) 0 := by
 apply List.ext_getElem?
 intro j
 by_cases hj : j < c
 ·rw [partT_get hj, partT_get hj, if_pos hj, if_neg (by omega)]
 ·rw [List.getElem?_eq_none (by rw [partT_len]; omega), List.getElem?_eq_none (by rw [partT_len]; omega)]
theorem partT_zero {m : List (List Int)} {c : Nat} : partT m c 0 0 = List.replicate c [] := by
 apply List.ext_getElem?
 intro j
 by_cases hj : j < c
 ·rw [partT_get hj, if_neg (by omega), List.getElem?_replicate_of_lt hj]; simp
 ·rw [List.getElem?_eq_none (by rw [partT_len]; omega), List.getElem?_eq_none (by simp; omega)]
theorem partT_end {m : List (List Int)} : partT m m[0]!.length m.length 0 = transF m := by
 simp only [partT, transF]
 refine List.map_congr_left fun j _ => ?_
 rw [if_neg (by omega), List.take_length]
theorem con_refTranspose (m : List (List Int)) (hm : Fits m) : Con Try.prog 51 [vm 0 m] [] fun r _ => r = vpairt (transR m) := by
 refine Con.intro Try.func51 rfl Try.ntmps51 Try.results51 (by kernel_rfl) (by simp) 0 (by simp) ?_
 simp only [go_sem]
 refine CallU.free (con_rmxCheck m hm) (by simp only [go_sem]) (by simp only [go_sem]) ?_
 rintro r bx rfl
 by_cases h1 : mxCheckF m ≠ 0
 ·have hx : (mxCheckF m != 0) = true := bne_iff_ne.2 h1
  simp only [go_sem, hx, vpairt, transR, h1]
 have h1' : mxCheckF m = 0 := by omega
 have hV := check_ok h1'
 have hp := hV.pos
 have hg := getm hp
 have hl := hV.le
 have hcl := hV.cle
 simp only [go_sem, h1', hp, hg]
 obtain ⟨c, hc⟩ : ∃ c, c = m[0]!.length := ⟨_, rfl⟩
 rw [← hc]
 refine ⟨by omega, by omega, by omega, ?_⟩
 refine LoopK.intro (fun i : Nat => ⟨50, [(0, vm 0 m), (5, vt 1152 (partT m c i 0)), (6, vi i)], []⟩)
  (fun i => m.length - i) (fun i => i ≤ m.length) 0 (by omega) ?_ ?_
 ·simp only [go_sem, partT_zero]
  exact leV_slso (by omega) rowsLe_nils
 intro i hi
 by_cases h : i < m.length
 case neg =>
  have hil : i = m.length := by omega
  subst hil
  simp only [go_sem, h, vpairt, transR, h1']
  rw [hc, partT_end]
 have hgi := getm h
 have hri := hV.at h
 rw [← hc] at hri
 have hwi : IntKind.i64.wrap (i + 1) = i + 1 := wrap_in (by omega) (by omega)
 simp only [go_sem, h]
 refine LoopK.intro (fun k : Nat => ⟨50, [(0, vm 0 m), (5, vt 1152 (partT m c i k)), (6, vi i), (7, vi k)], []⟩)
  (fun k => c - k) (fun k => k ≤ c) 0 (by omega) ?_ ?_
 ·simp only [go_sem]
 intro k hk
 by_cases hk2 : k < c
 ·have hgk := getv (l := m[i]!) (i := k) (by omega)
  have hg := gett (t := 1152) (i := k) (M := partT m c i k) (by rw [partT_len]; exact hk2)
  rw [partT_at hk2] at hg
  have hwk : IntKind.i64.wrap (k + 1) = k + 1 := wrap_in (by omega) (by omega)
  have hmi : m[i]? = some m[i]! := by rw [getElem!_pos m i h]; simp [h]
  have htk : (m.take (i + 1)).map (fun r => r[k]!) = (m.take i).map (fun r => r[k]!) ++ [m[i]![k]!] := by
   rw [List.take_add_one, hmi, List.map_append]; rfl
  simp only [go_sem, h, hgi, hri, hk2]
  refine DrawK.front [0, 1] 14 mixed (by kernel_rfl) ?_
  simp only [go_sem, h, hk2, hg, hgi, hri, hgk, partT_len]
  refine ⟨by simp [roomFor]; omega, roundK.intro (k + 1) (by omega) (by omega) ?_⟩
  have ec : (List.map (vi ∘ fun r : List Int => r[k]!) (List.take i m) ++ [AV.sc (Value.int IntKind.i64 m[i]![k]!)]) = ((m.take (i + 1)).map fun r => r[k]!).map vi := by
   rw [htk, List.map_append, List.map_map]; rfl
  rw [ec, rowsA_killset2 (t := 1152) (by omega), partT_set]
  simp only [go_sem, hwk]
 ·have hkc : k = c := by omega
  subst hkc
  simp only [go_sem, h, hgi, hri, hk2, hwi]
  refine roundK.intro (i + 1) (by omega) (by omega) ?_
  simp only [go_sem, partT_next]
end Go.AM
namespace Go.AM
open Go Go.Proofs Go.RowKit Go.La
set_option maxHeartbeats 8000000
def combF (a b : Int) (x y : List Int) : List Int := (List.range x.length).map fun k => x[k]! * a - b * y[k]!
def elimRow (R : List (List Int)) (t j i : Nat) : List Int :=
 primF (combF (R[t]![j]!.tdiv (Nat.gcd R[t]![j]!.natAbs R[i]![j]!.natAbs)) (R[i]![j]!.tdiv (Nat.gcd R[t]![j]!.natAbs R[i]![j]!.natAbs)) R[i]! R[t]!)
def elimTo (R : List (List Int)) (t j k : Nat) : List (List Int) :=
 (List.range R.length).map fun i => if i < k ∧ i ≠ t ∧ R[i]![j]! ≠ 0 then elimRow R t j i else R[i]!
def seekF (R : List (List Int)) (j : Nat) : Nat → Nat → Nat
 | 0, i => i
 | f + 1, i => if i < R.length ∧ R[i]![j]! = 0 then seekF R j f (i + 1) else i
def findF (R : List (List Int)) (t j : Nat) : Nat := seekF R j R.length t
def swapF (R : List (List Int)) (t s : Nat) : List (List Int) := (R.set t R[s]!).set s R[t]!
def pivF (R : List (List Int)) (t j : Nat) : List (List Int) := if R[t]![j]! < 0 then R.set t (R[t]!.map fun x => x * -1) else R
def redStep (p : List (List Int) × List Int) (j : Nat) : List (List Int) × List Int :=
 if p.2.length < p.1.length ∧ findF p.1 p.2.length j < p.1.length then
  (elimTo (pivF (swapF p.1 p.2.length (findF p.1 p.2.length j)) p.2.length j) p.2.length j p.1.length, p.2 ++ [(j : Int)])
 else p
def redGo (m : List (List Int)) : Nat → List (List Int) × List Int
 | 0 => (m.map primF, [])
 | j + 1 => redStep (redGo m j) j
def redF (m : List (List Int)) : List (List Int) × List Int :=
 ((redGo m m[0]!.length).1.take (redGo m m[0]!.length).2.length, (redGo m m[0]!.length).2)
def Comb (m : List (List Int)) (n : Nat) (p : Nat → Prop) (x : List Int) : Prop :=
 ∃ (a : Int) (e : Nat → Int), a ≠ 0 ∧ (∀ r, r < m.length → ¬ p r → e r = 0) ∧ ∀ k, k < n → a * x[k]! = sum (fun r => e r * m[r]![k]!) m.length
theorem comb_at {a b : Int} {x y : List Int} {k : Nat} (h : k < x.length) : (combF a b x y)[k]! = x[k]! * a - b * y[k]! := by
 simp only [combF]
 rw [getElem!_pos _ k (by rw [List.length_map, List.length_range]; exact h)]
 simp
theorem Comb.comb {m : List (List Int)} {n : Nat} {p : Nat → Prop} {x y : List Int} {a b : Int} (hx : Comb m n p x) (hy : Comb m n p y) (hl : x.length = n) : Comb m n p (combF a b x y) := by
 obtain ⟨c, e, hc, h1, h2⟩ := hx
 obtain ⟨d, f, hd, g1, g2⟩ := hy
 refine ⟨c * d, fun r => a * d * e r + -(b * c) * f r, fun h => ?_, fun r hr hp => ?_, fun k hk => ?_⟩
 ·rcases Int.mul_eq_zero.1 h with h | h
  ·exact hc h
  ·exact hd h
 ·dsimp only; rw [h1 r hr hp, g1 r hr hp]; simp
 ·rw [comb_at (by omega)]
  have e1 : sum (fun r => (a * d * e r + -(b * c) * f r) * m[r]![k]!) m.length = a * d * sum (fun r => e r * m[r]![k]!) m.length + -(b * c) * sum (fun r => f r * m[r]![k]!) m.length := by
   rw [← sum_smul, ← sum_smul, ← sum_add]
   refine sum_congr _ fun r _ => ?_
   rw [Int.add_mul, Int.mul_assoc (a * d), Int.mul_assoc (-(b * c))]
  rw [e1, ← h2 k hk, ← g2 k hk]
  rw [Int.mul_sub, Int.neg_mul]
  have e2 : c * d * (x[k]! * a) = a * d * (c * x[k]!) := by
   rw [Int.mul_comm (x[k]!) a, ← Int.mul_assoc, ← Int.mul_assoc]
   congr 1
   rw [Int.mul_assoc c d a, Int.mul_comm c, Int.mul_comm d a]
  have e3 : c * d * (b * y[k]!) = b * c * (d * y[k]!) := by
   rw [← Int.mul_assoc, ← Int.mul_assoc]
   congr 1
   rw [Int.mul_assoc c d b, Int.mul_comm d b, ← Int.mul_assoc, Int.mul_comm c b]
  rw [e2, e3]; omega
theorem Comb.mono {m : List (List Int)} {n : Nat} {p q : Nat → Prop} {x : List Int} (h : Comb m n p x) (hpq : ∀ r, p r → q r) : Comb m n q x := by
 obtain ⟨a, e, ha, h1, h2⟩ := h
 exact ⟨a, e, ha, fun r hr hq => h1 r hr fun hp => hq (hpq r hp), h2⟩
theorem Comb.scale {m : List (List Int)} {n : Nat} {p : Nat → Prop} {x y : List Int} (h : Comb m n p x) {g : Int} (hg : g ≠ 0) (hxy : ∀ k, k < n → x[k]! = g * y[k]!) : Comb m n p y := by
 obtain ⟨a, e, ha, h1, h2⟩ := h
 refine ⟨a * g, e, fun h => ?_, h1, fun k hk => by rw [Int.mul_assoc, ← hxy k hk]; exact h2 k hk⟩
 rcases Int.mul_eq_zero.1 h with h | h
 ·exact ha h
 ·exact hg h
theorem gcd_zero {l : List Int} (h : gcdF l = 0) : ∀ x ∈ l, x = 0 := fun x hx => by
 apply Classical.byContradiction
 intro hne
 have := gcdF_pos hx hne
 omega
theorem Comb.prim {m : List (List Int)} {n : Nat} {p : Nat → Prop} {x : List Int} (h : Comb m n p x) (hl : x.length = n) : Comb m n p (primF x) := by
 rcases Nat.eq_zero_or_pos (gcdF x) with hg | hg
 ·refine h.scale (g := 1) (by omega) fun k hk => ?_
  have hx : x[k]! = 0 := gcd_zero hg _ (mem_at (by omega))
  have : (primF x)[k]! = 0 := by
   have : (primF x)[k]! = x[k]!.tdiv (gcdF x) := by simp [primF, show k < x.length by omega]
   rw [this, hx]; simp
  rw [hx, this]; rfl
 ·exact h.scale (g := gcdF x) (by omega) fun k _ => prim_at hg
theorem Comb.self {m : List (List Int)} {n i : Nat} {p : Nat → Prop} (hi : i < m.length) (hp : p i) : Comb m n p m[i]! := by
 refine ⟨1, fun r => if r = i then 1 else 0, by omega, fun r _ hr => if_neg fun h => hr (by rw [h]; exact hp), fun k _ => ?_⟩
 rw [sum_one (f := i) m.length hi fun r _ hr => by dsimp only; rw [if_neg hr, Int.zero_mul]]
 dsimp only
 rw [if_pos rfl]
theorem Comb.trans {m R : List (List Int)} {n : Nat} {x : List Int} (h : Comb R n (fun _ => True) x) (hR : ∀ i, i < R.length → Comb m n (fun _ => True) R[i]!) : Comb m n (fun _ => True) x := by
 obtain ⟨a, e, ha, _, h2⟩ := h
 have key : ∀ j, j ≤ R.length → ∃ (b : Int) (f : Nat → Int), b ≠ 0 ∧ ∀ k, k < n → b * sum (fun i => e i * R[i]![k]!) j = sum (fun r => f r * m[r]![k]!) m.length := by
  intro j
  induction j with
  | zero => intro _; exact ⟨1, fun _ => 0, by omega, fun k _ => by simp only [sum, Int.mul_zero, Int.zero_mul]; exact (sum_zero _).symm⟩
  | succ j ih =>
   intro hj
   obtain ⟨b, f, hb, hf⟩ := ih (by omega)
   obtain ⟨c, g, hc, _, hg⟩ := hR j (by omega)
   refine ⟨b * c, fun r => c * f r + b * e j * g r, fun h => ?_, fun k hk => ?_⟩
   ·rcases Int.mul_eq_zero.1 h with h | h
    ·exact hb h
    ·exact hc h
   ·have e1 : sum (fun r => (c * f r + b * e j * g r) * m[r]![k]!) m.length = c * sum (fun r => f r * m[r]![k]!) m.length + b * e j * sum (fun r => g r * m[r]![k]!) m.length := by
     rw [← sum_smul, ← sum_smul, ← sum_add]
     refine sum_congr _ fun r _ => ?_
     rw [Int.add_mul, Int.mul_assoc c, Int.mul_assoc (b * e j)]
    rw [e1, ← hf k hk, ← hg k hk]
    simp only [sum]
    rw [Int.mul_add]
    have e2 : b * c * sum (fun i => e i * R[i]![k]!) j = c * (b * sum (fun i => e i * R[i]![k]!) j) := by rw [← Int.mul_assoc, Int.mul_comm b c]
    have e3 : b * c * (e j * R[j]![k]!) = b * e j * (c * R[j]![k]!) := by
     rw [← Int.mul_assoc, ← Int.mul_assoc]
     congr 1
     rw [Int.mul_assoc, Int.mul_assoc, Int.mul_comm c]
    rw [e2, e3]
 obtain ⟨b, f, hb, hf⟩ := key R.length (Nat.le_refl _)
 refine ⟨b * a, f, fun h => ?_, fun r _ hr => absurd trivial hr, fun k hk => ?_⟩
 ·rcases Int.mul_eq_zero.1 h with h | h
  ·exact hb h
  ·exact ha h
 ·rw [Int.mul_assoc, h2 k hk, hf k hk]
theorem sum_swap' {e F : Nat → Int} {G : Nat → Nat → Int} {N : Nat} : ∀ K, sum (fun r => e r * sum (fun t => F t * G t r) K) N = sum (fun t => F t * sum (fun r => e r * G t r) N) K
 | 0 => by simp only [sum, Int.mul_zero]; exact sum_zero N
 | K + 1 => by
  simp only [sum]
  rw [← sum_swap' K, ← sum_smul, ← sum_add]
  refine sum_congr N fun r _ => ?_
  rw [Int.mul_add, ← Int.mul_assoc (e r) (F K), ← Int.mul_assoc (F K), Int.mul_comm (e r) (F K)]
theorem comb_lin {m : List (List Int)} {n : Nat} {p : Nat → Prop} {C : List Int} {x : List Int} {d : Int} {F : Nat → Int} (h : Comb m n p x) (hC : Below n C) {k : Nat} (hk : k < n)
  (hb : ∀ r, r < m.length → p r → d * m[r]![k]! = sum (fun t => F t * m[r]![C[t]!.toNat]!) C.length) : d * x[k]! = sum (fun t => F t * x[C[t]!.toNat]!) C.length := by
 obtain ⟨a, e, ha, h1, h2⟩ := h
 have key : ∀ r, r < m.length → e r * (d * m[r]![k]!) = e r * sum (fun t => F t * m[r]![C[t]!.toNat]!) C.length := fun r hr => by
  by_cases hrS : p r
  ·rw [hb r hr hrS]
  ·rw [h1 r hr hrS]; simp
 have hx : ∀ k, k < n → a * x[k]! = sum (fun r => e r * m[r]![k]!) m.length := h2
 have e1 : a * (d * x[k]!) = sum (fun r => e r * (d * m[r]![k]!)) m.length := by
  have : a * (d * x[k]!) = d * (a * x[k]!) := by rw [← Int.mul_assoc, ← Int.mul_assoc, Int.mul_comm a]
  rw [this, hx k hk, ← sum_smul]
  refine sum_congr _ fun r _ => ?_
  rw [← Int.mul_assoc, ← Int.mul_assoc, Int.mul_comm d]
 rw [sum_congr _ key, sum_swap' (F := F) (G := fun t r => m[r]![C[t]!.toNat]!)] at e1
 have e2 : sum (fun t => F t * sum (fun r => e r * m[r]![C[t]!.toNat]!) m.length) C.length = a * sum (fun t => F t * x[C[t]!.toNat]!) C.length := by
  rw [← sum_smul]
  refine sum_congr _ fun t ht => ?_
  have hb := hC.at ht
  rw [← hx C[t]!.toNat (by omega), ← Int.mul_assoc, ← Int.mul_assoc, Int.mul_comm a]
 rw [e2] at e1
 exact Int.eq_of_mul_eq_mul_left ha e1
theorem cram_row {m : List (List Int)} {S : List Nat} {C : List Int} {k r : Nat} (h : D S (C.map (cl m)) * cl m k r = cram (D S) (cl m k) (C.map (cl m)) r) :
  D S (C.map (cl m)) * m[r]![k]! = sum (fun t => D S ((C.map (cl m)).set t (cl m k)) * m[r]![C[t]!.toNat]!) C.length := by
 rw [cram_sum, List.length_map] at h
 have e0 : cl m k r = m[r]![k]! := by simp [cl]
 rw [e0] at h
 rw [h]
 refine sum_congr _ fun t ht => ?_
 congr 1
 simp [cl, ht]
theorem comb_cram {m : List (List Int)} {n : Nat} {S : List Nat} {C : List Int} {x : List Int} (h : Comb m n (fun r => r ∈ S) x) (hC : Below n C) {k : Nat} (hk : k < n) :
  D S (C.map (cl m)) * x[k]! = sum (fun t => D S ((C.map (cl m)).set t (cl m k)) * x[C[t]!.toNat]!) C.length :=
 comb_lin h hC hk fun r _ hr => cram_row (by rw [Int.mul_comm]; exact cram_rows hr (cl m k) (C.map (cl m)))
theorem comb_minor {m : List (List Int)} {n : Nat} {S : List Nat} {q : Nat} {C : List Int} {x : List Int} (h : Comb m n (fun r => r ∈ S ++ [q]) x) (hC : Below n C) (hl : C.length = S.length) (hD : D S (C.map (cl m)) ≠ 0)
  (h0 : ∀ t, t < C.length → x[C[t]!.toNat]! = 0) {j : Nat} (hj : j < n) (hx : x[j]! ≠ 0) : D (S ++ [q]) ((C ++ [(j : Int)]).map (cl m)) ≠ 0 := by
 intro hz
 rw [List.map_append, List.map_cons, List.map_nil] at hz
 have := comb_lin h hC hj (d := D S (C.map (cl m))) (F := fun t => D S ((C.map (cl m)).set t (cl m j))) fun r _ hr => cram_row (by
  rcases List.mem_append.1 hr with hr | hr
  ·rw [Int.mul_comm]; exact cram_rows hr (cl m j) (C.map (cl m))
  ·simp at hr; subst hr
   exact cramer (by rw [List.length_map]; exact hl) hD hz)
 rw [sum_congr _ (G := fun _ => 0) (fun t ht => by rw [h0 t ht, Int.mul_zero]), sum_zero] at this
 rcases Int.mul_eq_zero.1 this with h | h
 ·exact hD h
 ·exact hx h
structure RedInv (m : List (List Int)) (n j : Nat) (R : List (List Int)) (C : List Int) (s : List Nat) : Prop where
 len : R.length = m.length
 wide : ∀ i, i < R.length → R[i]!.length = n
 slen : s.length = m.length
 slt : ∀ x ∈ s, x < m.length
 tle : C.length ≤ m.length
 comb : ∀ i, i < R.length → Comb m n (fun r => r ∈ s.take C.length ++ [s[i]!]) R[i]!
 back : ∀ r, r < m.length → Comb R n (fun _ => True) m[r]!
 zero : ∀ i, i < R.length → ∀ u, u < C.length → u ≠ i → R[i]![C[u]!.toNat]! = 0
 pos : ∀ i, i < C.length → 0 < R[i]![C[i]!.toNat]!
 prim : ∀ i, i < R.length → gcdF R[i]! ≤ 1
 det : D (s.take C.length) (C.map (cl m)) ≠ 0
 cols : C = (leadGo m j).2
theorem prim_le (l : List Int) : gcdF (primF l) ≤ 1 := by
 rcases Nat.eq_zero_or_pos (gcdF l) with hg | hg
 ·rw [prim_same (by omega)]; omega
 ·rw [prim_one hg]; exact Nat.le_refl _
theorem prim_lenR (l : List Int) : (primF l).length = l.length := by simp [primF]
theorem red_start {m : List (List Int)} {n : Nat} (hw : Wide n m) : RedInv m n 0 (m.map primF) [] (List.range m.length) where
 len := by simp
 wide := fun i hi => by
  rw [List.length_map] at hi
  have : (m.map primF)[i]! = primF m[i]! := by simp [hi]
  rw [this, prim_lenR]; exact hw.at hi
 slen := by simp
 slt := fun x hx => by simpa using hx
 tle := by simp
 comb := fun i hi => by
  rw [List.length_map] at hi
  have : (m.map primF)[i]! = primF m[i]! := by simp [hi]
  rw [this]
  have hs : (List.range m.length)[i]! = i := by rw [getElem!_pos _ i (by simpa using hi)]; simp
  exact (Comb.self hi (by rw [hs]; simp)).prim (hw.at hi)
 back := fun r hr => by
  have hr' : r < (m.map primF).length := by simpa using hr
  have e : (m.map primF)[r]! = primF m[r]! := by simp [hr]
  have hc := Comb.self (m := m.map primF) (n := n) (p := fun _ => True) hr' trivial
  rw [e] at hc
  have hl := hw.at hr
  rcases Nat.eq_zero_or_pos (gcdF m[r]!) with hg | hg
  ·rw [prim_same (by omega)] at hc; exact hc
  ·obtain ⟨a, f, ha, h1, h2⟩ := hc
   refine ⟨a, fun i => gcdF m[r]! * f i, ha, fun _ _ h => absurd trivial h, fun k hk => ?_⟩
   have e2 : sum (fun i => (gcdF m[r]! : Int) * f i * (m.map primF)[i]![k]!) (m.map primF).length = gcdF m[r]! * sum (fun i => f i * (m.map primF)[i]![k]!) (m.map primF).length := by
    rw [← sum_smul]
    exact sum_congr _ fun i _ => Int.mul_assoc ..
   rw [e2, ← h2 k hk, prim_at (l := m[r]!) hg, ← Int.mul_assoc, ← Int.mul_assoc, Int.mul_comm a]
 zero := fun i _ u hu => by simp at hu
 pos := fun i hi => by simp at hi
 prim := fun i hi => by
  rw [List.length_map] at hi
  have : (m.map primF)[i]! = primF m[i]! := by simp [hi]
  rw [this]; exact prim_le _
 det := by simp [D]
 cols := rfl
theorem RedInv.below {m R : List (List Int)} {n j : Nat} {C : List Int} {s : List Nat} (h : RedInv m n j R C s) : Below j C := by
 rw [h.cols]; exact (lead_ok m j).cols
theorem take_at {s : List Nat} {i t : Nat} (hi : i < t) (ht : t ≤ s.length) : s[i]! ∈ s.take t := by
 rw [getElem!_pos s i (by omega)]
 exact List.mem_take_iff_getElem.2 ⟨i, by omega, rfl⟩
theorem red_bound {m R : List (List Int)} {n j : Nat} {C : List Int} {s : List Nat} (h : RedInv m n j R C s) (hj : j < n) (hz : ∀ i, C.length ≤ i → i < R.length → R[i]![j]! = 0) {r : Nat} (hr : r < m.length) :
  D (s.take C.length) (C.map (cl m)) * cl m j r = cram (D (s.take C.length)) (cl m j) (C.map (cl m)) r := by
 have hC : Below n C := h.below.mono (by omega)
 have := comb_lin (h.back r hr) hC hj (d := D (s.take C.length) (C.map (cl m))) (F := fun t => D (s.take C.length) ((C.map (cl m)).set t (cl m j))) fun i hi _ => by
  by_cases hit : i < C.length
  ·refine comb_cram ((h.comb i hi).mono fun q hq => ?_) hC hj
   rcases List.mem_append.1 hq with hq | hq
   ·exact hq
   ·simp only [List.mem_singleton] at hq
    rw [hq]; exact take_at hit (by rw [h.slen]; exact h.tle)
  ·rw [hz i (by omega) hi, Int.mul_zero, sum_congr _ (G := fun _ => 0) (fun t ht => by rw [h.zero i hi t ht (by omega), Int.mul_zero]), sum_zero]
 have e0 : cl m j r = m[r]![j]! := by simp [cl]
 rw [e0, this, cram_sum, List.length_map]
 refine sum_congr _ fun t ht => ?_
 congr 1
 simp [cl, ht]
theorem red_none {m R : List (List Int)} {n j : Nat} {C : List Int} {s : List Nat} (hV : Valid m) (hn : n = m[0]!.length) (h : RedInv m n j R C s) (hj : j < n) (hz : ∀ i, C.length ≤ i → i < R.length → R[i]![j]! = 0) : pickF m (leadGo m j) j = none := by
 cases hp : pickF m (leadGo m j) j with
 | none => rfl
 | some i =>
  exfalso
  obtain ⟨hi, hok⟩ := pick_lt hp
  simp only [pickOk, Bool.and_eq_true, Bool.not_eq_true', bne_iff_ne, ne_eq] at hok
  obtain ⟨hany, hne⟩ := hok
  obtain ⟨h1, h2, h3, h4⟩ := lead_ok m j
  have hsm := hV.small
  have hnd : ((leadGo m j).1 ++ [(i : Int)]).Nodup := by
   rw [List.nodup_append]
   refine ⟨lead_nodup m j, by simp, fun a ha b hb => ?_⟩
   simp at hb; subst hb
   rintro rfl
   rw [List.any_eq_false] at hany
   exact hany _ ha (by simp)
  have hlen := nodup_below _ _ hnd (h1.snoc (by omega) (by omega : (i : Int) < m.length))
  simp only [List.length_append, List.length_singleton] at hlen
  refine hne ?_
  rw [det_D hV.wide hV.slight (h1.snoc (by omega) (by omega)) ((h2.mono (k := m[0]!.length) (by omega)).snoc (by omega) (by omega)) (by simp; omega) (by simp; omega)]
  rw [List.map_append (f := cl m), ← h.cols]
  refine D_bound (a := D (s.take C.length) (C.map (cl m))) (C := C.map (cl m)) (f := D (s.take C.length)) h.det (fun c hc => hc) fun r hr => ?_
  have hrm : r < m.length := by
   obtain ⟨x, hx, rfl⟩ := List.mem_map.1 hr
   have := (h1.snoc (by omega) (by omega : (i : Int) < m.length)) x hx
   omega
  exact red_bound h hj hz hrm
theorem red_pick {m R : List (List Int)} {n j : Nat} {C : List Int} {s : List Nat} (hV : Valid m) (hn : n = m[0]!.length) (h : RedInv m n j R C s) (hj : j < n) {i : Nat} (hi : i < R.length) (hit : C.length ≤ i) (hx : R[i]![j]! ≠ 0) :
  D (s.take C.length ++ [s[i]!]) ((C ++ [(j : Int)]).map (cl m)) ≠ 0 ∧ (pickF m (leadGo m j) j).isSome = true := by
 have hC : Below n C := h.below.mono (by omega)
 have hl : C.length = (s.take C.length).length := by rw [List.length_take, h.slen]; have := h.tle; omega
 have hm := comb_minor (h.comb i hi) hC hl h.det (fun t ht => h.zero i hi t ht (by omega)) hj hx
 refine ⟨hm, ?_⟩
 cases hp : pickF m (leadGo m j) j with
 | some _ => rfl
 | none =>
  exfalso
  refine hm ?_
  rw [List.map_append, List.map_cons, List.map_nil]
  have hb := fun {i : Nat} (hi : i < m.length) => free_bound hV (by omega) hp hi
  have h0 : 0 < m.length := hV.pos
  refine D_bound (a := D ((leadGo m j).1.map Int.toNat) ((leadGo m j).2.map (cl m))) (C := (leadGo m j).2.map (cl m)) (f := D ((leadGo m j).1.map Int.toNat)) (hb h0).1 (fun c hc => by rw [h.cols]; exact hc) fun r hr => ?_
  have hrm : r < m.length := by
   rcases List.mem_append.1 hr with hr | hr
   ·exact h.slt r (List.mem_of_mem_take hr)
   ·simp only [List.mem_singleton] at hr
    rw [hr]
    exact h.slt _ (mem_at (by rw [h.slen, ← h.len]; exact hi))
  exact (hb hrm).2
theorem gcdN_mulR (d : Int) (l : List Int) : ∀ k, k ≤ l.length → gcdN (l.map fun x => d * x) k = d.natAbs * gcdN l k
 | 0, _ => by simp [gcdN]
 | k + 1, hk => by
  have e : (l.map fun x => d * x)[k]! = d * l[k]! := by simp [show k < l.length by omega]
  simp only [gcdN]
  rw [gcdN_mulR d l k (by omega), e, Int.natAbs_mul, Nat.gcd_mul_left]
theorem prim_small {x : List Int} {n : Nat} (hl : x.length = n) (hg : gcdF x ≤ 1) {d p : Int} (hd : d ≠ 0) (hp : p ≠ 0) {W : Nat → Int} (h : ∀ k, k < n → d * x[k]! = p * W k) {k : Nat} (hk : k < n) : x[k]!.natAbs ≤ (W k).natAbs := by
 rcases Nat.eq_zero_or_pos (gcdF x) with h0 | h0
 ·have : x[k]! = 0 := gcd_zero h0 _ (mem_at (by omega))
  rw [this]; simp
 ·have h1 : gcdF x = 1 := by omega
  have hdv : p.natAbs ∣ gcdN (x.map fun y => d * y) x.length := dvd_gcdN x.length fun i hi => by
   have e : (x.map fun y => d * y)[i]! = d * x[i]! := by simp [hi]
   rw [e, h i (by omega), Int.natAbs_mul]
   exact Nat.dvd_mul_right ..
  rw [gcdN_mulR d x x.length (Nat.le_refl _)] at hdv
  have : gcdN x x.length = 1 := h1
  rw [this, Nat.mul_one] at hdv
  obtain ⟨c, hc⟩ := hdv
  have hk' := congrArg Int.natAbs (h k hk)
  rw [Int.natAbs_mul, Int.natAbs_mul, hc, Nat.mul_assoc] at hk'
  have hp' : 0 < p.natAbs := by omega
  have hk2 := Nat.eq_of_mul_eq_mul_left hp' hk'
  have hcp : 0 < c := by
   rcases Nat.eq_zero_or_pos c with hc0 | hc0
   ·rw [hc0, Nat.mul_zero] at hc; omega
   ·exact hc0
  rw [← hk2]
  exact Nat.le_mul_of_pos_left _ hcp
theorem con_boundR {r : Nat} {B : Int} : ∀ (C : List Col) (g : List Col → Int), (∀ c ∈ C, -16 ≤ c r ∧ c r ≤ 16) → (∀ L : List Col, L.length + 1 = C.length → (∀ x ∈ L, x ∈ C) → -B ≤ g L ∧ g L ≤ B) →
  -(C.length * (16 * B)) ≤ con r g C ∧ con r g C ≤ C.length * (16 * B)
 | [], g, _, _ => by simp [con]
 | c :: C, g, hc, hg => by
  have h1 := hg C (by simp) (fun x hx => by simp [hx])
  have h2 := hc c (by simp)
  have h3 := con_boundR (r := r) C (fun L => g (c :: L)) (fun x hx => hc x (by simp [hx])) (fun L hL hx => hg (c :: L) (by simp; omega) (fun x hx' => by
   rcases List.mem_cons.1 hx' with rfl | h
   ·simp
   ·simp [hx x h]))
  have h4 := mul_bound h2.1 h2.2 h1.1 h1.2
  have e : (((c :: C).length : Nat) : Int) * (16 * B) = C.length * (16 * B) + 16 * B := by
   rw [List.length_cons, Int.natCast_add, Int.add_mul]; simp
  simp only [con]
  rw [e]; omega
def sizeF : Nat → Int
 | 0 => 1
 | k + 1 => (k + 1 : Nat) * (16 * sizeF k)
theorem D_size : ∀ (R : List Nat) (C : List Col), C.length = R.length → (∀ r ∈ R, ∀ c ∈ C, -16 ≤ c r ∧ c r ≤ 16) → -(sizeF R.length) ≤ D R C ∧ D R C ≤ sizeF R.length
 | [], C, hl, _ => by
  have : C = [] := List.eq_nil_of_length_eq_zero hl
  subst this; simp [D, sizeF]
 | r :: R, C, hl, h => by
  have := con_boundR (r := r) (B := sizeF R.length) C (D R) (fun c hc => h r (by simp) c hc) (fun L hL hx => D_size R L (by simp at hl; omega) fun q hq c hc => h q (by simp [hq]) c (hx c hc))
  rw [hl] at this
  simp only [List.length_cons] at this
  simp only [List.length_cons, sizeF, D]
  exact this
def swapL {α : Type} [Inhabited α] (l : List α) (t q : Nat) : List α := (l.set t l[q]!).set q l[t]!
def swapI (t q i : Nat) : Nat := if q = i then t else if t = i then q else i
theorem swap_len {α : Type} [Inhabited α] {l : List α} {t q : Nat} : (swapL l t q).length = l.length := by simp [swapL]
theorem swap_get {α : Type} [Inhabited α] {l : List α} {t q i : Nat} (hi : i < l.length) : (swapL l t q)[i]! = l[swapI t q i]! := by
 simp only [swapL, swapI]
 rw [setTo (by rw [List.length_set]; exact hi)]
 split
 ·rfl
 ·rw [setTo hi]; split <;> rfl
theorem swapI_lt {t q i n : Nat} (ht : t < n) (hq : q < n) (hi : i < n) : swapI t q i < n := by
 simp only [swapI]; split
 ·exact ht
 ·split <;> omega
theorem swapI_two {t q i : Nat} : swapI t q (swapI t q i) = i := by
 simp only [swapI]; repeat' split
 all_goals omega
theorem swapI_low {t q i : Nat} (hq : t ≤ q) (hi : i < t) : swapI t q i = i := by
 simp only [swapI]; rw [if_neg (by omega), if_neg (by omega)]
theorem swap_take {α : Type} [Inhabited α] {l : List α} {t q : Nat} (hq : t ≤ q) : (swapL l t q).take t = l.take t := by
 simp only [swapL]
 rw [List.take_set_of_le (by omega), List.take_set_of_le (by omega)]
theorem red_swap {m R : List (List Int)} {n j : Nat} {C : List Int} {s : List Nat} (h : RedInv m n j R C s) {q : Nat} (hq : C.length ≤ q) (hql : q < R.length) : RedInv m n j (swapL R C.length q) C (swapL s C.length q) := by
 have ht : C.length < R.length := by omega
 have hL := h.len
 have hS := h.slen
 refine ⟨by rw [swap_len]; exact hL, fun i hi => ?_, by rw [swap_len]; exact hS, fun x hx => ?_, h.tle, fun i hi => ?_, fun r hr => ?_, fun i hi u hu hui => ?_, fun i hi => ?_, fun i hi => ?_, by rw [swap_take hq]; exact h.det, h.cols⟩
 ·rw [swap_len] at hi; rw [swap_get hi]; exact h.wide _ (swapI_lt ht hql hi)
 ·obtain ⟨i, hi, rfl⟩ := List.mem_iff_getElem.1 hx
  rw [← getElem!_pos (swapL s C.length q) i hi]
  rw [swap_len] at hi
  rw [swap_get hi]
  exact h.slt _ (mem_at (swapI_lt (by omega) (by omega) hi))
 ·rw [swap_len] at hi
  rw [swap_get hi, swap_take hq, swap_get (by omega)]
  exact h.comb _ (swapI_lt ht hql hi)
 ·refine (h.back r hr).trans fun i hi => ?_
  have := Comb.self (m := swapL R C.length q) (n := n) (p := fun _ => True) (i := swapI C.length q i) (by rw [swap_len]; exact swapI_lt ht hql hi) trivial
  rw [swap_get (swapI_lt ht hql hi), swapI_two] at this
  exact this
 ·rw [swap_len] at hi
  rw [swap_get hi]
  refine h.zero _ (swapI_lt ht hql hi) u hu fun hc => ?_
  have : i = u := by
   rw [← swapI_two (t := C.length) (q := q) (i := i), ← hc, swapI_low hq hu]
  omega
 ·rw [swap_get (by omega), swapI_low hq hi]; exact h.pos i hi
 ·rw [swap_len] at hi
  rw [swap_get hi]; exact h.prim _ (swapI_lt ht hql hi)
theorem mapGet {f : Int → Int} {l : List Int} {k : Nat} (h : k < l.length) : (l.map f)[k]! = f l[k]! := by simp [h]
theorem red_neg {m R : List (List Int)} {n j : Nat} {C : List Int} {s : List Nat} (h : RedInv m n j R C s) (ht : C.length < R.length) : RedInv m n j (R.set C.length (R[C.length]!.map fun x => x * -1)) C s := by
 have hw := h.wide C.length ht
 have hn : ∀ k, k < n → (R[C.length]!.map fun x => x * -1)[k]! = R[C.length]![k]! * -1 := fun k hk => mapGet (by omega)
 have hsc : ∀ {p : Nat → Prop} {M : List (List Int)}, Comb M n p R[C.length]! → Comb M n p (R[C.length]!.map fun x => x * -1) := fun hc => hc.scale (g := -1) (by omega) fun k hk => by rw [hn k hk]; omega
 have hg : ∀ {i : Nat}, i < R.length → (R.set C.length (R[C.length]!.map fun x => x * -1))[i]! = if C.length = i then R[C.length]!.map (fun x => x * -1) else R[i]! := fun hi => setTo hi
 refine ⟨by rw [List.length_set]; exact h.len, fun i hi => ?_, h.slen, h.slt, h.tle, fun i hi => ?_, fun r hr => ?_, fun i hi u hu hui => ?_, fun i hi => ?_, fun i hi => ?_, h.det, h.cols⟩
 ·rw [List.length_set] at hi; rw [hg hi]; split
  ·rw [List.length_map]; exact hw
  ·exact h.wide i hi
 ·rw [List.length_set] at hi; rw [hg hi]; split
  ·rename_i he; subst he; exact hsc (h.comb _ hi)
  ·exact h.comb i hi
 ·refine (h.back r hr).trans fun i hi => ?_
  have := Comb.self (m := R.set C.length (R[C.length]!.map fun x => x * -1)) (n := n) (p := fun _ => True) (i := i) (by rw [List.length_set]; exact hi) trivial
  rw [hg hi] at this
  split at this
  ·rename_i he; subst he
   exact this.scale (g := -1) (by omega) fun k hk => by rw [hn k hk]; omega
  ·exact this
 ·rw [List.length_set] at hi; rw [hg hi]; split
  ·rename_i he; subst he
   have hb := h.below.at hu
   by_cases hk : C[u]!.toNat < R[C.length]!.length
   ·have : (R[C.length]!.map fun x => x * -1)[C[u]!.toNat]! = R[C.length]![C[u]!.toNat]! * -1 := mapGet hk
    rw [this, h.zero _ hi u hu hui]; rfl
   ·rw [getElem!_neg _ _ (by rw [List.length_map]; exact hk)]; rfl
  ·exact h.zero i hi u hu hui
 ·rw [hg (by omega), if_neg (by omega)]; exact h.pos i hi
 ·rw [List.length_set] at hi; rw [hg hi]; split
  ·rename_i he; subst he
   have e : (R[C.length]!.map fun x => x * -1) = R[C.length]!.map fun x => (-1) * x := List.map_congr_left fun x _ => Int.mul_comm ..
   have := gcdN_mulR (-1) R[C.length]! _ (Nat.le_refl _)
   have hp := h.prim C.length ht
   unfold gcdF at hp ⊢
   rw [e, List.length_map, this]
   simpa using hp
  ·exact h.prim i hi
theorem elim_get {R : List (List Int)} {t j i : Nat} (hi : i < R.length) : (elimTo R t j R.length)[i]! = if i ≠ t ∧ R[i]![j]! ≠ 0 then elimRow R t j i else R[i]! := by
 simp only [elimTo]
 rw [getElem!_pos _ i (by rw [List.length_map, List.length_range]; exact hi)]
 simp only [List.getElem_map, List.getElem_range, hi, true_and]
theorem elim_len {R : List (List Int)} {t j k : Nat} : (elimTo R t j k).length = R.length := by simp [elimTo]
structure ElimRow (R : List (List Int)) (n t j i : Nat) (X : List Int) (a b : Int) : Prop where
 apos : 0 < a
 len : X.length = n
 get : ∀ k, k < n → X[k]! = R[i]![k]! * a - b * R[t]![k]!
 at_j : X[j]! = 0
 row : elimRow R t j i = primF X
 eq : X = combF a b R[i]! R[t]!
theorem elim_row {R : List (List Int)} {n t j i : Nat} (hj : j < n) (hw : R[i]!.length = n) (hp : 0 < R[t]![j]!) : ∃ X a b, ElimRow R n t j i X a b := by
 obtain ⟨g, hg⟩ : ∃ g, g = Nat.gcd R[t]![j]!.natAbs R[i]![j]!.natAbs := ⟨_, rfl⟩
 have hg0 : 0 < g := by rw [hg]; exact Nat.gcd_pos_of_pos_left _ (by omega)
 obtain ⟨a, ha⟩ : (g : Int) ∣ R[t]![j]! := Int.ofNat_dvd_left.2 (by rw [hg]; exact Nat.gcd_dvd_left ..)
 obtain ⟨b, hb⟩ : (g : Int) ∣ R[i]![j]! := Int.ofNat_dvd_left.2 (by rw [hg]; exact Nat.gcd_dvd_right ..)
 have hgz : (g : Int) ≠ 0 := by omega
 have ea : R[t]![j]!.tdiv g = a := by rw [ha]; exact Int.mul_tdiv_cancel_left a hgz
 have eb : R[i]![j]!.tdiv g = b := by rw [hb]; exact Int.mul_tdiv_cancel_left b hgz
 refine ⟨combF a b R[i]! R[t]!, a, b, ?_, by simp only [combF, List.length_map, List.length_range]; exact hw, fun k hk => comb_at (by omega), ?_, ?_, rfl⟩
 ·rw [ha] at hp
  apply Classical.byContradiction
  intro hn
  have : (g : Int) * a ≤ 0 := Int.mul_nonpos_of_nonneg_of_nonpos (by omega) (by omega)
  omega
 ·rw [comb_at (by omega), ha, hb]
  rw [Int.mul_comm (g : Int) b, Int.mul_assoc]; omega
 ·unfold elimRow; rw [← hg, ea, eb]
theorem prim_zero_at {l : List Int} {k : Nat} (hk : k < l.length) (h : l[k]! = 0) : (primF l)[k]! = 0 := by
 have : (primF l)[k]! = l[k]!.tdiv (gcdF l) := mapGet hk
 rw [this, h]; simp
theorem prim_pos_at {l : List Int} {k : Nat} (hk : k < l.length) (h : 0 < l[k]!) : 0 < (primF l)[k]! := by
 have hg : 0 < gcdF l := gcdF_pos (mem_at hk) (by omega)
 have := prim_at (j := k) hg
 apply Classical.byContradiction
 intro hn
 have h2 : (gcdF l : Int) * (primF l)[k]! ≤ 0 := Int.mul_nonpos_of_nonneg_of_nonpos (by omega) (by omega)
 omega
theorem red_elim {m R : List (List Int)} {n j : Nat} {C : List Int} {s : List Nat} (hV : Valid m) (hn : n = m[0]!.length) (h : RedInv m n j R C s) (hj : j < n) (ht : C.length < R.length) (hp : 0 < R[C.length]![j]!) :
  RedInv m n (j + 1) (elimTo R C.length j R.length) (C ++ [(j : Int)]) s := by
 have hL := h.len
 have hS := h.slen
 obtain ⟨hdet, hpick⟩ := red_pick hV hn h hj ht (Nat.le_refl _) (by omega)
 have htk : s.take (C.length + 1) = s.take C.length ++ [s[C.length]!] := by
  rw [List.take_add_one, List.getElem?_eq_getElem (by omega), getElem!_pos s C.length (by omega)]; rfl
 have hcl : (C ++ [(j : Int)]).length = C.length + 1 := by simp
 have hfree : ∀ i, i < R.length → ∃ X a b, ElimRow R n C.length j i X a b := fun i hi => elim_row hj (h.wide i hi) hp
 have hbel : ∀ u, u < C.length → 0 ≤ C[u]! ∧ C[u]!.toNat < n := fun u hu => by have := h.below.at hu; omega
 have hcu : ∀ u, u < C.length → (C ++ [(j : Int)])[u]! = C[u]! := fun u hu => snoc_at hu
 have hct : (C ++ [(j : Int)])[C.length]! = (j : Int) := snoc_end
 refine ⟨by rw [elim_len]; exact hL, fun i hi => ?_, hS, h.slt, by rw [hcl]; omega, fun i hi => ?_, fun r hr => ?_, fun i hi u hu hui => ?_, fun i hi => ?_, fun i hi => ?_, by rw [hcl, htk]; exact hdet, ?_⟩
 ·rw [elim_len] at hi; rw [elim_get hi]; split
  ·obtain ⟨X, a, b, hX⟩ := hfree i hi
   rw [hX.row, prim_lenR]; exact hX.len
  ·exact h.wide i hi
 ·rw [elim_len] at hi
  have hci : Comb m n (fun r => r ∈ s.take (C ++ [(j : Int)]).length ++ [s[i]!]) R[i]! := (h.comb i hi).mono fun r hr => by
   rw [hcl, htk]
   rcases List.mem_append.1 hr with hr | hr
   ·simp [hr]
   ·simp only [List.mem_singleton] at hr; simp [hr]
  have hct' : Comb m n (fun r => r ∈ s.take (C ++ [(j : Int)]).length ++ [s[i]!]) R[C.length]! := (h.comb _ ht).mono fun r hr => by
   rw [hcl, htk]
   exact List.mem_append_left _ hr
  rw [elim_get hi]; split
  ·obtain ⟨X, a, b, hX⟩ := hfree i hi
   rw [hX.row, hX.eq]
   exact (hci.comb hct' (h.wide i hi)).prim (by rw [← hX.eq]; exact hX.len)
  ·exact hci
 ·refine (h.back r hr).trans fun i hi => ?_
  have hself := Comb.self (m := elimTo R C.length j R.length) (n := n) (p := fun _ => True) (i := i) (by rw [elim_len]; exact hi) trivial
  have htt := Comb.self (m := elimTo R C.length j R.length) (n := n) (p := fun _ => True) (i := C.length) (by rw [elim_len]; exact ht) trivial
  rw [elim_get ht, if_neg (by simp)] at htt
  rw [elim_get hi] at hself
  split at hself
  ·obtain ⟨X, a, b, hX⟩ := hfree i hi
   rw [hX.row] at hself
   have hXc : Comb (elimTo R C.length j R.length) n (fun _ => True) X := by
    rcases Nat.eq_zero_or_pos (gcdF X) with hg | hg
    ·rw [prim_same (by omega)] at hself; exact hself
    ·have := hself.comb htt (a := gcdF X) (b := 0) (by rw [prim_lenR]; exact hX.len)
     refine this.scale (g := 1) (by omega) fun k hk => ?_
     rw [comb_at (by rw [prim_lenR, hX.len]; exact hk), prim_at (l := X) (j := k) hg, Int.mul_comm]; omega
   have := hXc.comb htt (a := 1) (b := -b) hX.len
   refine this.scale (g := a) (by have := hX.apos; omega) fun k hk => ?_
   rw [comb_at (by rw [hX.len]; exact hk), hX.get k hk, Int.neg_mul, Int.mul_comm a]; omega
  ·exact hself
 ·rw [elim_len] at hi
  rw [hcl] at hu
  by_cases hut : u = C.length
  ·subst hut
   rw [hct, elim_get hi]
   simp only [Int.toNat_natCast]
   split
   ·obtain ⟨X, a, b, hX⟩ := hfree i hi
    rw [hX.row]; exact prim_zero_at (by rw [hX.len]; exact hj) hX.at_j
   ·rename_i hne
    apply Classical.byContradiction
    intro hz
    exact hne ⟨fun he => hui he.symm, hz⟩
  ·rw [hcu u (by omega), elim_get hi]
   obtain ⟨_, hb2⟩ := hbel u (by omega)
   split
   ·obtain ⟨X, a, b, hX⟩ := hfree i hi
    rw [hX.row]
    refine prim_zero_at (by rw [hX.len]; exact hb2) ?_
    rw [hX.get _ hb2, h.zero i hi u (by omega) hui, h.zero _ ht u (by omega) (by omega)]; simp
   ·exact h.zero i hi u (by omega) hui
 ·rw [hcl] at hi
  by_cases hit : i = C.length
  ·subst hit
   rw [hct, elim_get ht, if_neg (by simp)]
   simpa using hp
  ·rw [hcu i (by omega), elim_get (by omega)]
   obtain ⟨_, hb2⟩ := hbel i (by omega)
   split
   ·obtain ⟨X, a, b, hX⟩ := hfree i (by omega)
    rw [hX.row]
    refine prim_pos_at (by rw [hX.len]; exact hb2) ?_
    rw [hX.get _ hb2, h.zero _ ht i (by omega) (by omega), Int.mul_zero, Int.sub_zero]
    exact Int.mul_pos (h.pos i (by omega)) hX.apos
   ·exact h.pos i (by omega)
 ·rw [elim_len] at hi; rw [elim_get hi]; split
  ·obtain ⟨X, a, b, hX⟩ := hfree i hi
   rw [hX.row]; exact prim_le _
  ·exact h.prim i hi
 ·cases hpk : pickF m (leadGo m j) j with
  | none => rw [hpk] at hpick; cases hpick
  | some q => simp only [leadGo, hpk, h.cols]
theorem seek_spec {R : List (List Int)} {j : Nat} : ∀ (f i : Nat), R.length ≤ i + f → i ≤ R.length → i ≤ seekF R j f i ∧ seekF R j f i ≤ R.length ∧ (∀ k, i ≤ k → k < seekF R j f i → R[k]![j]! = 0) ∧ (seekF R j f i < R.length → R[seekF R j f i]![j]! ≠ 0)
 | 0, i, h1, h2 => by
  simp only [seekF]
  exact ⟨Nat.le_refl _, h2, fun k hk hk2 => by omega, fun h => by omega⟩
 | f + 1, i, h1, h2 => by
  simp only [seekF]
  split
  ·rename_i h
   obtain ⟨g1, g2, g3, g4⟩ := seek_spec (R := R) (j := j) f (i + 1) (by omega) (by omega)
   refine ⟨by omega, g2, fun k hk hk2 => ?_, g4⟩
   by_cases hki : k = i
   ·rw [hki]; exact h.2
   ·exact g3 k (by omega) hk2
  ·rename_i h
   exact ⟨Nat.le_refl _, h2, fun k hk hk2 => by omega, fun hl hz => h ⟨hl, hz⟩⟩
theorem red_go {m : List (List Int)} (hV : Valid m) : ∀ j, j ≤ m[0]!.length → ∃ s, RedInv m m[0]!.length j (redGo m j).1 (redGo m j).2 s
 | 0, _ => ⟨_, red_start hV.wide⟩
 | j + 1, hj => by
  obtain ⟨s, h⟩ := red_go hV j (by omega)
  obtain ⟨R, C, hRC⟩ : ∃ R C, redGo m j = (R, C) := ⟨_, _, rfl⟩
  rw [hRC] at h
  simp only at h
  have hL := h.len
  have htl := h.tle
  obtain ⟨f1, f2, f3, f4⟩ := seek_spec (R := R) (j := j) R.length C.length (by omega) (by omega)
  simp only [redGo, redStep, hRC]
  have hfd : findF R C.length j = seekF R j R.length C.length := rfl
  rw [hfd]
  split
  ·rename_i hc
   have hsw := red_swap h f1 hc.2
   have hql := hc.2
   have ht : C.length < (swapL R C.length (seekF R j R.length C.length)).length := by rw [swap_len]; exact hc.1
   have hne : (swapL R C.length (seekF R j R.length C.length))[C.length]![j]! ≠ 0 := by
    rw [swap_get hc.1]
    have : swapI C.length (seekF R j R.length C.length) C.length = seekF R j R.length C.length := by
     simp only [swapI]; split
     ·rename_i he; exact he.symm
     ·simp
    rw [this]; exact f4 hql
   refine ⟨swapL s C.length (seekF R j R.length C.length), ?_⟩
   have e : swapF R C.length (seekF R j R.length C.length) = swapL R C.length (seekF R j R.length C.length) := rfl
   rw [e]
   simp only [pivF]
   split
   ·rename_i hneg
    have hng := red_neg hsw ht
    have ht2 : C.length < ((swapL R C.length (seekF R j R.length C.length)).set C.length ((swapL R C.length (seekF R j R.length C.length))[C.length]!.map fun x => x * -1)).length := by rw [List.length_set]; exact ht
    have := red_elim hV rfl hng (by omega) ht2 (by
     rw [setTo ht, if_pos rfl, mapGet (by rw [hsw.wide _ ht]; omega)]; omega)
    rw [List.length_set, swap_len] at this
    exact this
   ·have := red_elim hV rfl hsw (by omega) ht (by omega)
    rw [swap_len] at this
    exact this
  ·rename_i hc
   refine ⟨s, ?_⟩
   have hno := red_none hV rfl h (by omega) fun i hi hil => f3 i hi (by
    by_cases h1 : C.length < R.length
    ·have : ¬ seekF R j R.length C.length < R.length := fun h2 => hc ⟨h1, h2⟩
     omega
    ·omega)
   exact { h with cols := by simp only [leadGo, hno]; exact h.cols }
theorem cl_size {m : List (List Int)} (hV : Valid m) {r k : Nat} (hr : r < m.length) (hk : k < m[0]!.length) : -16 ≤ cl m k r ∧ cl m k r ≤ 16 := by
 have hrow := hV.row m[r]! (mem_at hr)
 have e : cl m k r = m[r]![k]! := by simp [cl]
 rw [e]
 exact hrow.2 _ (mem_at (by rw [hrow.1]; exact hk))
theorem cl_size' {m : List (List Int)} (hV : Valid m) {r : Nat} {c : Int} (hr : r < m.length) (h0 : 0 ≤ c) (hk : c < m[0]!.length) : -16 ≤ cl m c r ∧ cl m c r ≤ 16 := by
 have := cl_size hV hr (k := c.toNat) (by omega)
 rw [show ((c.toNat : Nat) : Int) = c by omega] at this
 exact this
theorem RedInv.low {m R : List (List Int)} {j : Nat} {C : List Int} {s : List Nat} (h : RedInv m m[0]!.length j R C s) (hV : Valid m) (hjn : j ≤ m[0]!.length) {i : Nat} (hi : i < C.length) {k : Nat} (hk : k < m[0]!.length) : (R[i]![k]!.natAbs : Int) ≤ sizeF C.length := by
 have hir : i < R.length := by have := h.tle; have := h.len; omega
 have hC : Below m[0]!.length C := h.below.mono hjn
 have hcm : Comb m m[0]!.length (fun r => r ∈ s.take C.length) R[i]! := (h.comb i hir).mono fun q hq => by
  rcases List.mem_append.1 hq with hq | hq
  ·exact hq
  ·simp only [List.mem_singleton] at hq
   rw [hq]; exact take_at hi (by rw [h.slen]; exact h.tle)
 have hp := h.pos i hi
 have hsm := prim_small (x := R[i]!) (n := m[0]!.length) (d := D (s.take C.length) (C.map (cl m))) (p := R[i]![C[i]!.toNat]!) (W := fun k => D (s.take C.length) ((C.map (cl m)).set i (cl m k))) (h.wide i hir) (h.prim i hir) h.det (by omega) (fun k hk => by
  rw [comb_cram hcm hC hk, sum_one (f := i) C.length hi fun u hu hui => by rw [h.zero i hir u hu hui, Int.mul_zero]]
  exact Int.mul_comm ..) hk
 have hln : (s.take C.length).length = C.length := by rw [List.length_take, h.slen]; have := h.tle; omega
 have hD := D_size (s.take C.length) ((C.map (cl m)).set i (cl m k)) (by rw [List.length_set, List.length_map, hln]) fun r hr c hc => by
  have hrm := h.slt r (List.mem_of_mem_take hr)
  rcases List.mem_or_eq_of_mem_set hc with hc | hc
  ·obtain ⟨x, hx, rfl⟩ := List.mem_map.1 hc
   have := hC x hx
   exact cl_size' hV hrm this.1 this.2
  ·rw [hc]; exact cl_size hV hrm hk
 rw [hln] at hD
 omega
theorem RedInv.high {m R : List (List Int)} {j : Nat} {C : List Int} {s : List Nat} (h : RedInv m m[0]!.length j R C s) (hV : Valid m) (hjn : j ≤ m[0]!.length) {i : Nat} (hir : i < R.length) (hi : C.length ≤ i) {k : Nat} (hk : k < m[0]!.length) : (R[i]![k]!.natAbs : Int) ≤ max 0 (sizeF (C.length + 1)) := by
 by_cases hz : R[i]![k]! = 0
 ·rw [hz]; simp; omega
 have hC : Below m[0]!.length C := h.below.mono hjn
 have hln : (s.take C.length).length = C.length := by rw [List.length_take, h.slen]; have := h.tle; omega
 have hm := comb_minor (h.comb i hir) hC hln.symm h.det (fun t ht => h.zero i hir t ht (by omega)) hk hz
 have hC' : Below m[0]!.length (C ++ [(k : Int)]) := hC.snoc (by omega) (by omega)
 have hcl : (C ++ [(k : Int)]).length = C.length + 1 := by simp
 have hsm := prim_small (x := R[i]!) (n := m[0]!.length) (d := D (s.take C.length ++ [s[i]!]) ((C ++ [(k : Int)]).map (cl m))) (p := R[i]![k]!) (W := fun k' => D (s.take C.length ++ [s[i]!]) (((C ++ [(k : Int)]).map (cl m)).set C.length (cl m k'))) (h.wide i hir) (h.prim i hir) hm hz (fun k' hk' => by
  rw [comb_cram (h.comb i hir) hC' hk', sum_one (f := C.length) (C ++ [(k : Int)]).length (by omega) fun u hu hui => by
   rw [snoc_at (by omega), h.zero i hir u (by omega) (by omega), Int.mul_zero]]
  rw [snoc_end, Int.toNat_natCast]
  exact Int.mul_comm ..) hk
 have hln2 : (s.take C.length ++ [s[i]!]).length = C.length + 1 := by rw [List.length_append, hln]; rfl
 have hD := D_size (s.take C.length ++ [s[i]!]) (((C ++ [(k : Int)]).map (cl m)).set C.length (cl m k)) (by rw [List.length_set, List.length_map, hln2, hcl]) fun r hr c hc => by
  have hrm : r < m.length := by
   rcases List.mem_append.1 hr with hr | hr
   ·exact h.slt r (List.mem_of_mem_take hr)
   ·simp only [List.mem_singleton] at hr
    rw [hr]; exact h.slt _ (mem_at (by rw [h.slen, ← h.len]; exact hir))
  rcases List.mem_or_eq_of_mem_set hc with hc | hc
  ·obtain ⟨x, hx, rfl⟩ := List.mem_map.1 hc
   have := hC' x hx
   exact cl_size' hV hrm this.1 this.2
  ·rw [hc]; exact cl_size hV hrm hk
 rw [hln2] at hD
 omega
theorem red_cols {m : List (List Int)} (hV : Valid m) : (redF m).2 = (leadF m).2 := by
 obtain ⟨s, h⟩ := red_go hV m[0]!.length (Nat.le_refl _)
 exact h.cols
theorem red_rank {m : List (List Int)} (hV : Valid m) : (redF m).1.length = rkF m := by
 obtain ⟨s, h⟩ := red_go hV m[0]!.length (Nat.le_refl _)
 have h1 := h.cols
 have h2 := (lead_ok m m[0]!.length).same
 have h3 := h.tle
 have h4 := h.len
 simp only [redF, List.length_take]
 unfold rkF leadF
 rw [h2, ← h1]; omega
end Go.AM
