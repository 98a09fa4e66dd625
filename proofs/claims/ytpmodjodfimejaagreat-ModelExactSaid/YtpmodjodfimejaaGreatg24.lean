/- QC -/
import Derived.Test.YtpmodjodfimejaaGreatg21
import Derived.Test.YtpmodjodfimejaaGreatg23
namespace Go.AM
open Go Go.Proofs Go.RowKit
set_option maxRecDepth 100000
set_option maxHeartbeats 8000000
theorem con_rcompareB (a b : List Int) (ha : a.length <= 9223372036854775806) : Con Tryz.prog 106 [vs 0 a, vs 0 b] [] fun r _ => r = vi (cmpI a b) := by
 refine Con.intro Tryz.func106 rfl Tryz.ntmps106 Tryz.results106 (by kernel_rfl) (by simp) 0 (by simp) ?_
 by_cases hl : a.length = b.length
 case neg =>
  have hl' : ((a.length : Int) != (b.length : Int)) = true := bne_iff_ne.2 (by omega)
  have e : cmpI a b = ordL a.length b.length := by unfold cmpI; rw [if_neg hl]
  simp only [go_sem, hl', List.length_map]
  refine CallU.free (con_rorder a.length b.length) (by simp only [go_sem]) (by simp only [go_sem]) ?_
  rintro x bx rfl
  simp only [go_sem, e]
 have e : cmpI a b = lexI a b := by unfold cmpI; rw [if_pos hl]
 have hl' : ((a.length : Int) != (b.length : Int)) = false := by rw [hl]; simp
 rw [e]
 simp only [go_sem, hl', List.length_map]
 refine LoopK.intro (fun i : Nat => ⟨40, [(0, vs 0 a), (1, vs 0 b), (5, vi i)], []⟩)
  (fun i => a.length - i) (fun i => i <= a.length /\ ∀ j, j < i -> a[j]! = b[j]!) 0 ⟨by omega, fun j hj => by omega⟩ ?_ ?_
 ·simp only [go_sem]
  all_goals exact leV_refl _
 rintro i ⟨hi, hb⟩
 by_cases h : i < a.length
 ·have h2 : i < b.length := by omega
  have g1 := getv h
  have g2 := getv h2
  have hw : IntKind.i64.wrap (i + 1) = i + 1 := wrap_in (by omega) (by omega)
  simp only [go_sem, h]
  refine DrawK.walk 9 mixed (by kernel_rfl) ?_
  by_cases hp : a[i]! = b[i]!
  ·have hp' : (a[i]! != b[i]!) = false := by rw [hp]; simp
   simp only [go_sem, h, h2, g1, g2, hp', hw]
   refine roundK.intro (i + 1) ⟨by omega, fun j hj => ?_⟩ (by omega) ?_
   ·by_cases hji : j = i
    ·subst hji; exact hp
    ·exact hb j (by omega)
   ·simp only [go_sem]
  ·have hp' : (a[i]! != b[i]!) = true := bne_iff_ne.2 hp
   have e2 := lex_stop hl h hb hp
   simp only [go_sem, h, h2, g1, g2, hp']
   refine DrawK.walk 10 mixed (by kernel_rfl) ?_
   simp only [go_sem, h, h2, g1, g2]
   refine CallY.mk (con_rorder a[i]! b[i]!) (by simp only [go_sem]) (by simp only [go_sem]) (.inl (by simp only [go_sem])) ?_
   simp only [go_sem, e2]
 ·have e2 := lex_same hl fun j hj => hb j (by omega)
  simp only [go_sem, h, e2]
theorem con_rsameB (a b : List Int) (ha : a.length <= 9223372036854775806) : Con Tryz.prog 51 [vs 0 a, vs 0 b] [] fun r _ => r = vb (a == b) := by
 refine Con.intro Tryz.func51 rfl Tryz.ntmps51 Tryz.results51 (by kernel_rfl) (by simp) 0 (by simp) ?_
 simp only [go_sem]
 refine CallU.free (con_rcompareB a b ha) (by simp only [go_sem]) (by simp only [go_sem]) ?_
 rintro x bx rfl
 have e : (cmpI a b == 0) = (a == b) := by rw [Bool.eq_iff_iff, beq_iff_eq, beq_iff_eq]; exact cmp_zero
 simp only [go_sem, e]
theorem con_rtexts (a b : List ByteArray) (hl : a.length <= 9223372036854775806) : Con Tryz.prog 84 [vss a, vss b] [] fun r _ => r = vb (sameSs a b) := by
 refine Con.intro Tryz.func84 rfl Tryz.ntmps84 Tryz.results84 (by kernel_rfl) (by simp) 0 (by simp) ?_
 unfold sameSs
 by_cases he : a.length = b.length
 case neg =>
  have he' : ((a.length : Int) != (b.length : Int)) = true := bne_iff_ne.2 (by omega)
  rw [decide_eq_false he, Bool.false_and]
  simp only [go_sem, vss, he']
 rw [decide_eq_true he, Bool.true_and]
 have he' : ((a.length : Int) != (b.length : Int)) = false := by rw [he]; simp
 simp only [go_sem, vss, he']
 refine LoopK.intro (fun i : Nat => ⟨26, [(0, vss a), (1, vss b), (5, vi i)], []⟩)
  (fun i => a.length - i) (fun i => i <= a.length /\ ∀ j, j < i -> (a[j]!.toList == b[j]!.toList) = true) 0 ⟨by omega, fun j hj => by omega⟩ ?_ ?_
 ·simp only [go_sem, vss]
  all_goals exact leV_refl _
 rintro i ⟨hi, hb⟩
 by_cases h : i < a.length
 ·have h2 : i < b.length := by omega
  have g1 := getStr h
  have g2 := getStr h2
  have hw : IntKind.i64.wrap (i + 1) = i + 1 := wrap_in (by omega) (by omega)
  simp only [go_sem, vss, h]
  refine DrawK.walk 9 mixed (by kernel_rfl) ?_
  simp only [go_sem, h, h2, g1, g2]
  cases hq : (a[i]!.toList == b[i]!.toList)
  ·rw [all_bad' (p := fun i => a[i]!.toList == b[i]!.toList) h hq]
   simp only [go_sem, Bool.not_false]
  ·simp only [go_sem, Bool.not_true, hw]
   refine roundK.intro (i + 1) ⟨by omega, fun j hj => ?_⟩ (by omega) ?_
   ·by_cases e : j = i
    ·rw [e, hq]
    ·exact hb j (by omega)
   simp only [go_sem]
 ·have hall := all_ok' (n := a.length) (p := fun i => a[i]!.toList == b[i]!.toList) fun j hj => hb j (by omega)
  rw [hall]
  simp only [go_sem, vss, h]
theorem con_rsameAllM (M : List (List Int)) (hl : M.length <= 1000000) (hr : ∀ r ∈ M, r.length <= 1000000) : Con Tryz.prog 30 [.sl 0 1 (M.map (vs 0)), .sl 0 1 (M.map (vs 0))] [] fun r _ => r = vb true := by
 refine Con.intro Tryz.func30 rfl Tryz.ntmps30 Tryz.results30 (by kernel_rfl) (by simp) 0 (by simp) ?_
 have b1 : ((M.length : Int) != M.length) = false := by simp
 simp only [go_sem, List.length_map, b1]
 refine LoopK.intro (fun i : Nat => ⟨27, [(0, .sl 0 1 (M.map (vs 0))), (1, .sl 0 1 (M.map (vs 0))), (5, vi i)], []⟩)
  (fun i => M.length - i) (fun i => i <= M.length) 0 (by omega) ?_ ?_
 ·simp only [go_sem]
 rintro i hi
 by_cases hh : i < M.length
 ·have hw : IntKind.i64.wrap (i + 1) = i + 1 := wrap_in (by omega) (by omega)
  have hc := con_rsameB M[i]! M[i]! (by have := hr _ (mem_bangI hh); omega)
  have hg : (M.map (vs 0))[i]? = some (vs 0 M[i]!) := by rw [List.getElem?_map, List.getElem?_eq_getElem hh, getElem!_pos M i hh]; rfl
  simp only [go_sem] at hg
  simp only [go_sem, hh, List.length_map]
  refine DrawK.walk 10 mixed (by kernel_rfl) ?_
  simp only [go_sem, hg, hh, List.length_map]
  refine CallY.mk hc (by simp only [go_sem]) (by simp only [go_sem]) (.inl (by simp only [go_sem])) ?_
  simp only [go_sem, hw, beq_self_eq_true]
  exact roundK.intro (i + 1) (by omega) (by omega) (by simp only [go_sem])
 ·have ei : i = M.length := by omega
  subst ei
  simp only [go_sem, hh, List.length_map]
theorem con_rrules (a b : RD) (hl : a.Len) : Con Tryz.prog 83 [vRule a, vRule b] [] fun x _ => x = vb (sameB a b) := by
 refine Con.intro Tryz.func83 rfl Tryz.ntmps83 Tryz.results83 (by kernel_rfl) (by simp) 0 (by simp) ?_
 dsimp only [List.append]
 unfold sameB
 by_cases he : a.takes.length = b.takes.length
 case neg =>
  have he' : ((a.takes.length : Int) != (b.takes.length : Int)) = true := bne_iff_ne.2 (by omega)
  simp only [go_sem, he', eqA_len he, Bool.and_false, Bool.false_and, List.length_map]
 have he' : ((a.takes.length : Int) != (b.takes.length : Int)) = false := by rw [he]; simp
 have htl := hl.takes
 simp only [go_sem, he', List.length_map]
 refine LoopK.intro (fun i : Nat => ⟨120, [(2, .pb 0 0), (3, .pb 1 0), (5, vi i)], [[vStr a.name, vi a.src, vi a.dst, vs 0 a.need, vs 0 a.give, vs 0 a.move, vi a.channel, vi a.act, vi a.letter, vs 0 a.path, vs 0 a.next, .sl 0 3 (a.takes.map vTake), vs 0 a.makes, vi a.second], [vStr b.name, vi b.src, vi b.dst, vs 0 b.need, vs 0 b.give, vs 0 b.move, vi b.channel, vi b.act, vi b.letter, vs 0 b.path, vs 0 b.next, .sl 0 3 (b.takes.map vTake), vs 0 b.makes, vi b.second]]⟩)
  (fun i => a.takes.length - i) (fun i => i <= a.takes.length /\ ∀ j, j < i -> a.takes[j]! = b.takes[j]!) 0 ⟨by omega, fun j hj => by omega⟩ ?_ ?_
 ·simp only [go_sem]
  all_goals exact leB_self _
 rintro i ⟨hi, hb⟩
 by_cases h : i < a.takes.length
 ·have h2 : i < b.takes.length := by omega
  have g1 := getTake h
  have g2 := getTake h2
  have hw : IntKind.i64.wrap (i + 1) = i + 1 := wrap_in (by omega) (by omega)
  simp only [go_sem, h, List.length_map]
  refine DrawK.walk 11 mixed (by kernel_rfl) ?_
  by_cases hp : a.takes[i]! = b.takes[i]!
  ·simp only [go_sem, h, h2, g1, g2, hp, hw, beq_self_eq_true, Bool.and_self, Bool.not_true, List.length_map]
   refine roundK.intro (i + 1) ⟨by omega, fun j hj => ?_⟩ (by omega) ?_
   ·by_cases hji : j = i
    ·subst hji; exact hp
    ·exact hb j (by omega)
   ·simp only [go_sem]
  ·have hp' : (a.takes[i]!.fst == b.takes[i]!.fst && (a.takes[i]!.snd.fst == b.takes[i]!.snd.fst && a.takes[i]!.snd.snd == b.takes[i]!.snd.snd)) = false := by
    rw [Bool.eq_false_iff]
    intro hh
    simp only [Bool.and_eq_true, beq_iff_eq] at hh
    exact hp (Prod.ext hh.1 (Prod.ext hh.2.1 hh.2.2))
   simp only [go_sem, h, h2, g1, g2, hp', Bool.not_false, List.length_map, eqA_stop hp, Bool.and_false, Bool.false_and]
 have ht : (a.takes == b.takes) = true := eqA_all he (fun j hj => hb j (by omega))
 simp only [go_sem, h, ht, Bool.and_true, List.length_map]
 cases h0 : (a.name.toList == b.name.toList)
 case false =>
  simp only [go_sem, Bool.false_and]
 simp only [go_sem]
 cases h1 : (a.src == b.src)
 case false =>
  simp only [go_sem, Bool.false_and, Bool.and_false]
 simp only [go_sem]
 cases h2 : (a.dst == b.dst)
 case false =>
  simp only [go_sem, Bool.false_and, Bool.and_false]
 simp only [go_sem]
 refine CallU.free (con_rsameB a.need b.need hl.need) (by simp only [go_sem]) (by simp only [go_sem]) ?_
 rintro r bx rfl
 cases h3 : (a.need == b.need)
 case false =>
  simp only [go_sem, Bool.false_and, Bool.and_false]
 simp only [go_sem]
 refine CallU.free (con_rsameB a.give b.give hl.give) (by simp only [go_sem]) (by simp only [go_sem]) ?_
 rintro r bx rfl
 cases h4 : (a.give == b.give)
 case false =>
  simp only [go_sem, Bool.false_and, Bool.and_false]
 simp only [go_sem]
 refine CallU.free (con_rsameB a.move b.move hl.move) (by simp only [go_sem]) (by simp only [go_sem]) ?_
 rintro r bx rfl
 cases h5 : (a.move == b.move)
 case false =>
  simp only [go_sem, Bool.false_and, Bool.and_false]
 simp only [go_sem]
 cases h6 : (a.channel == b.channel)
 case false =>
  simp only [go_sem, Bool.false_and, Bool.and_false]
 simp only [go_sem]
 cases h7 : (a.act == b.act)
 case false =>
  simp only [go_sem, Bool.false_and, Bool.and_false]
 simp only [go_sem]
 cases h8 : (a.letter == b.letter)
 case false =>
  simp only [go_sem, Bool.false_and, Bool.and_false]
 simp only [go_sem]
 refine CallU.free (con_rsameB a.path b.path hl.path) (by simp only [go_sem]) (by simp only [go_sem]) ?_
 rintro r bx rfl
 cases h9 : (a.path == b.path)
 case false =>
  simp only [go_sem, Bool.false_and, Bool.and_false]
 simp only [go_sem]
 refine CallU.free (con_rsameB a.next b.next hl.next) (by simp only [go_sem]) (by simp only [go_sem]) ?_
 rintro r bx rfl
 cases h10 : (a.next == b.next)
 case false =>
  simp only [go_sem, Bool.false_and, Bool.and_false]
 simp only [go_sem]
 refine CallU.free (con_rsameB a.makes b.makes hl.makes) (by simp only [go_sem]) (by simp only [go_sem]) ?_
 rintro r bx rfl
 cases h11 : (a.makes == b.makes)
 case false =>
  simp only [go_sem, Bool.false_and, Bool.and_false]
 simp only [go_sem, Bool.true_and]
end Go.AM
