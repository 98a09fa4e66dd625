/- HG HP HM HO HN HQ KT KU FK KX KY -/
import Derived.Test.YtpmodjodfimejaaGreatg19
import Derived.Test.YtpmodjodfimejaaGreatg20
import Derived.Test.YtpmodjodfimejaaGreatg18
import Derived.Test.YtpmodjodfimejaaGreatg21
import Derived.Test.YtpmodjodfimejaaGreatg22
namespace Go.AM
open Go Go.Proofs Go.RowKit
def noneA (e : Int) : AV := .tup [.ag [vi 0, .nil], vi e]
attribute [go_sem] noneA
section
variable {ns np : Nat} {r : RD}
end
set_option maxRecDepth 100000
theorem con_dFew (l : List Int) : Con Tryz.prog 14 [vs 0 l] [] fun r _ => r = vb (decide ((l.length : Int) <= 400)) := by
 refine Con.intro Tryz.func14 rfl Tryz.ntmps14 Tryz.results14 (by kernel_rfl) (by simp) 0 (by simp) ?_
 simp only [go_sem]
theorem deck_dk {l : List Int} (h : (l.length : Int) <= 400) : Dk l (0, 11400714819323198485) := ⟨Nat.zero_le _, by omega⟩
section
variable {ns np x0 : Nat} {rules : List RD} {v0 M v : List Int}
end
def sB : ByteArray := ⟨#[115]⟩
theorem DealtG.few1000 {k : Int} {ns np nl : Nat} {ra : List Int} {lv ag : Int} {rules : List RD} {st : CV} (h : DealtG k ns np nl ra lv ag rules st) : (dealtG k ns np nl ra lv ag rules st).states.length + (dealtG k ns np nl ra lv ag rules st).places.length + (dealtG k ns np nl ra lv ag rules st).letters.length + (dealtG k ns np nl ra lv ag rules st).rules.length <= 20 := by
 have h2 := h.few
 have h3 := h.num.states
 have h4 := h.num.few
 have l1 : (dealtG k ns np nl ra lv ag rules st).states.length = ns := nmL_len _ _
 have l2 : (dealtG k ns np nl ra lv ag rules st).places.length = np := nmL_len _ _
 have l3 : (dealtG k ns np nl ra lv ag rules st).letters.length = nl := nmL_len _ _
 have l4 : (dealtG k ns np nl ra lv ag rules st).rules.length = rules.length := rfl
 omega
theorem con_dPick (l : List Int) (s : DS) (xs : List ByteArray) (h : Dk l s) (h0 : 0 < xs.length) (h1 : xs.length <= 1000000) : Con Tryz.prog 41 [.pb 0 0, vss xs] [deckA l s]
  fun r b => r = vStr xs[(nextV l s xs.length).toNat]! /\ b = [deckA l (nextS l s xs.length)] := by
 refine Con.intro Tryz.func41 rfl Tryz.ntmps41 Tryz.results41 (by kernel_rfl) (by simp) 1 (by simp) ?_
 have hn := nextV_lt (l := l) (s := s) (n := xs.length) (by omega)
 simp only [go_sem, vss]
 refine CallU.boxes (i := 0) (is := []) (bx0 := [deckA l s]) (con_dNext l s xs.length h) (by simp only [go_sem]) (by simp only [go_sem]) (by simp only [go_sem]) (by simp only [go_sem]) (by simp only [go_sem]) ?_
 rintro r b ⟨rfl, rfl⟩
 obtain ⟨j, ej⟩ : ∃ j : Nat, nextV l s xs.length = j := ⟨(nextV l s xs.length).toNat, by omega⟩
 have hj : j < xs.length := by omega
 have hg : (xs.map vStr)[j]? = some (vStr xs[j]!) := by rw [List.getElem?_map, List.getElem?_eq_getElem hj, getElem!_pos xs j hj]; rfl
 simp only [go_sem] at hg
 simp only [go_sem, ej, hj, hg, Int.toNat_natCast]
set_option maxHeartbeats 8000000
def ordL (a b : Int) : Int := if a < b then -1 else if b < a then 1 else 0
def lexI : List Int -> List Int -> Int
 | x :: xs, y :: ys => if x = y then lexI xs ys else ordL x y
 | _, _ => 0
def cmpI (a b : List Int) : Int := if a.length = b.length then lexI a b else ordL a.length b.length
theorem ord_zero {a b : Int} : ordL a b = 0 ↔ a = b := by unfold ordL; split <;> (try split) <;> omega
theorem lex_zero : ∀ {a b : List Int}, a.length = b.length -> (lexI a b = 0 ↔ a = b)
 | [], [], _ => by simp [lexI]
 | x :: xs, y :: ys, h => by
  unfold lexI
  have hl : xs.length = ys.length := by simpa using h
  split
  ·rename_i e; rw [lex_zero hl, e]; simp
  ·rename_i e; rw [ord_zero]; simp [e]
 | [], _ :: _, h => by simp at h
 | _ :: _, [], h => by simp at h
theorem cmp_zero {a b : List Int} : cmpI a b = 0 ↔ a = b := by
 unfold cmpI
 split
 ·rename_i h; exact lex_zero h
 ·rename_i h
  rw [ord_zero]
  exact ⟨fun e => by omega, fun e => by rw [e]⟩
theorem lex_drop {a b : List Int} (hl : a.length = b.length) : ∀ i, i <= a.length -> (∀ j, j < i -> a[j]! = b[j]!) -> lexI a b = lexI (a.drop i) (b.drop i)
 | 0, _, _ => rfl
 | i + 1, hi, h => by
  rw [lex_drop hl i (by omega) fun j hj => h j (by omega)]
  have h1 : i < a.length := by omega
  have h2 : i < b.length := by omega
  have e := h i (by omega)
  rw [getElem!_pos a i h1, getElem!_pos b i h2] at e
  rw [List.drop_eq_getElem_cons h1, List.drop_eq_getElem_cons h2, lexI, if_pos e]
theorem lex_stop {a b : List Int} (hl : a.length = b.length) {i : Nat} (hi : i < a.length) (h : ∀ j, j < i -> a[j]! = b[j]!) (hn : a[i]! ≠ b[i]!) : lexI a b = ordL a[i]! b[i]! := by
 have h2 : i < b.length := by omega
 rw [lex_drop hl i (by omega) h]
 rw [getElem!_pos a i hi, getElem!_pos b i h2] at *
 rw [List.drop_eq_getElem_cons hi, List.drop_eq_getElem_cons h2, lexI, if_neg hn]
theorem lex_same {a b : List Int} (hl : a.length = b.length) (h : ∀ j, j < a.length -> a[j]! = b[j]!) : lexI a b = 0 := by
 rw [lex_drop hl a.length (Nat.le_refl _) h, List.drop_eq_nil_of_le (Nat.le_refl _)]
 unfold lexI; rfl
theorem con_rorder (a b : Int) : Con Tryz.prog 148 [vi a, vi b] [] fun r _ => r = vi (ordL a b) := by
 refine Con.intro Tryz.func148 rfl Tryz.ntmps148 Tryz.results148 (by kernel_rfl) (by simp) 0 (by simp) ?_
 unfold ordL
 by_cases h1 : a < b
 ·simp only [go_sem, h1, if_true]
 ·by_cases h2 : b < a
  ·simp only [go_sem, h1, h2, if_true, if_false]
  ·simp only [go_sem, h1, h2, if_true, if_false]
theorem con_rcompareI (a b : List Int) (ha : a.length <= 1000000) : Con Tryz.prog 106 [vs 0 a, vs 0 b] [] fun r _ => r = vi (cmpI a b) := by
 refine Con.intro Tryz.func106 rfl Tryz.ntmps106 Tryz.results106 (by kernel_rfl) (by simp) 0 (by simp) ?_
 by_cases hl : a.length = b.length
 case neg =>
  have hl' : ((a.length : Int) != (b.length : Int)) = true := bne_iff_ne.2 (by omega)
  have e : cmpI a b = ordL a.length b.length := by unfold cmpI; rw [if_neg hl]
  simp only [go_sem, hl', List.length_map]
  refine CallU.free (con_rorder a.length b.length) (by simp only [go_sem]) (by simp only [go_sem]) ?_
  rintro x bx rfl
  simp only [go_sem, e]
 have e : cmpI a b = lexI a b := by unfold cmpI; rw [if_pos hl]
 have hl' : ((a.length : Int) != (b.length : Int)) = false := by rw [hl]; simp
 rw [e]
 simp only [go_sem, hl', List.length_map]
 refine LoopK.intro (fun i : Nat => ⟨40, [(0, vs 0 a), (1, vs 0 b), (5, vi i)], []⟩)
  (fun i => a.length - i) (fun i => i <= a.length /\ ∀ j, j < i -> a[j]! = b[j]!) 0 ⟨by omega, fun j hj => by omega⟩ ?_ ?_
 ·simp only [go_sem]
  all_goals exact leV_refl _
 rintro i ⟨hi, hb⟩
 by_cases h : i < a.length
 ·have h2 : i < b.length := by omega
  have g1 := getv h
  have g2 := getv h2
  have hw : IntKind.i64.wrap (i + 1) = i + 1 := wrap_in (by omega) (by omega)
  simp only [go_sem, h]
  refine DrawK.walk 9 mixed (by kernel_rfl) ?_
  by_cases hp : a[i]! = b[i]!
  ·have hp' : (a[i]! != b[i]!) = false := by rw [hp]; simp
   simp only [go_sem, h, h2, g1, g2, hp', hw]
   refine roundK.intro (i + 1) ⟨by omega, fun j hj => ?_⟩ (by omega) ?_
   ·by_cases hji : j = i
    ·subst hji; exact hp
    ·exact hb j (by omega)
   ·simp only [go_sem]
  ·have hp' : (a[i]! != b[i]!) = true := bne_iff_ne.2 hp
   have e2 := lex_stop hl h hb hp
   simp only [go_sem, h, h2, g1, g2, hp']
   refine DrawK.walk 10 mixed (by kernel_rfl) ?_
   simp only [go_sem, h, h2, g1, g2]
   refine CallY.mk (con_rorder a[i]! b[i]!) (by simp only [go_sem]) (by simp only [go_sem]) (.inl (by simp only [go_sem])) ?_
   simp only [go_sem, e2]
 ·have e2 := lex_same hl fun j hj => hb j (by omega)
  simp only [go_sem, h, e2]
theorem con_rsameI (a b : List Int) (ha : a.length <= 1000000) : Con Tryz.prog 51 [vs 0 a, vs 0 b] [] fun r _ => r = vb (a == b) := by
 refine Con.intro Tryz.func51 rfl Tryz.ntmps51 Tryz.results51 (by kernel_rfl) (by simp) 0 (by simp) ?_
 simp only [go_sem]
 refine CallU.free (con_rcompareI a b ha) (by simp only [go_sem]) (by simp only [go_sem]) ?_
 rintro x bx rfl
 have e : (cmpI a b == 0) = (a == b) := by rw [Bool.eq_iff_iff, beq_iff_eq, beq_iff_eq]; exact cmp_zero
 simp only [go_sem, e]
theorem con_ltypesN : ∀ (N : Nat) (t : TD), SizeOf.sizeOf t <= N -> t.Ok -> Con Tryz.prog 27 [vT t, vT t] [] fun r _ => r = vb true := by
 intro N
 induction N with
 | zero => intro t hs; cases t; rw [TD.mk.sizeOf_spec] at hs; omega
 | succ N ih =>
  intro t hs ht
  have hpl := ht.plen
  have hS := con_rsameI t.ranks t.ranks ht.rlen
  rw [show (t.ranks == t.ranks) = true from beq_iff_eq.2 rfl] at hS
  have e1 := vT_eq t
  rw [e1]
  refine Con.intro Tryz.func27 rfl Tryz.ntmps27 Tryz.results27 (by kernel_rfl) (by simp) 2 (by simp) ?_
  have b1 : (t.kind != t.kind) = false := by simp
  have b2 : (t.size != t.size) = false := by simp
  have b3 : ((t.parts.length : Int) != t.parts.length) = false := by simp
  simp only [go_sem, b1, b2]
  refine CallU.free hS (by simp only [go_sem]) (by simp only [go_sem]) ?_
  rintro r bx rfl
  simp only [go_sem, List.length_map, b3]
  refine LoopK.intro (fun i : Nat => ⟨54, [(2, .pb 0 0), (3, .pb 1 0), (37, vi t.parts.length), (38, vi i)], [[vi t.kind, vi t.size, vs 0 t.ranks, .sl 0 4 (t.parts.map vT)], [vi t.kind, vi t.size, vs 0 t.ranks, .sl 0 4 (t.parts.map vT)]]⟩)
   (fun i => t.parts.length - i) (fun i => i <= t.parts.length) 0 (by omega) ?_ ?_
  ·simp only [go_sem]
  rintro i hi
  by_cases h : i < t.parts.length
  ·have hw : IntKind.i64.wrap (i + 1) = i + 1 := wrap_in (by omega) (by omega)
   have hx := mem_bangI h
   have hg := getvT h
   have hc := ih t.parts[i]! (by have := part_size hx; omega) (ht.part hx)
   rw [vT_eq] at hc
   simp only [go_sem, h]
   refine DrawK.walk 12 mixed (by kernel_rfl) ?_
   simp only [go_sem, hg, h, List.length_map]
   refine CallY.mk hc (by simp only [go_sem]) (by simp only [go_sem]) (.inl (by simp only [go_sem])) ?_
   simp only [go_sem, hw]
   exact roundK.intro (i + 1) (by omega) (by omega) (by simp only [go_sem])
  ·have ei : i = t.parts.length := by omega
   subst ei
   simp only [go_sem, h]
theorem con_ltypes (t : TD) (h : t.Ok) : Con Tryz.prog 27 [vT t, vT t] [] fun r _ => r = vb true := con_ltypesN _ t (Nat.le_refl _) h
theorem con_rsameV (a b : CV) (ha : a.Ok) (hb : b.Ok) : Con Tryz.prog 36 [vV a, vV b] [] fun r _ => r = vb (cmpV a b == 0) := by
 have hc := con_rcompare _ a b (Nat.le_refl _) ha hb
 rw [vV_eq, vV_eq] at hc ⊢
 refine Con.intro Tryz.func36 rfl Tryz.ntmps36 Tryz.results36 (by kernel_rfl) (by simp) 0 (by simp) ?_
 simp only [go_sem]
 refine CallU.free hc (by simp only [go_sem]) (by simp only [go_sem]) ?_
 rintro r bx rfl
 simp only [go_sem]
end Go.AM
