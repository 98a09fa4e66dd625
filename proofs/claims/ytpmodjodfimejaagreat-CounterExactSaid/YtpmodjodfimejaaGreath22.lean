/- HM HO HN HQ KT KU FK KX KY -/
import Derived.Test.YtpmodjodfimejaaGreath8
import Derived.Test.YtpmodjodfimejaaGreath20
import Derived.Test.YtpmodjodfimejaaGreath9
import Derived.Test.YtpmodjodfimejaaGreath21
namespace Go.AM
open Go Go.Proofs Go.RowKit
section
variable {ns np : Nat} {r : RD}
end
set_option maxRecDepth 100000
theorem con_dFew (l : List Int) : Con Tryz.prog 14 [vs 0 l] [] fun r _ => r = vb (decide ((l.length : Int) <= 400)) := by
 refine Con.intro Tryz.func14 rfl Tryz.ntmps14 Tryz.results14 (by kernel_rfl) (by simp) 0 (by simp) ?_
 simp only [go_sem]
theorem deck_dk {l : List Int} (h : (l.length : Int) <= 400) : Dk l (0, 11400714819323198485) := ⟨Nat.zero_le _, by omega⟩
section
variable {ns np x0 : Nat} {rules : List RD} {v0 M v : List Int}
end
def sB : ByteArray := ⟨#[115]⟩
theorem DealtG.few1000 {k : Int} {ns np nl : Nat} {ra : List Int} {lv ag : Int} {rules : List RD} {st : CV} (h : DealtG k ns np nl ra lv ag rules st) : (dealtG k ns np nl ra lv ag rules st).states.length + (dealtG k ns np nl ra lv ag rules st).places.length + (dealtG k ns np nl ra lv ag rules st).letters.length + (dealtG k ns np nl ra lv ag rules st).rules.length <= 20 := by
 have h2 := h.few
 have h3 := h.num.states
 have h4 := h.num.few
 have l1 : (dealtG k ns np nl ra lv ag rules st).states.length = ns := nmL_len _ _
 have l2 : (dealtG k ns np nl ra lv ag rules st).places.length = np := nmL_len _ _
 have l3 : (dealtG k ns np nl ra lv ag rules st).letters.length = nl := nmL_len _ _
 have l4 : (dealtG k ns np nl ra lv ag rules st).rules.length = rules.length := rfl
 omega
theorem con_dPick (l : List Int) (s : DS) (xs : List ByteArray) (h : Dk l s) (h0 : 0 < xs.length) (h1 : xs.length <= 1000000) : Con Tryz.prog 41 [.pb 0 0, vss xs] [deckA l s]
  fun r b => r = vStr xs[(nextV l s xs.length).toNat]! /\ b = [deckA l (nextS l s xs.length)] := by
 refine Con.intro Tryz.func41 rfl Tryz.ntmps41 Tryz.results41 (by kernel_rfl) (by simp) 1 (by simp) ?_
 have hn := nextV_lt (l := l) (s := s) (n := xs.length) (by omega)
 simp only [go_sem, vss]
 refine CallU.boxes (i := 0) (is := []) (bx0 := [deckA l s]) (con_dNext l s xs.length h) (by simp only [go_sem]) (by simp only [go_sem]) (by simp only [go_sem]) (by simp only [go_sem]) (by simp only [go_sem]) ?_
 rintro r b ⟨rfl, rfl⟩
 obtain ⟨j, ej⟩ : ∃ j : Nat, nextV l s xs.length = j := ⟨(nextV l s xs.length).toNat, by omega⟩
 have hj : j < xs.length := by omega
 have hg : (xs.map vStr)[j]? = some (vStr xs[j]!) := by rw [List.getElem?_map, List.getElem?_eq_getElem hj, getElem!_pos xs j hj]; rfl
 simp only [go_sem] at hg
 simp only [go_sem, ej, hj, hg, Int.toNat_natCast]
def ordL (a b : Int) : Int := if a < b then -1 else if b < a then 1 else 0
def lexI : List Int -> List Int -> Int
 | x :: xs, y :: ys => if x = y then lexI xs ys else ordL x y
 | _, _ => 0
def cmpI (a b : List Int) : Int := if a.length = b.length then lexI a b else ordL a.length b.length
theorem ord_zero {a b : Int} : ordL a b = 0 ↔ a = b := by unfold ordL; split <;> (try split) <;> omega
theorem lex_zero : ∀ {a b : List Int}, a.length = b.length -> (lexI a b = 0 ↔ a = b)
 | [], [], _ => by simp [lexI]
 | x :: xs, y :: ys, h => by
  unfold lexI
  have hl : xs.length = ys.length := by simpa using h
  split
  ·rename_i e; rw [lex_zero hl, e]; simp
  ·rename_i e; rw [ord_zero]; simp [e]
 | [], _ :: _, h => by simp at h
 | _ :: _, [], h => by simp at h
theorem cmp_zero {a b : List Int} : cmpI a b = 0 ↔ a = b := by
 unfold cmpI
 split
 ·rename_i h; exact lex_zero h
 ·rename_i h
  rw [ord_zero]
  exact ⟨fun e => by omega, fun e => by rw [e]⟩
theorem lex_drop {a b : List Int} (hl : a.length = b.length) : ∀ i, i <= a.length -> (∀ j, j < i -> a[j]! = b[j]!) -> lexI a b = lexI (a.drop i) (b.drop i)
 | 0, _, _ => rfl
 | i + 1, hi, h => by
  rw [lex_drop hl i (by omega) fun j hj => h j (by omega)]
  have h1 : i < a.length := by omega
  have h2 : i < b.length := by omega
  have e := h i (by omega)
  rw [getElem!_pos a i h1, getElem!_pos b i h2] at e
  rw [List.drop_eq_getElem_cons h1, List.drop_eq_getElem_cons h2, lexI, if_pos e]
theorem lex_stop {a b : List Int} (hl : a.length = b.length) {i : Nat} (hi : i < a.length) (h : ∀ j, j < i -> a[j]! = b[j]!) (hn : a[i]! ≠ b[i]!) : lexI a b = ordL a[i]! b[i]! := by
 have h2 : i < b.length := by omega
 rw [lex_drop hl i (by omega) h]
 rw [getElem!_pos a i hi, getElem!_pos b i h2] at *
 rw [List.drop_eq_getElem_cons hi, List.drop_eq_getElem_cons h2, lexI, if_neg hn]
theorem lex_same {a b : List Int} (hl : a.length = b.length) (h : ∀ j, j < a.length -> a[j]! = b[j]!) : lexI a b = 0 := by
 rw [lex_drop hl a.length (Nat.le_refl _) h, List.drop_eq_nil_of_le (Nat.le_refl _)]
 unfold lexI; rfl
theorem con_rorder (a b : Int) : Con Tryz.prog 148 [vi a, vi b] [] fun r _ => r = vi (ordL a b) := by
 refine Con.intro Tryz.func148 rfl Tryz.ntmps148 Tryz.results148 (by kernel_rfl) (by simp) 0 (by simp) ?_
 unfold ordL
 by_cases h1 : a < b
 ·simp only [go_sem, h1, if_true]
 ·by_cases h2 : b < a
  ·simp only [go_sem, h1, h2, if_true, if_false]
  ·simp only [go_sem, h1, h2, if_true, if_false]
theorem con_rsameV (a b : CV) (ha : a.Ok) (hb : b.Ok) : Con Tryz.prog 36 [vV a, vV b] [] fun r _ => r = vb (cmpV a b == 0) := by
 have hc := con_rcompare _ a b (Nat.le_refl _) ha hb
 rw [vV_eq, vV_eq] at hc ⊢
 refine Con.intro Tryz.func36 rfl Tryz.ntmps36 Tryz.results36 (by kernel_rfl) (by simp) 0 (by simp) ?_
 simp only [go_sem]
 refine CallU.free hc (by simp only [go_sem]) (by simp only [go_sem]) ?_
 rintro r bx rfl
 simp only [go_sem]
end Go.AM
