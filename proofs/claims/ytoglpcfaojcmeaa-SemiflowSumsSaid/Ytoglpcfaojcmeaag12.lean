/-
  Walks: the deck's tables of changes.
  Walks: a valid counter model is found valid.
  Walks: valid atoms, whether they hold, whether they are closed.
  Walks: whether an atom holds, and whether it is closed.
  Walks: Holds, Closed, Excludes.
  Plain laws: effects of sequences of rules of counter models (one place at a time): what a sequence needs, by how much it changes a vector, how often a cycle can be done.
  Plain laws: cycles of counter models: what they need, how often they can be done, where they lead.
  Walks: effects of sequences of rules (counter.Effect), finite vectors.
  Walks: the reference's comparison of lists of numbers.
  Plain laws: what Holds tells; the list of minimal semiflows.
  SemiflowHolds: the law's walk.
  SemiflowFinds: the law's walk.
  Walks: the reference's check of a matrix.
  Plain laws: what rules lead to is allowed, and within bounds.
  SemiflowKeeps: the law's walk.
  Plain laws: minimal semiflows of few rules are small; the order of rules does not matter.
  Tables of rows of numbers: how the machine's steps turn them.
  SemiflowSums: the law's walk.
  How arguments read: slices of elements of several cells, structs.
  From the contract of a law of one list of bytes to its row.
-/
import Derived.Test.Ytoglpcfaojcmeaag11
import Derived.Test.Ytoglpcfaojcmeaag9
import Derived.Test.Ytoglpcfaojcmeaag10
import Derived.Test.Ytoglpcfaojcmeaag8
import Derived.SizedLaws
import Derived.Test.YtoglpcfaojcmeaaRows
/-! ## MxH -/
namespace Go.AM
open Go Go.Proofs Go.RowKit
set_option maxRecDepth 100000
set_option maxHeartbeats 8000000
def mcS1 (l : List Int) (s : DS) : DS := nextS l s 7
def mcS2 (l : List Int) (s : DS) : DS := nextS l (mcS1 l s) 20
def mcV (l : List Int) (s : DS) : Int := if oneV l (mcS1 l s) 20 then ([16, -16] : List Int)[(nextV l (mcS2 l s) 2).toNat]! else nextV l s 7 - 3
def mcS (l : List Int) (s : DS) : DS := if oneV l (mcS1 l s) 20 then nextS l (mcS2 l s) 2 else mcS2 l s
theorem mcS_dk {l : List Int} {s : DS} (h : Dk l s) : Dk l (mcS l s) := by
 have h1 : Dk l (mcS1 l s) := nextS_dk h
 have h2 : Dk l (mcS2 l s) := nextS_dk h1
 unfold mcS; split
 ·exact nextS_dk h2
 ·exact h2
theorem mcV_low (l : List Int) (s : DS) : -16 ≤ mcV l s ∧ mcV l s ≤ 16 := by
 unfold mcV
 split
 ·have := nextV_lt (l := l) (s := mcS2 l s) (n := 2) (by omega)
  generalize nextV l (mcS2 l s) 2 = x at this
  have : x = 0 ∨ x = 1 := by omega
  rcases this with rfl | rfl <;> decide
 ·have := nextV_lt (l := l) (s := s) (n := 7) (by omega)
  omega
def mrS (l : List Int) (s : DS) : Nat → DS
 | 0 => s
 | n + 1 => mcS l (mrS l s n)
def mrV (l : List Int) (s : DS) : Nat → List Int
 | 0 => []
 | n + 1 => mrV l s n ++ [mcV l (mrS l s n)]
theorem mrS_dk {l : List Int} {s : DS} (h : Dk l s) : ∀ n, Dk l (mrS l s n)
 | 0 => h
 | n + 1 => mcS_dk (mrS_dk h n)
theorem mrV_len (l : List Int) (s : DS) : ∀ n, (mrV l s n).length = n
 | 0 => rfl
 | n + 1 => by rw [mrV, List.length_append, mrV_len l s n]; rfl
theorem mrV_low (l : List Int) (s : DS) : ∀ n, ∀ x ∈ mrV l s n, -16 ≤ x ∧ x ≤ 16
 | 0, x, hx => by cases hx
 | n + 1, x, hx => by
  rw [mrV, List.mem_append] at hx
  rcases hx with hx | hx
  ·exact mrV_low l s n x hx
  ·rw [List.mem_singleton] at hx; subst hx; exact mcV_low _ _
def mtS (l : List Int) (s : DS) (cols : Nat) : Nat → DS
 | 0 => s
 | n + 1 => mrS l (mtS l s cols n) cols
def mtV (l : List Int) (s : DS) (cols : Nat) : Nat → List (List Int)
 | 0 => []
 | n + 1 => mtV l s cols n ++ [mrV l (mtS l s cols n) cols]
theorem mtS_dk {l : List Int} {s : DS} {cols : Nat} (h : Dk l s) : ∀ n, Dk l (mtS l s cols n)
 | 0 => h
 | n + 1 => mrS_dk (mtS_dk h n) cols
theorem mtV_len (l : List Int) (s : DS) (cols : Nat) : ∀ n, (mtV l s cols n).length = n
 | 0 => rfl
 | n + 1 => by rw [mtV, List.length_append, mtV_len l s cols n]; rfl
theorem mtV_row (l : List Int) (s : DS) (cols : Nat) : ∀ n, ∀ r ∈ mtV l s cols n, r.length = cols ∧ ∀ x ∈ r, -16 ≤ x ∧ x ≤ 16
 | 0, r, hr => by cases hr
 | n + 1, r, hr => by
  rw [mtV, List.mem_append] at hr
  rcases hr with hr | hr
  ·exact mtV_row l s cols n r hr
  ·rw [List.mem_singleton] at hr; subst hr; exact ⟨mrV_len _ _ _, mrV_low _ _ _⟩
theorem mtV_change {l : List Int} {s : DS} {cols n : Nat} (h1 : 1 ≤ n) (h2 : n ≤ 6) (h3 : 1 ≤ cols) (h4 : cols ≤ 12) : ChangeM (mtV l s cols n) := by
 have hl := mtV_len l s cols n
 have h0 := (mtV_row l s cols n _ (mem_bang (show 0 < (mtV l s cols n).length by omega))).1
 exact ⟨⟨by omega, by omega, by omega, by omega, by omega, fun r hr => by rw [h0]; exact mtV_row l s cols n r hr⟩, by omega⟩
theorem con_dMatrix (l : List Int) (s : DS) (n cols : Nat) (h : Dk l s) (hn : n ≤ 1000) (hc : cols ≤ 1000) : Con Try.prog 13 [.pb 0 0, vi n, vi cols] [deckA l s]
  fun r b => r = vm 2 (mtV l s cols n) ∧ b = [deckA l (mtS l s cols n)] := by
 refine Con.intro Try.func13 rfl Try.ntmps13 Try.results13 (by kernel_rfl) (by simp) 1 (by simp) ?_
 simp only [go_sem]
 refine LoopK.intro (fun i : Nat => ⟨41, [(0, .pb 0 0), (1, vi n), (2, vi cols), (7, .sl 2560 1 ((mtV l s cols i).map (vs 0))), (8, vi i)], [deckA l (mtS l s cols i)]⟩)
  (fun i => n - i) (fun i => i ≤ n) 0 (by omega) ?_ ?_
 ·simp only [go_sem, mtV, mtS, List.map_nil]
 intro i hi
 have hil := mtV_len l s cols i
 by_cases h1 : i < n
 case neg =>
  have e : i = n := by omega
  subst e
  simp only [go_sem, h1]
 have hw : IntKind.i64.wrap (i + 1) = i + 1 := wrap_in (by omega) (by omega)
 have hd := mtS_dk (cols := cols) h i
 have hnV : mtV l s cols (i + 1) = mtV l s cols i ++ [mrV l (mtS l s cols i) cols] := rfl
 have hnS : mtS l s cols (i + 1) = mrS l (mtS l s cols i) cols := rfl
 generalize mtS l s cols i = S at hd hnV hnS
 simp only [go_sem, h1]
 refine LoopK.intro (fun k : Nat => ⟨41, [(0, .pb 0 0), (1, vi n), (2, vi cols), (7, .sl 2560 1 ((mtV l s cols i).map (vs 0))), (8, vi i), (9, vs 2304 (mrV l S k)), (10, vi k)], [deckA l (mrS l S k)]⟩)
  (fun k => cols - k) (fun k => k ≤ cols) 0 (by omega) ?_ ?_
 ·simp only [go_sem, mrV, mrS, List.map_nil]
 intro k hk
 have hkl := mrV_len l S k
 by_cases h2 : k < cols
 case neg =>
  have e : k = cols := by omega
  subst e
  have hr : roomFor ((mtV l s k i).length + 1) 24 := by simp only [roomFor]; omega
  simp only [go_sem, h2, hr, hw]
  refine roundK.intro (i + 1) (by omega) (by omega) ?_
  simp only [go_sem, hnV, hnS, List.map_append, List.map_cons, List.map_nil]
 have hwk : IntKind.i64.wrap (k + 1) = k + 1 := wrap_in (by omega) (by omega)
 have hdk := mrS_dk hd k
 have hrV : mrV l S (k + 1) = mrV l S k ++ [mcV l (mrS l S k)] := rfl
 have hrS : mrS l S (k + 1) = mcS l (mrS l S k) := rfl
 generalize mrS l S k = U at hdk hrV hrS
 have c1 : Con Try.prog 12 [.pb 0 0, vi 7] [deckA l U] fun r b => r = vi (nextV l U 7) ∧ b = [deckA l (mcS1 l U)] := con_dNext l U 7 hdk
 have hd1 : Dk l (mcS1 l U) := nextS_dk hdk
 have c2 : Con Try.prog 29 [.pb 0 0, vi 20] [deckA l (mcS1 l U)] fun r b => r = vb (oneV l (mcS1 l U) 20) ∧ b = [deckA l (mcS2 l U)] := con_dOne l (mcS1 l U) 20 hd1
 have hd2 : Dk l (mcS2 l U) := nextS_dk hd1
 have c3 := con_dNext l (mcS2 l U) 2 hd2
 have hv7 := nextV_lt (l := l) (s := U) (n := 7) (by omega)
 have hv2 := nextV_lt (l := l) (s := mcS2 l U) (n := 2) (by omega)
 have e1 : mcV l U = if oneV l (mcS1 l U) 20 then ([16, -16] : List Int)[(nextV l (mcS2 l U) 2).toNat]! else nextV l U 7 - 3 := by unfold mcV; exact Eq.refl _
 have e2 : mcS l U = if oneV l (mcS1 l U) 20 then nextS l (mcS2 l U) 2 else mcS2 l U := by unfold mcS; exact Eq.refl _
 generalize nextV l U 7 = v7 at c1 hv7 e1
 generalize nextV l (mcS2 l U) 2 = v2 at c3 hv2 e1
 generalize nextS l (mcS2 l U) 2 = U3 at c3 e2
 generalize mcS2 l U = U2 at c2 c3 e2 hd2
 generalize oneV l (mcS1 l U) 20 = o at c2 e1 e2
 generalize mcS1 l U = U1 at c1 c2 hd1
 generalize mcV l U = V at e1 hrV
 generalize mcS l U = W at e2 hrS
 have hw7 : IntKind.i64.wrap (v7 - 3) = v7 - 3 := wrap_in (by omega) (by omega)
 have hr : roomFor ((mrV l S k).length + 1) 8 := by simp only [roomFor]; omega
 simp only [go_sem, h2]
 refine CallU.boxes (i := 0) (is := []) (bx0 := [deckA l U]) c1 (by simp only [go_sem]) (by simp only [go_sem]) (by simp only [go_sem]) (by simp only [go_sem]) (by simp only [go_sem]) ?_
 rintro r b ⟨rfl, rfl⟩
 simp only [go_sem, hw7]
 refine CallU.boxes (i := 0) (is := []) (bx0 := [deckA l U1]) c2 (by simp only [go_sem]) (by simp only [go_sem]) (by simp only [go_sem]) (by simp only [go_sem]) (by simp only [go_sem]) ?_
 rintro r b ⟨rfl, rfl⟩
 cases o
 ·have e1 : V = v7 - 3 := e1.trans (if_neg (by simp))
  have e2 : W = U2 := e2.trans (if_neg (by simp))
  simp only [go_sem, hr, hwk]
  refine roundK.intro (k + 1) (by omega) (by omega) ?_
  simp only [go_sem, hrV, hrS, e1, e2, List.map_append, List.map_cons, List.map_nil]
 ·have e1 : V = ([16, -16] : List Int)[v2.toNat]! := e1.trans (if_pos rfl)
  have e2 : W = U3 := e2.trans (if_pos rfl)
  have hlt : v2.toNat < ([16, -16] : List Int).length := by simp; omega
  have hg := getv hlt
  simp only [List.map_cons, List.map_nil, vi] at hg
  rw [← e1] at hg
  simp only [go_sem]
  refine CallU.boxes (i := 0) (is := []) (bx0 := [deckA l U2]) c3 (by simp only [go_sem]) (by simp only [go_sem]) (by simp only [go_sem]) (by simp only [go_sem]) (by simp only [go_sem]) ?_
  rintro r b ⟨rfl, rfl⟩
  simp only [go_sem, hv2, hg, hr, hwk]
  refine roundK.intro (k + 1) (by omega) (by omega) ?_
  simp only [go_sem, hrV, hrS, e2, List.map_append, List.map_cons, List.map_nil]
end Go.AM

/-! ## CmQ -/
namespace Go.AM
open Go Go.Proofs Go.RowKit
end Go.AM

/-! ## CmR -/
namespace Go.AM
open Go Go.Proofs Go.RowKit
end Go.AM

/-! ## CmS -/
namespace Go.AM
open Go Go.Proofs Go.RowKit
end Go.AM

/-! ## CmT -/
namespace Go.AM
open Go Go.Proofs Go.RowKit
end Go.AM

/-! ## LEff -/
namespace Go.AM
end Go.AM

/-! ## LFlat -/
namespace Go.AM
end Go.AM

/-! ## FA -/
namespace Go.AM
open Go Go.Proofs Go.RowKit
end Go.AM

/-! ## FK -/
namespace Go.AM
open Go Go.Proofs Go.RowKit
set_option maxRecDepth 100000
set_option maxHeartbeats 8000000
def ordL (a b : Int) : Int := if a < b then -1 else if b < a then 1 else 0
def lexI : List Int → List Int → Int
 | x :: xs, y :: ys => if x = y then lexI xs ys else ordL x y
 | _, _ => 0
def cmpI (a b : List Int) : Int := if a.length = b.length then lexI a b else ordL a.length b.length
theorem ord_zero {a b : Int} : ordL a b = 0 ↔ a = b := by unfold ordL; split <;> (try split) <;> omega
theorem lex_zero : ∀ {a b : List Int}, a.length = b.length → (lexI a b = 0 ↔ a = b)
 | [], [], _ => by simp [lexI]
 | x :: xs, y :: ys, h => by
  unfold lexI
  have hl : xs.length = ys.length := by simpa using h
  split
  ·rename_i e; rw [lex_zero hl, e]; simp
  ·rename_i e; rw [ord_zero]; simp [e]
 | [], _ :: _, h => by simp at h
 | _ :: _, [], h => by simp at h
theorem cmp_zero {a b : List Int} : cmpI a b = 0 ↔ a = b := by
 unfold cmpI
 split
 ·rename_i h; exact lex_zero h
 ·rename_i h
  rw [ord_zero]
  exact ⟨fun e => by omega, fun e => by rw [e]⟩
theorem lex_drop {a b : List Int} (hl : a.length = b.length) : ∀ i, i ≤ a.length → (∀ j, j < i → a[j]! = b[j]!) → lexI a b = lexI (a.drop i) (b.drop i)
 | 0, _, _ => rfl
 | i + 1, hi, h => by
  rw [lex_drop hl i (by omega) fun j hj => h j (by omega)]
  have h1 : i < a.length := by omega
  have h2 : i < b.length := by omega
  have e := h i (by omega)
  rw [getElem!_pos a i h1, getElem!_pos b i h2] at e
  rw [List.drop_eq_getElem_cons h1, List.drop_eq_getElem_cons h2, lexI, if_pos e]
theorem lex_stop {a b : List Int} (hl : a.length = b.length) {i : Nat} (hi : i < a.length) (h : ∀ j, j < i → a[j]! = b[j]!) (hn : a[i]! ≠ b[i]!) : lexI a b = ordL a[i]! b[i]! := by
 have h2 : i < b.length := by omega
 rw [lex_drop hl i (by omega) h]
 rw [getElem!_pos a i hi, getElem!_pos b i h2] at *
 rw [List.drop_eq_getElem_cons hi, List.drop_eq_getElem_cons h2, lexI, if_neg hn]
theorem lex_same {a b : List Int} (hl : a.length = b.length) (h : ∀ j, j < a.length → a[j]! = b[j]!) : lexI a b = 0 := by
 rw [lex_drop hl a.length (Nat.le_refl _) h, List.drop_eq_nil_of_le (Nat.le_refl _)]
 unfold lexI; rfl
theorem con_rorder (a b : Int) : Con Try.prog 46 [vi a, vi b] [] fun r _ => r = vi (ordL a b) := by
 refine Con.intro Try.func46 rfl Try.ntmps46 Try.results46 (by kernel_rfl) (by simp) 0 (by simp) ?_
 unfold ordL
 by_cases h1 : a < b
 ·simp only [go_sem, h1, if_true]
 ·by_cases h2 : b < a
  ·simp only [go_sem, h1, h2, if_true, if_false]
  ·simp only [go_sem, h1, h2, if_true, if_false]
theorem con_rcompareI (a b : List Int) (ha : a.length ≤ 1000000) : Con Try.prog 26 [vs 0 a, vs 0 b] [] fun r _ => r = vi (cmpI a b) := by
 refine Con.intro Try.func26 rfl Try.ntmps26 Try.results26 (by kernel_rfl) (by simp) 0 (by simp) ?_
 by_cases hl : a.length = b.length
 case neg =>
  have hl' : ((a.length : Int) != (b.length : Int)) = true := bne_iff_ne.2 (by omega)
  have e : cmpI a b = ordL a.length b.length := by unfold cmpI; rw [if_neg hl]
  simp only [go_sem, hl', List.length_map]
  refine CallU.free (con_rorder a.length b.length) (by simp only [go_sem]) (by simp only [go_sem]) ?_
  rintro x bx rfl
  simp only [go_sem, e]
 have e : cmpI a b = lexI a b := by unfold cmpI; rw [if_pos hl]
 have hl' : ((a.length : Int) != (b.length : Int)) = false := by rw [hl]; simp
 rw [e]
 simp only [go_sem, hl', List.length_map]
 refine LoopK.intro (fun i : Nat => ⟨40, [(0, vs 0 a), (1, vs 0 b), (5, vi i)], []⟩)
  (fun i => a.length - i) (fun i => i ≤ a.length ∧ ∀ j, j < i → a[j]! = b[j]!) 0 ⟨by omega, fun j hj => by omega⟩ ?_ ?_
 ·simp only [go_sem]
  all_goals exact leV_refl _
 rintro i ⟨hi, hb⟩
 by_cases h : i < a.length
 ·have h2 : i < b.length := by omega
  have g1 := getv h
  have g2 := getv h2
  have hw : IntKind.i64.wrap (i + 1) = i + 1 := wrap_in (by omega) (by omega)
  simp only [go_sem, h]
  refine DrawK.walk 9 mixed (by kernel_rfl) ?_
  by_cases hp : a[i]! = b[i]!
  ·have hp' : (a[i]! != b[i]!) = false := by rw [hp]; simp
   simp only [go_sem, h, h2, g1, g2, hp', hw]
   refine roundK.intro (i + 1) ⟨by omega, fun j hj => ?_⟩ (by omega) ?_
   ·by_cases hji : j = i
    ·subst hji; exact hp
    ·exact hb j (by omega)
   ·simp only [go_sem]
  ·have hp' : (a[i]! != b[i]!) = true := bne_iff_ne.2 hp
   have e2 := lex_stop hl h hb hp
   simp only [go_sem, h, h2, g1, g2, hp']
   refine DrawK.walk 10 mixed (by kernel_rfl) ?_
   simp only [go_sem, h, h2, g1, g2]
   refine CallY.mk (con_rorder a[i]! b[i]!) (by simp only [go_sem]) (by simp only [go_sem]) (.inl (by simp only [go_sem])) ?_
   simp only [go_sem, e2]
 ·have e2 := lex_same hl fun j hj => hb j (by omega)
  simp only [go_sem, h, e2]
theorem con_rsameI (a b : List Int) (ha : a.length ≤ 1000000) : Con Try.prog 35 [vs 0 a, vs 0 b] [] fun r _ => r = vb (a == b) := by
 refine Con.intro Try.func35 rfl Try.ntmps35 Try.results35 (by kernel_rfl) (by simp) 0 (by simp) ?_
 simp only [go_sem]
 refine CallU.free (con_rcompareI a b ha) (by simp only [go_sem]) (by simp only [go_sem]) ?_
 rintro x bx rfl
 have e : (cmpI a b == 0) = (a == b) := by rw [Bool.eq_iff_iff, beq_iff_eq, beq_iff_eq]; exact cmp_zero
 simp only [go_sem, e]
end Go.AM

/-! ## MxI -/
namespace Go.AM
open Go Go.Proofs Go.RowKit
open Go.La (sum sum_congr)
theorem anyS_false {α : Type} {p : α → Bool} {l : List α} (h : ∀ x ∈ l, p x = false) : l.any p = false := by
 rw [List.any_eq_false]; intro x hx; rw [h x hx]; simp
theorem anyS_inv {α : Type} {p : α → Bool} {l : List α} (h : l.any p = false) : ∀ x ∈ l, p x = false := fun x hx => by
 rw [List.any_eq_false] at h; have := h x hx; simpa using this
theorem memS_all {l : List Int} {P : Int → Prop} (h : ∀ i, i < l.length → P l[i]!) : ∀ x ∈ l, P x := fun x hx => by
 obtain ⟨i, hi, rfl⟩ := List.mem_iff_getElem.1 hx
 have := h i hi
 rwa [getElem!_pos l i hi] at this
theorem col_at {c : List (List Int)} {r i : Nat} (h : i < c.length) : (c.map fun x => x[r]!)[i]! = c[i]![r]! := by
 rw [getElem!_pos _ i (by simpa using h), List.getElem_map, getElem!_pos c i h]
theorem el_low {c : List (List Int)} (hc : ChangeM c) {i r : Nat} (hi : i < c.length) (hr : r < c[0]!.length) : -16 ≤ c[i]![r]! ∧ c[i]![r]! ≤ 16 := by
 have h := hc.valid.row c[i]! (mem_bang hi)
 exact h.2 _ (mem_bang (by omega))
theorem dot_col {c : List (List Int)} (hc : ChangeM c) {y : List Int} (hl : y.length = c.length) (h0 : ∀ i, i < c.length → 0 ≤ y[i]! ∧ y[i]! ≤ 1099511627776) {r : Nat} (hr : r < c[0]!.length) :
  dotF y (c.map fun x => x[r]!) = sum (fun i => y[i]! * c[i]![r]!) c.length := by
 rw [dot_sum (B := 1099511627776) (C := 16) (by have := hc.six; omega) (fun i hi => by have := h0 i (by omega); omega) (fun i hi => by rw [col_at (by omega)]; exact el_low hc (by omega) hr) (by decide)]
 unfold dotY
 rw [hl]
 exact sum_congr _ fun i hi => by rw [col_at hi]
theorem holds_of {c : List (List Int)} (hc : ChangeM c) {y : List Int} (hl : y.length = c.length) (h0 : ∀ i, i < c.length → 0 ≤ y[i]! ∧ y[i]! ≤ 1099511627776) (hne : ∃ i, i < c.length ∧ 0 < y[i]!) (hf : FlowOf c (fun i => y[i]!)) : sflowF c y = true := by
 have h1 : (schF c != 0) = false := by rw [sch_ok hc]; rfl
 have h2 : (y.length != c.length) = false := by rw [hl]; simp
 have h3 : y.any wBad = false := anyS_false (memS_all fun i hi => by
  have := h0 i (by omega)
  unfold wBad
  rw [Bool.or_eq_false_iff, decide_eq_false_iff_not, decide_eq_false_iff_not]; omega)
 have hp := hc.valid.pos
 have h4 : (mxN y (y.length - 1) == 0) = false := by
  rw [beq_eq_false_iff_ne]
  intro e
  obtain ⟨i, hi, hy⟩ := hne
  have := (mx_zero (l := y) (y.length - 1) fun i hi => (h0 i (by omega)).1).2.1 e i (by omega)
  omega
 have h5 : ((transF c).any fun x => dotF y x != 0) = false := anyS_false fun x hx => by
  obtain ⟨r, hr, rfl⟩ := List.mem_map.1 hx
  rw [List.mem_range] at hr
  rw [dot_col hc hl h0 hr, hf r hr]; rfl
 unfold sflowF
 rw [h1, h2, h3, h4, h5]; rfl
theorem holds_inv {c : List (List Int)} {y : List Int} (h : sflowF c y = true) : ChangeM c ∧ y.length = c.length ∧ (∀ i, i < c.length → 0 ≤ y[i]! ∧ y[i]! ≤ 1099511627776) ∧ (∃ i, i < c.length ∧ 0 < y[i]!) ∧ FlowOf c (fun i => y[i]!) := by
 unfold sflowF at h
 simp only [Bool.and_eq_true, Bool.not_eq_true', bne_eq_false_iff_eq] at h
 obtain ⟨h1, h2, h3, h4, h5⟩ := h
 have hc := sch_change h1
 have hp := hc.valid.pos
 have h0 : ∀ i, i < c.length → 0 ≤ y[i]! ∧ y[i]! ≤ 1099511627776 := fun i hi => by
  have := anyS_inv h3 y[i]! (mem_bang (by omega))
  unfold wBad at this
  rw [Bool.or_eq_false_iff, decide_eq_false_iff_not, decide_eq_false_iff_not] at this; omega
 refine ⟨hc, h2, h0, ?_, fun r hr => ?_⟩
 ·refine Classical.byContradiction fun hno => ?_
  have e := (mx_zero (l := y) (y.length - 1) fun i hi => (h0 i (by omega)).1).2.2 fun i hi => by
   have := h0 i (by omega)
   refine Classical.byContradiction fun hn => hno ⟨i, by omega, by omega⟩
  rw [e] at h4; cases h4
 ·have := anyS_inv h5 _ (show (c.map fun x => x[r]!) ∈ transF c from List.mem_map.2 ⟨r, List.mem_range.2 hr, rfl⟩)
  rw [dot_col hc h2 h0 hr] at this
  simpa using this
theorem lexI_eq : ∀ {a b : List Int}, a.length = b.length → lexI a b = lexC a b
 | [], [], _ => rfl
 | [], _ :: _, h => by simp at h
 | _ :: _, [], h => by simp at h
 | x :: xs, y :: ys, h => by
  rw [lexI, lexC]
  by_cases e : x = y
  ·rw [if_pos e, if_neg (by rw [ordI_zero.2 e]; simp), lexI_eq (by simpa using h)]
  ·rw [if_neg e, if_pos (fun h' => e (ordI_zero.1 h'))]; rfl
theorem cmpI_eq {a b : List Int} (h : a.length = b.length) : cmpI a b = lexC a b := by unfold cmpI; rw [if_pos h, lexI_eq h]
def wiN (x y : List Int) : Nat → Bool
 | 0 => true
 | k + 1 => wiN x y k && (x[k]! == 0 || decide (0 < y[k]!))
theorem wiN_iff {x y : List Int} : ∀ k : Nat, wiN x y k = true ↔ ∀ i : Nat, i < k → x[i]! = 0 ∨ 0 < y[i]!
 | 0 => by simp [wiN]
 | k + 1 => by
  rw [wiN, Bool.and_eq_true, wiN_iff k, Bool.or_eq_true, beq_iff_eq, decide_eq_true_eq]
  exact ⟨fun ⟨h1, h2⟩ i hi => by
   by_cases e : i = k
   ·subst e; exact h2
   ·exact h1 i (by omega), fun h => ⟨fun i hi => h i (by omega), h k (by omega)⟩⟩
theorem wiN_within {x y : List Int} (h0 : ∀ i, i < x.length → 0 ≤ x[i]!) : wiN x y x.length = true ↔ Within x y := by
 rw [wiN_iff]
 exact ⟨fun h i hi hp => by have := h i hi; omega, fun h i hi => by have := h i hi; have := h0 i hi; omega⟩
structure FlowsOk (c S : List (List Int)) : Prop where
 len : ∀ y ∈ S, y.length = c.length
 low : ∀ y ∈ S, ∀ i, i < c.length → 0 ≤ y[i]! ∧ y[i]! ≤ 1000000000000
 flow : ∀ y ∈ S, FlowOf c (fun i => y[i]!)
 holds : ∀ y ∈ S, sflowF c y = true
 asc : ∀ i, 1 ≤ i → i < S.length → cmpI S[i - 1]! S[i]! < 0
 apart : ∀ i k, i < S.length → k < S.length → k ≠ i → wiN S[k]! S[i]! c.length = false
theorem flows_ok {c : List (List Int)} (hc : ChangeM c) : FlowsOk c (ofS c) := by
 have hperm := asc_perm (ofL c)
 have hasc : AscL (ofS c) := asc_asc (ofL c)
 have hm : ∀ y ∈ ofS c, y ∈ ofL c := fun y hy => hperm.subset hy
 have hlen : ∀ y ∈ ofS c, y.length = c.length := ofS_row hc
 have hpair : (ofS c).Pairwise fun x y => ¬ Within x y ∧ ¬ Within y x := (of_pair hc).perm hperm.symm fun h => ⟨h.2, h.1⟩
 rw [List.pairwise_iff_getElem] at hpair
 have hap : ∀ i k, i < (ofS c).length → k < (ofS c).length → k ≠ i → ¬ Within (ofS c)[k]! (ofS c)[i]! := fun i k hi hk hne => by
  rw [getElem!_pos _ i hi, getElem!_pos _ k hk]
  rcases Nat.lt_or_ge k i with h | h
  ·exact (hpair k i hk hi h).1
  ·exact (hpair i k hi hk (by omega)).2
 have hlow : ∀ y ∈ ofS c, ∀ i, i < c.length → 0 ≤ y[i]! ∧ y[i]! ≤ 1000000000000 := fun y hy => by
  obtain ⟨_, _, _, _, _, h, _⟩ := of_mem hc (hm y hy); exact h
 refine ⟨hlen, hlow, fun y hy => ?_, fun y hy => ?_, fun i h1 h2 => ?_, fun i k hi hk hne => ?_⟩
 ·obtain ⟨_, _, _, _, _, _, _, h⟩ := of_mem hc (hm y hy); exact h
 ·obtain ⟨_, _, _, _, _, _, h3, h4⟩ := of_mem hc (hm y hy)
  exact holds_of hc (hlen y hy) (fun i hi => by have := hlow y hy i hi; omega) h3 h4
 ·rw [cmpI_eq (by rw [hlen _ (mem_bang (show i - 1 < (ofS c).length by omega)), hlen _ (mem_bang h2)])]
  have hle : lexC (ofS c)[i - 1]! (ofS c)[i]! ≤ 0 := by
   unfold AscL at hasc
   rw [List.pairwise_iff_getElem] at hasc
   rw [getElem!_pos _ i h2, getElem!_pos _ (i - 1) (by omega)]
   exact hasc (i - 1) i (by omega) h2 (by omega)
  have hne : lexC (ofS c)[i - 1]! (ofS c)[i]! ≠ 0 := fun e => by
   have e := lexC_zero.1 e
   exact hap i (i - 1) h2 (by omega) (by omega) (by rw [e]; exact fun _ _ h => h)
  omega
 ·cases hw : wiN (ofS c)[k]! (ofS c)[i]! c.length
  ·rfl
  ·exfalso
   have hk2 := mem_bang hk
   have hl := hlen _ hk2
   rw [← hl] at hw
   exact hap i k hi hk hne ((wiN_within fun j hj => (hlow _ hk2 j (by omega)).1).1 hw)
end Go.AM

/-! ## MxJ -/
namespace Go.AM
open Go Go.Proofs Go.RowKit
set_option maxRecDepth 100000
set_option maxHeartbeats 8000000
def seedD : DS := (0, 11400714819323198485)
theorem con_dNewS (l : List Int) : Con Try.prog 11 [vs 0 l] [] fun r b => r = .pb 0 0 ∧ b = [deckA l seedD] := con_dNew l
theorem mx_deck {l : List Int} (h : (l.length : Int) ≤ 400) : Dk l seedD := ⟨Nat.zero_le _, by omega⟩
theorem mx_next {l : List Int} {s : DS} {k : Int} (hk : 1 ≤ k ∧ k ≤ 1000) : ∃ n : Nat, 1 ≤ n ∧ (n : Int) ≤ k ∧ IntKind.i64.wrap (1 + nextV l s k) = n := by
 have := nextV_lt (l := l) (s := s) (n := k) hk.1
 exact ⟨(1 + nextV l s k).toNat, by omega, by omega, by rw [wrap_in (by omega) (by omega)]; omega⟩
theorem con_mxHoldsLaw (l : List Int) : Con Try.prog 4 [vs 0 l] [] fun r _ => r = vb true := by
 refine Con.intro Try.func4 rfl Try.ntmps4 Try.results4 (by kernel_rfl) (by simp) 0 (by simp) ?_
 simp only [go_sem]
 refine CallU.free con_awake (by simp only [go_sem]) (by simp only [go_sem]) ?_
 rintro r bx rfl
 simp only [go_sem]
 refine CallU.free (con_few l 0 (by omega)) (by simp only [go_sem]) (by simp only [go_sem]) ?_
 rintro r bx rfl
 by_cases hf : (l.length : Int) ≤ 400
 case neg =>
  have hf' : ¬ l.length ≤ 400 := by omega
  simp only [go_sem, hf']
  refine CallU.free con_awake (by simp only [go_sem]) (by simp only [go_sem]) ?_
  rintro r bx rfl
  simp only [go_sem]
 have hf' : l.length ≤ 400 := by omega
 simp only [go_sem, hf']
 refine CallU.news (bx0 := []) (con_dNewS l) (by simp only [go_sem]) (by simp only [go_sem]) (by simp only [go_sem]) (by simp only [go_sem]) (by simp only [go_sem]) ?_
 rintro r b ⟨rfl, rfl⟩
 have hd := mx_deck hf
 generalize seedD = s0 at hd
 obtain ⟨n, hn1, hn2, hnw⟩ := mx_next (l := l) (s := s0) (k := 5) (by omega)
 simp only [go_sem]
 refine CallU.boxes (i := 0) (is := []) (bx0 := [deckA l s0]) (con_dNext l s0 5 hd) (by simp only [go_sem]) (by simp only [go_sem]) (by simp only [go_sem]) (by simp only [go_sem]) (by simp only [go_sem]) ?_
 rintro r b ⟨rfl, rfl⟩
 have hd1 := nextS_dk (n := 5) hd
 generalize nextS l s0 5 = s1 at hd1
 obtain ⟨cols, hc1, hc2, hcw⟩ := mx_next (l := l) (s := s1) (k := 3) (by omega)
 simp only [go_sem, hnw]
 refine CallU.boxes (i := 0) (is := []) (bx0 := [deckA l s1]) (con_dNext l s1 3 hd1) (by simp only [go_sem]) (by simp only [go_sem]) (by simp only [go_sem]) (by simp only [go_sem]) (by simp only [go_sem]) ?_
 rintro r b ⟨rfl, rfl⟩
 have hd2 := nextS_dk (n := 3) hd1
 generalize nextS l s1 3 = s2 at hd2
 simp only [go_sem, hcw]
 refine CallU.boxes (i := 0) (is := []) (bx0 := [deckA l s2]) (con_dMatrix l s2 n cols hd2 (by omega) (by omega)) (by simp only [go_sem]) (by simp only [go_sem]) (by simp only [go_sem]) (by simp only [go_sem]) (by simp only [go_sem]) ?_
 rintro r b ⟨rfl, rfl⟩
 have hC : ChangeM (mtV l s2 cols n) := mtV_change hn1 (by omega) hc1 (by omega)
 have hlen : (mtV l s2 cols n).length = n := mtV_len _ _ _ _
 generalize mtS l s2 cols n = s3
 generalize mtV l s2 cols n = c at hC hlen
 have hF := hC.valid.fits
 have h12 : ChangeM c → (ofL c).length ≤ 12 := fun h => by have := of_few h (by omega); omega
 have hOf := con_Of c hF h12
 have eR : ofR c = .tup [vm 2 (ofS c), vi 0] := by unfold ofR; rw [if_pos (sch_ok hC)]
 rw [eR] at hOf
 have hOk := flows_ok hC
 have hSl := ofS_len (c := c)
 have hS12 := h12 hC
 generalize ofS c = S at hOf hOk hSl
 simp only [go_sem]
 refine CallU.freeze hOf (by simp only [go_sem]) (by simp only [go_sem]) ?_
 rintro r bx rfl
 simp only [go_sem]
 have h6 := hC.six
 refine LoopK.intro (fun i : Nat => ⟨99, [(4, vm 0 c), (5, .sl 2178 1 (S.map (vs 0))), (38, .sl 2178 1 (S.map (vs 0))), (39, vi S.length), (40, vi i)], [deckA l s3]⟩)
  (fun i => S.length - i) (fun i => i ≤ S.length) 0 (by omega) ?_ ?_
 ·simp only [go_sem]
 intro i hi
 by_cases h : i < S.length
 case neg =>
  simp only [go_sem, h]
 have hg := getm h
 have hw : IntKind.i64.wrap (i + 1) = i + 1 := wrap_in (by omega) (by omega)
 have hm := mem_bang h
 have hyl := hOk.len _ hm
 have hH := con_Holds c S[i]! hF (by omega)
 rw [hOk.holds _ hm] at hH
 simp only [go_sem, h, hg]
 refine CallU.free hH (by simp only [go_sem]) (by simp only [go_sem]) ?_
 rintro r bx rfl
 apply share3 (T := fun τ => τ.le ⟨99, [(4, vm 0 c), (5, .sl 2178 1 (S.map (vs 0))), (7, vi i), (8, vs 0 S[i]!), (38, .sl 2178 1 (S.map (vs 0))), (39, vi S.length), (40, vi i), (63, .sl 2178 1 (S.map (vs 0))), (64, vi S.length), (65, vi (0 : Nat))], [deckA l s3]⟩)
 case h =>
  intro hsh
  by_cases h0 : i = 0
  ·have hz : ¬ (0 : Int) < (i : Int) := by omega
   simp only [go_sem, hz]
   refine hsh _ ?_
   simp only [go_sem]
  ·have hz : (0 : Int) < (i : Int) := by omega
   have h1 : i - 1 < S.length := by omega
   have hg1 := getm h1
   have hwm : IntKind.i64.wrap ((i : Int) - 1) = ((i - 1 : Nat) : Int) := by rw [wrap_in (by omega) (by omega)]; omega
   have hasc := hOk.asc i (by omega) h
   have hcl := con_rcompareI S[i - 1]! S[i]! (by have := hOk.len _ (mem_bang h1); omega)
   have hlt : ¬ (0 : Int) ≤ cmpI S[i - 1]! S[i]! := by omega
   simp only [go_sem, hz, hwm, h1, hg1]
   refine CallU.free hcl (by simp only [go_sem]) (by simp only [go_sem]) ?_
   rintro r bx rfl
   simp only [go_sem, hlt]
   refine hsh _ ?_
   simp only [go_sem]
 intro τ hτ
 refine LoopK.intro (fun k : Nat => ⟨99, [(4, vm 0 c), (5, .sl 2178 1 (S.map (vs 0))), (7, vi i), (8, vs 0 S[i]!), (38, .sl 2178 1 (S.map (vs 0))), (39, vi S.length), (40, vi i), (63, .sl 2178 1 (S.map (vs 0))), (64, vi S.length), (65, vi k)], [deckA l s3]⟩)
  (fun k => S.length - k) (fun k => k ≤ S.length) 0 (by omega) hτ ?_
 intro k hk
 by_cases h2 : k < S.length
 case neg =>
  simp only [go_sem, h2, hw]
  refine roundK.intro (i + 1) (by omega) (by omega) ?_
  simp only [go_sem]
 have hgk := getm h2
 have hwk : IntKind.i64.wrap (k + 1) = k + 1 := wrap_in (by omega) (by omega)
 have hxl := hOk.len _ (mem_bang h2)
 simp only [go_sem, h2, hgk]
 refine LoopK.intro (fun p : Nat => ⟨99, [(4, vm 0 c), (5, .sl 2178 1 (S.map (vs 0))), (7, vi i), (8, vs 0 S[i]!), (9, vi k), (10, vs 0 S[k]!), (11, vb (wiN S[k]! S[i]! p)), (38, .sl 2178 1 (S.map (vs 0))), (39, vi S.length), (40, vi i), (63, .sl 2178 1 (S.map (vs 0))), (64, vi S.length), (65, vi k), (70, vs 0 S[k]!), (71, vi c.length), (72, vi p)], [deckA l s3]⟩)
  (fun p => c.length - p) (fun p => p ≤ c.length) 0 (by omega) ?_ ?_
 ·simp only [go_sem, hxl, wiN]
 intro p hp
 by_cases h3 : p < c.length
 ·have hwp : IntKind.i64.wrap (p + 1) = p + 1 := wrap_in (by omega) (by omega)
  have hxp : p < S[k]!.length := by omega
  have hyp : p < S[i]!.length := by omega
  have gx := getv hxp
  have gy := getv hyp
  have hn : wiN S[k]! S[i]! (p + 1) = (wiN S[k]! S[i]! p && (S[k]![p]! == 0 || decide (0 < S[i]![p]!))) := rfl
  cases hb1 : wiN S[k]! S[i]! p
  ·rw [hb1, Bool.false_and] at hn
   simp only [go_sem, h3, hwp]
   refine roundK.intro (p + 1) (by omega) (by omega) ?_
   simp only [go_sem, hn]
  ·rw [hb1, Bool.true_and] at hn
   cases hb2 : S[k]![p]! == 0
   ·rw [hb2, Bool.false_or] at hn
    simp only [go_sem, h3, hxp, hyp, gx, gy, hb2, hwp]
    refine roundK.intro (p + 1) (by omega) (by omega) ?_
    simp only [go_sem, hn]
   ·rw [hb2, Bool.true_or] at hn
    simp only [go_sem, h3, hxp, gx, hb2, hwp]
    refine roundK.intro (p + 1) (by omega) (by omega) ?_
    simp only [go_sem, hn]
 ·have hpc : p = c.length := by omega
  subst hpc
  by_cases hki : k = i
  ·have hb : ((k : Int) != (i : Int)) = false := by rw [hki]; simp
   cases hb1 : wiN S[k]! S[i]! c.length
   ·simp only [go_sem, h3, hwk]
    refine roundK.intro (k + 1) (by omega) (by omega) ?_
    simp only [go_sem]
   ·simp only [go_sem, h3, hb, hwk]
    refine roundK.intro (k + 1) (by omega) (by omega) ?_
    simp only [go_sem]
  ·have hb1 := hOk.apart i k h h2 hki
   simp only [go_sem, h3, hb1, hwk]
   refine roundK.intro (k + 1) (by omega) (by omega) ?_
   simp only [go_sem]
end Go.AM

/-! ## MxK -/
namespace Go.AM
open Go Go.Proofs Go.RowKit
set_option maxRecDepth 100000
set_option maxHeartbeats 8000000
def fiN (S : List (List Int)) (y : List Int) (n : Nat) : Nat → Bool
 | 0 => false
 | k + 1 => fiN S y n k || wiN S[k]! y n
theorem fiN_true {S : List (List Int)} {y : List Int} {n j : Nat} (h : wiN S[j]! y n = true) : ∀ k, j < k → fiN S y n k = true
 | 0, hk => by omega
 | k + 1, hk => by
  rw [fiN]
  by_cases e : j = k
  ·subst e; rw [h, Bool.or_true]
  ·rw [fiN_true h k (by omega), Bool.true_or]
theorem fi_all {c : List (List Int)} {y : List Int} (h : sflowF c y = true) : fiN (ofS c) y c.length (ofS c).length = true := by
 obtain ⟨hc, hl, h0, hne, hf⟩ := holds_inv h
 obtain ⟨x, hx, hw⟩ := of_finds hc hl (fun i hi => (h0 i hi).1) hne hf
 have hx2 : x ∈ ofS c := (asc_perm (ofL c)).symm.subset hx
 obtain ⟨j, hj, rfl⟩ := List.mem_iff_getElem.1 hx2
 have hOk := flows_ok hc
 have hlx := hOk.len _ hx2
 refine fiN_true (j := j) ?_ _ hj
 rw [getElem!_pos _ j hj, ← hlx]
 exact (wiN_within fun i hi => (hOk.low _ hx2 i (by omega)).1).2 hw
theorem con_mxFindsLaw (l : List Int) : Con Try.prog 5 [vs 0 l] [] fun r _ => r = vb true := by
 refine Con.intro Try.func5 rfl Try.ntmps5 Try.results5 (by kernel_rfl) (by simp) 0 (by simp) ?_
 simp only [go_sem]
 refine CallU.free con_awake (by simp only [go_sem]) (by simp only [go_sem]) ?_
 rintro r bx rfl
 simp only [go_sem]
 refine CallU.free (con_few l 0 (by omega)) (by simp only [go_sem]) (by simp only [go_sem]) ?_
 rintro r bx rfl
 by_cases hf : (l.length : Int) ≤ 400
 case neg =>
  have hf' : ¬ l.length ≤ 400 := by omega
  simp only [go_sem, hf']
  refine CallU.free con_awake (by simp only [go_sem]) (by simp only [go_sem]) ?_
  rintro r bx rfl
  simp only [go_sem]
 have hf' : l.length ≤ 400 := by omega
 simp only [go_sem, hf']
 refine CallU.news (bx0 := []) (con_dNewS l) (by simp only [go_sem]) (by simp only [go_sem]) (by simp only [go_sem]) (by simp only [go_sem]) (by simp only [go_sem]) ?_
 rintro r b ⟨rfl, rfl⟩
 have hd := mx_deck hf
 generalize seedD = s0 at hd
 obtain ⟨n, hn1, hn2, hnw⟩ := mx_next (l := l) (s := s0) (k := 4) (by omega)
 simp only [go_sem]
 refine CallU.boxes (i := 0) (is := []) (bx0 := [deckA l s0]) (con_dNext l s0 4 hd) (by simp only [go_sem]) (by simp only [go_sem]) (by simp only [go_sem]) (by simp only [go_sem]) (by simp only [go_sem]) ?_
 rintro r b ⟨rfl, rfl⟩
 have hd1 := nextS_dk (n := 4) hd
 generalize nextS l s0 4 = s1 at hd1
 obtain ⟨cols, hc1, hc2, hcw⟩ := mx_next (l := l) (s := s1) (k := 2) (by omega)
 simp only [go_sem, hnw]
 refine CallU.boxes (i := 0) (is := []) (bx0 := [deckA l s1]) (con_dNext l s1 2 hd1) (by simp only [go_sem]) (by simp only [go_sem]) (by simp only [go_sem]) (by simp only [go_sem]) (by simp only [go_sem]) ?_
 rintro r b ⟨rfl, rfl⟩
 have hd2 := nextS_dk (n := 2) hd1
 generalize nextS l s1 2 = s2 at hd2
 simp only [go_sem, hcw]
 refine CallU.boxes (i := 0) (is := []) (bx0 := [deckA l s2]) (con_dMatrix l s2 n cols hd2 (by omega) (by omega)) (by simp only [go_sem]) (by simp only [go_sem]) (by simp only [go_sem]) (by simp only [go_sem]) (by simp only [go_sem]) ?_
 rintro r b ⟨rfl, rfl⟩
 have hd3 : Dk l (mtS l s2 cols n) := mtS_dk hd2 n
 have hC : ChangeM (mtV l s2 cols n) := mtV_change hn1 (by omega) hc1 (by omega)
 have hlen : (mtV l s2 cols n).length = n := mtV_len _ _ _ _
 generalize mtS l s2 cols n = s3 at hd3
 generalize mtV l s2 cols n = c at hC hlen
 have hF := hC.valid.fits
 have h12 : ChangeM c → (ofL c).length ≤ 12 := fun h => by have := of_few h (by omega); omega
 have hOf := con_Of c hF h12
 have eR : ofR c = .tup [vm 2 (ofS c), vi 0] := by unfold ofR; rw [if_pos (sch_ok hC)]
 rw [eR] at hOf
 have hOk := flows_ok hC
 have hSl := ofS_len (c := c)
 have hS12 := h12 hC
 have hfi := fun (y : List Int) (h : sflowF c y = true) => fi_all h
 generalize ofS c = S at hOf hOk hSl hfi
 simp only [go_sem]
 refine CallU.freeze hOf (by simp only [go_sem]) (by simp only [go_sem]) ?_
 rintro r bx rfl
 simp only [go_sem]
 have h6 := hC.six
 refine LoopK.intro (fun p : Nat × DS => ⟨86, [(3, .pb 0 0), (4, vi n), (5, vm 0 c), (6, .sl 2370 1 (S.map (vs 0))), (8, vi p.1)], [deckA l p.2]⟩)
  (fun p => 12 - p.1) (fun p => p.1 ≤ 12 ∧ Dk l p.2) (0, s3) ⟨by show 0 ≤ 12; omega, hd3⟩ ?_ ?_
 ·simp only [go_sem]
 rintro ⟨k, s⟩ ⟨hk, hs⟩
 simp only at hk hs
 by_cases h : (k : Int) < 12
 case neg =>
  simp only [go_sem, h]
 have hw : IntKind.i64.wrap (k + 1) = k + 1 := wrap_in (by omega) (by omega)
 simp only [go_sem, h]
 refine CallU.boxes (i := 0) (is := []) (bx0 := [deckA l s]) (con_dSmallF l s n 3 hs (by omega) (by omega)) (by simp only [go_sem]) (by simp only [go_sem]) (by simp only [go_sem]) (by simp only [go_sem]) (by simp only [go_sem]) ?_
 rintro r b ⟨rfl, rfl⟩
 have hs' : Dk l (smS l s 3 n) := smS_dk hs n
 have hyl : (smV l s 3 n).length = n := smV_len n
 generalize smS l s 3 n = s' at hs'
 generalize smV l s 3 n = y at hyl
 simp only [go_sem]
 refine CallU.free (con_Holds c y hF (by omega)) (by simp only [go_sem]) (by simp only [go_sem]) ?_
 rintro r bx rfl
 cases hh : sflowF c y
 ·simp only [go_sem, hw]
  refine roundK.intro (k + 1, s') ⟨by show k + 1 ≤ 12; omega, hs'⟩ (by show 12 - (k + 1) < 12 - k; omega) ?_
  simp only [go_sem]
 have hfy := hfi y hh
 simp only [go_sem]
 refine LoopK.intro (fun j : Nat => ⟨86, [(3, .pb 0 0), (4, vi n), (5, vm 0 c), (6, .sl 2370 1 (S.map (vs 0))), (8, vi k), (9, vs 0 y), (10, vb (fiN S y c.length j)), (52, .sl 2370 1 (S.map (vs 0))), (53, vi S.length), (54, vi j)], [deckA l s']⟩)
  (fun j => S.length - j) (fun j => j ≤ S.length) 0 (by omega) ?_ ?_
 ·simp only [go_sem, fiN]
 intro j hj
 by_cases h2 : j < S.length
 case neg =>
  have e : j = S.length := by omega
  subst e
  simp only [go_sem, h2, hfy, hw]
  refine roundK.intro (k + 1, s') ⟨by show k + 1 ≤ 12; omega, hs'⟩ (by show 12 - (k + 1) < 12 - k; omega) ?_
  simp only [go_sem]
 have hgj := getm h2
 have hwj : IntKind.i64.wrap (j + 1) = j + 1 := wrap_in (by omega) (by omega)
 have hxl := hOk.len _ (mem_bang h2)
 simp only [go_sem, h2, hgj]
 refine LoopK.intro (fun p : Nat => ⟨86, [(3, .pb 0 0), (4, vi n), (5, vm 0 c), (6, .sl 2370 1 (S.map (vs 0))), (8, vi k), (9, vs 0 y), (10, vb (fiN S y c.length j)), (12, vs 0 S[j]!), (13, vb (wiN S[j]! y p)), (52, .sl 2370 1 (S.map (vs 0))), (53, vi S.length), (54, vi j), (58, vs 0 S[j]!), (59, vi c.length), (60, vi p)], [deckA l s']⟩)
  (fun p => c.length - p) (fun p => p ≤ c.length) 0 (by omega) ?_ ?_
 ·simp only [go_sem, hxl, wiN]
 intro p hp
 by_cases h3 : p < c.length
 ·have hwp : IntKind.i64.wrap (p + 1) = p + 1 := wrap_in (by omega) (by omega)
  have hxp : p < S[j]!.length := by omega
  have hyp : p < y.length := by omega
  have gx := getv hxp
  have gy := getv hyp
  have hn : wiN S[j]! y (p + 1) = (wiN S[j]! y p && (S[j]![p]! == 0 || decide (0 < y[p]!))) := rfl
  cases hb1 : wiN S[j]! y p
  ·rw [hb1, Bool.false_and] at hn
   simp only [go_sem, h3, hwp]
   refine roundK.intro (p + 1) (by omega) (by omega) ?_
   simp only [go_sem, hn]
  ·rw [hb1, Bool.true_and] at hn
   cases hb2 : S[j]![p]! == 0
   ·rw [hb2, Bool.false_or] at hn
    simp only [go_sem, h3, hxp, hyp, gx, gy, hb2, hwp]
    refine roundK.intro (p + 1) (by omega) (by omega) ?_
    simp only [go_sem, hn]
   ·rw [hb2, Bool.true_or] at hn
    simp only [go_sem, h3, hxp, gx, hb2, hwp]
    refine roundK.intro (p + 1) (by omega) (by omega) ?_
    simp only [go_sem, hn]
 ·have hpc : p = c.length := by omega
  subst hpc
  have hn : fiN S y c.length (j + 1) = (fiN S y c.length j || wiN S[j]! y c.length) := rfl
  cases hb1 : fiN S y c.length j
  ·rw [hb1, Bool.false_or] at hn
   simp only [go_sem, h3, hwj]
   refine roundK.intro (j + 1) (by omega) (by omega) ?_
   simp only [go_sem, hn]
  ·rw [hb1, Bool.true_or] at hn
   simp only [go_sem, h3, hwj]
   refine roundK.intro (j + 1) (by omega) (by omega) ?_
   simp only [go_sem, hn]
end Go.AM

/-! ## MxM -/
namespace Go.AM
open Go Go.Proofs Go.RowKit
set_option maxRecDepth 100000
set_option maxHeartbeats 8000000
theorem con_rmxCheck (m : List (List Int)) (hm : Fits m) : Con Try.prog 27 [vm 0 m] [] fun r _ => r = vi (mxCheckF m) := by
 refine Con.intro Try.func27 rfl Try.ntmps27 Try.results27 (by kernel_rfl) (by simp) 0 (by simp) ?_
 by_cases h1 : m.length < 1
 ·simp only [go_sem, h1, mxCheckF, true_or]
 by_cases h2 : 12 < m.length
 ·simp only [go_sem, h1, h2, mxCheckF, or_true]
 have hg0 := getm (l := m) (i := 0) (by omega)
 have hp0 : 0 < m.length := by omega
 by_cases h3 : m[0]!.length < 1
 ·simp only [go_sem, h1, h2, h3, hg0, hp0, mxCheckF, true_or, or_false]
 by_cases h4 : 12 < m[0]!.length
 ·simp only [go_sem, h1, h2, h3, h4, hg0, hp0, mxCheckF, true_or, or_false, or_true]
 have e5 : mxCheckF m = if 6 < min m[0]!.length m.length then (10 : Int) else if m.any (badRow m[0]!.length) then 10 else 0 := by
  unfold mxCheckF
  rw [if_neg (by omega)]
  by_cases h : 6 < min m[0]!.length m.length
  ·rw [if_pos (.inr (.inr h)), if_pos h]
  ·rw [if_neg (by omega), if_neg h]
 rw [e5]
 apply share3 (T := fun τ => ¬ 6 < min m[0]!.length m.length ∧ τ.le ⟨82, [(0, vm 0 m), (3, vi (0 : Nat))], []⟩)
 case h =>
  intro hsh
  by_cases h5 : 6 < m.length
  ·by_cases h6 : 6 < m[0]!.length
   ·have h7 : 6 < min m[0]!.length m.length := by omega
    simp only [go_sem, h1, h2, h3, h4, h5, h6, h7, hg0, hp0]
   ·simp only [go_sem, h1, h2, h3, h4, h5, h6, hg0, hp0]
    refine hsh _ ⟨by omega, ?_⟩
    simp only [go_sem]
  ·simp only [go_sem, h1, h2, h3, h4, h5, hg0, hp0]
   refine hsh _ ⟨by omega, ?_⟩
   simp only [go_sem]
 rintro τ ⟨h5, hτ⟩
 rw [if_neg h5]
 refine LoopK.intro (fun i : Nat => ⟨82, [(0, vm 0 m), (3, vi i)], []⟩)
  (fun i => m.length - i) (fun i => i ≤ m.length ∧ ∀ j, j < i → badRow m[0]!.length m[j]! = false) 0 ⟨by omega, fun j hj => by omega⟩ hτ ?_
 rintro i ⟨hi, hb⟩
 by_cases h : i < m.length
 case neg =>
  have e : m.any (badRow m[0]!.length) = false := mxAnyNone fun j hj => hb j (by omega)
  simp only [go_sem, h, e]
 have hg := getm h
 have hw : IntKind.i64.wrap (i + 1) = i + 1 := wrap_in (by omega) (by omega)
 have hr := hm.at h
 simp only [go_sem, h]
 refine DrawK.walk 10 mixed (by kernel_rfl) ?_
 by_cases hn : m[i]!.length = m[0]!.length
 case neg =>
  have hn' : (m[i]!.length != m[0]!.length) = true := bne_iff_ne.2 hn
  have e : m.any (badRow m[0]!.length) = true := any_stop h (by unfold badRow; rw [decide_eq_true hn, Bool.true_or])
  have hni : ((m[i]!.length : Int) != (m[0]!.length : Int)) = true := bne_iff_ne.2 (by omega)
  simp only [go_sem, h, hg, hg0, hp0, hni, e]
 have hni : ((m[i]!.length : Int) != (m[0]!.length : Int)) = false := by rw [hn]; simp
 simp only [go_sem, h, hg, hg0, hp0, hni]
 refine LoopK.intro (fun k : Nat => ⟨82, [(0, vm 0 m), (3, vi i), (4, vi k)], []⟩)
  (fun k => m[i]!.length - k) (fun k => k ≤ m[i]!.length ∧ ∀ j, j < k → lawBad m[i]![j]! = false) 0 ⟨by omega, fun j hj => by omega⟩ ?_ ?_
 ·simp only [go_sem]
 rintro k ⟨hk, hbk⟩
 by_cases h6 : k < m[i]!.length
 ·have hgk := getv h6
  have hwk : IntKind.i64.wrap (k + 1) = k + 1 := wrap_in (by omega) (by omega)
  have hlb : lawBad m[i]![k]! = (decide (m[i]![k]! < -16) || decide (16 < m[i]![k]!)) := rfl
  have hstop : lawBad m[i]![k]! = true → m.any (badRow m[0]!.length) = true := fun hp => any_stop h (by unfold badRow; rw [any_stop h6 hp, Bool.or_true])
  by_cases h7 : m[i]![k]! < -16
  ·have e := hstop (by rw [hlb, decide_eq_true h7, Bool.true_or])
   simp only [go_sem, h, hg, h6, hgk, h7, e]
  by_cases h8 : 16 < m[i]![k]!
  ·have e := hstop (by rw [hlb, decide_eq_true h8, Bool.or_true])
   simp only [go_sem, h, hg, h6, hgk, h7, h8, e]
  ·simp only [go_sem, h, hg, h6, hgk, h7, h8, hwk]
   refine roundK.intro (k + 1) ⟨by omega, fun j hj => ?_⟩ (by omega) ?_
   ·by_cases hjk : j = k
    ·subst hjk; rw [hlb, decide_eq_false h7, decide_eq_false h8]; rfl
    ·exact hbk j (by omega)
   ·simp only [go_sem]
 ·have e : badRow m[0]!.length m[i]! = false := by
   unfold badRow
   rw [decide_eq_false (fun h' => h' hn), Bool.false_or]
   exact mxAnyNone fun j hj => hbk j (by omega)
  simp only [go_sem, h, hg, h6, hw]
  refine roundK.intro (i + 1) ⟨by omega, fun j hj => ?_⟩ (by omega) ?_
  ·by_cases hji : j = i
   ·subst hji; exact e
   ·exact hb j (by omega)
  ·simp only [go_sem]
end Go.AM

/-! ## MxN -/
namespace Go.AM
open Go Go.Proofs Go.RowKit
open Go.La (sum sum_congr)
structure NowOk (c : List (List Int)) (start now : List Int) (k : Nat) : Prop where
 len : now.length = c.length
 low : ∀ i, i < c.length → 0 ≤ now[i]! ∧ now[i]! ≤ 6 + 16 * k
 same : ∀ y ∈ ofS c, dotY y now = dotY y start
theorem NowOk.more {c : List (List Int)} {start now : List Int} {k : Nat} (h : NowOk c start now k) : NowOk c start now (k + 1) :=
 ⟨h.len, fun i hi => by have := h.low i hi; omega, h.same⟩
theorem NowOk.step {c : List (List Int)} (hc : ChangeM c) {start now : List Int} {k r : Nat} (h : NowOk c start now k) (hr : r < c[0]!.length) (hp : ∀ i, i < now.length → 0 ≤ now[i]! + c[i]![r]!) : NowOk c start (addC c now r) (k + 1) := by
 have hl := h.len
 refine ⟨by rw [addC_len, hl], fun i hi => ?_, fun y hy => ?_⟩
 ·rw [addC_at (by omega)]
  have h1 := h.low i hi
  have h2 := el_low hc hi hr
  have h3 := hp i (by omega)
  omega
 ·have hOk := flows_ok hc
  rw [dot_step (hOk.len y hy) hl (hOk.flow y hy r hr)]
  exact h.same y hy
def adG (c : List (List Int)) (v : List Int) (r i : Nat) : List Int := (addC c v r).take i ++ v.drop i
theorem adG_zero (c : List (List Int)) (v : List Int) (r : Nat) : adG c v r 0 = v := by simp [adG]
theorem adG_len {c : List (List Int)} {v : List Int} {r i : Nat} (h : i ≤ v.length) : (adG c v r i).length = v.length := by
 unfold adG; rw [List.length_append, List.length_take, List.length_drop, addC_len]; omega
theorem adG_end (c : List (List Int)) (v : List Int) (r : Nat) : adG c v r v.length = addC c v r := by
 unfold adG; rw [List.drop_length, List.append_nil, List.take_of_length_le (by rw [addC_len]; exact Nat.le_refl _)]
theorem adG_at {c : List (List Int)} {v : List Int} {r i : Nat} (h : i < v.length) : (adG c v r i)[i]! = v[i]! := by
 have hl : ((addC c v r).take i).length = i := by rw [List.length_take, addC_len]; omega
 rw [getElem!_pos _ i (by rw [adG_len (by omega)]; exact h)]
 unfold adG
 rw [List.getElem_append_right (by omega), getElem!_pos v i h]
 simp [hl]
theorem adG_set {c : List (List Int)} {v : List Int} {r i : Nat} (h : i < v.length) : (adG c v r i).set i (v[i]! + c[i]![r]!) = adG c v r (i + 1) := by
 have hl : ((addC c v r).take i).length = i := by rw [List.length_take, addC_len]; omega
 have hla : i < (addC c v r).length := by rw [addC_len]; exact h
 unfold adG
 rw [List.set_append_right _ _ (by omega), hl, Nat.sub_self, List.drop_eq_getElem_cons h, List.set_cons_zero, take_snoc hla, addC_at h, List.append_assoc]; rfl
theorem adG_next {c : List (List Int)} {v : List Int} {r i : Nat} (h : i < v.length) : (adG c v r (i + 1))[i]! = v[i]! + c[i]![r]! := by
 rw [← adG_set h, getElem!_pos _ i (by rw [List.length_set, adG_len (by omega)]; exact h)]; simp
def fitG (c : List (List Int)) (v : List Int) (r : Nat) : Nat → Bool
 | 0 => true
 | i + 1 => fitG c v r i && decide (0 ≤ v[i]! + c[i]![r]!)
theorem fitG_all {c : List (List Int)} {v : List Int} {r : Nat} : ∀ n : Nat, fitG c v r n = true → ∀ i : Nat, i < n → 0 ≤ v[i]! + c[i]![r]!
 | 0, _, i, hi => by omega
 | n + 1, h, i, hi => by
  rw [fitG, Bool.and_eq_true, decide_eq_true_eq] at h
  by_cases e : i = n
  ·subst e; exact h.2
  ·exact fitG_all n h.1 i (by omega)
theorem dot_small {c : List (List Int)} (hc : ChangeM c) {y : List Int} (hy : y ∈ ofS c) {v : List Int} (hv : ∀ i, i < c.length → 0 ≤ v[i]! ∧ v[i]! ≤ 1048576) : dotF y v = dotY y v := by
 have hOk := flows_ok hc
 have hl := hOk.len y hy
 exact dot_sum (B := 1000000000000) (C := 1048576) (by have := hc.six; omega) (fun i hi => by have := hOk.low y hy i (by omega); omega) (fun i hi => by have := hv i (by omega); omega) (by decide)
theorem nums_ok {v : List Int} {n : Nat} (hl : v.length = n) (hv : ∀ i, i < n → 0 ≤ v[i]! ∧ v[i]! ≤ 1048576) : v.any nBad = false := anyS_false (memS_all fun i hi => by
 have := hv i (by omega)
 unfold nBad
 rw [Bool.or_eq_false_iff, decide_eq_false_iff_not, decide_eq_false_iff_not]; omega)
theorem keeps_allows {c : List (List Int)} (hc : ChangeM c) {start now : List Int} {k : Nat} (hk : k ≤ 8) (hs : start.length = c.length) (hs0 : ∀ i, i < c.length → 0 ≤ start[i]! ∧ start[i]! ≤ 1048576) (h : NowOk c start now k) : allowsR c start now = (true, 0) := by
 have hn : ∀ i, i < c.length → 0 ≤ now[i]! ∧ now[i]! ≤ 1048576 := fun i hi => by have := h.low i hi; omega
 have hl := h.len
 unfold allowsR
 rw [if_neg (fun h => h (sch_ok hc)), if_neg (by omega), if_neg (by rw [nums_ok hs hs0, nums_ok hl hn]; simp)]
 rw [anyS_false fun y hy => by rw [dot_small hc hy hs0, dot_small hc hy hn, h.same y hy]; simp]; rfl
theorem keeps_bnd {c : List (List Int)} (hc : ChangeM c) {start now : List Int} {k : Nat} (hk : k ≤ 8) (hs0 : ∀ i, i < c.length → 0 ≤ start[i]! ∧ start[i]! ≤ 1048576) (h : NowOk c start now k) {p : Nat} (hp : p < c.length) :
  ∀ j, j ≤ (ofS c).length → (bndG (ofS c) start p j).2 = true → now[p]! ≤ (bndG (ofS c) start p j).1
 | 0, _, hb => by cases hb
 | j + 1, hj, hb => by
  have ih := keeps_bnd hc hk hs0 h hp j (by omega)
  have hm : (ofS c)[j]! ∈ ofS c := mem_bang (by omega)
  have hOk := flows_ok hc
  have hl := hOk.len _ hm
  have hlow := hOk.low _ hm
  have hn : ∀ i, i < c.length → 0 ≤ now[i]! ∧ now[i]! ≤ 1048576 := fun i hi => by have := h.low i hi; omega
  rw [bndG] at hb ⊢
  by_cases h0 : (ofS c)[j]![p]! = 0
  ·rw [if_pos h0] at hb ⊢
   exact ih hb
  ·rw [if_neg h0] at hb ⊢
   split at hb
   ·rename_i hif
    rw [if_pos hif]
    have hpos : 0 < (ofS c)[j]![p]! := by have := (hlow p hp).1; omega
    have hd := place_div (y := (ofS c)[j]!) (v := now) (i := p) (by omega) (fun i hi => (hlow i (by omega)).1) (fun i hi => (hn i (by omega)).1) hpos
    rw [h.same _ hm, ← dot_small hc hm hs0] at hd
    have hq : w64 ((dotF (ofS c)[j]! start).tdiv (ofS c)[j]![p]!) = (dotF (ofS c)[j]! start).tdiv (ofS c)[j]![p]! := by
     obtain ⟨e, b1, b2⟩ := dotN_sum (a := (ofS c)[j]!) (b := start) (ofS c)[j]!.length (by have := hc.six; omega) (fun i hi => by
      have h1 := hlow i (by omega); have h2 := hs0 i (by omega)
      have := mul_bound (x := (ofS c)[j]![i]!) (y := start[i]!) (a := 1000000000000) (b := 1048576) (by omega) (by omega) (by omega) (by omega)
      omega)
     have hx : -9223372036854775807 ≤ dotF (ofS c)[j]! start ∧ dotF (ofS c)[j]! start ≤ 9223372036854775807 := by
      unfold dotF; rw [e]
      have := hc.six
      have hl7 : (((ofS c)[j]!.length : Nat) : Int) * 1152921504606846976 ≤ 6 * 1152921504606846976 := by omega
      omega
     have h1 : ((dotF (ofS c)[j]! start).tdiv (ofS c)[j]![p]!).natAbs ≤ (dotF (ofS c)[j]! start).natAbs := by rw [Int.natAbs_tdiv]; exact Nat.div_le_self _ _
     exact wrap_in (by omega) (by omega)
    rw [hq]; exact hd
   ·rename_i hif
    rw [if_neg hif]
    exact ih hb
theorem keeps_bound {c : List (List Int)} (hc : ChangeM c) {start now : List Int} {k : Nat} (hk : k ≤ 8) (hs : start.length = c.length) (hs0 : ∀ i, i < c.length → 0 ≤ start[i]! ∧ start[i]! ≤ 1048576) (h : NowOk c start now k) {p : Nat} (hp : p < c.length) :
  ∃ b f, boundR c start p = (b, f, 0) ∧ (f = true → now[p]! ≤ b) := by
 refine ⟨_, _, ?_, keeps_bnd hc hk hs0 h hp (ofS c).length (Nat.le_refl _)⟩
 unfold boundR
 rw [if_neg (fun h => h (sch_ok hc)), if_neg (by omega), if_neg (by rw [nums_ok hs hs0]; simp; omega)]; rfl
end Go.AM

/-! ## MxO -/
namespace Go.AM
open Go Go.Proofs Go.RowKit
set_option maxRecDepth 100000
set_option maxHeartbeats 8000000
theorem start_now {c : List (List Int)} {l : List Int} {s : DS} {n : Nat} (h : n = c.length) : NowOk c (smV l s 6 n) (smV l s 6 n) 0 ∧ ∀ i, i < c.length → 0 ≤ (smV l s 6 n)[i]! ∧ (smV l s 6 n)[i]! ≤ 1048576 := by
 have hl : (smV l s 6 n).length = n := smV_len n
 have hlow := smV_low (l := l) (s := s) (most := 6) (by omega) n
 have key : ∀ i, i < c.length → 0 ≤ (smV l s 6 n)[i]! ∧ (smV l s 6 n)[i]! ≤ 6 := fun i hi => hlow _ (mem_bang (by omega))
 exact ⟨⟨by omega, fun i hi => by have := key i hi; omega, fun _ _ => rfl⟩, fun i hi => by have := key i hi; omega⟩
theorem con_mxKeepsLaw (l : List Int) : Con Try.prog 6 [vs 0 l] [] fun r _ => r = vb true := by
 refine Con.intro Try.func6 rfl Try.ntmps6 Try.results6 (by kernel_rfl) (by simp) 0 (by simp) ?_
 simp only [go_sem]
 refine CallU.free con_awake (by simp only [go_sem]) (by simp only [go_sem]) ?_
 rintro r bx rfl
 simp only [go_sem]
 refine CallU.free (con_few l 0 (by omega)) (by simp only [go_sem]) (by simp only [go_sem]) ?_
 rintro r bx rfl
 by_cases hf : (l.length : Int) ≤ 400
 case neg =>
  have hf' : ¬ l.length ≤ 400 := by omega
  simp only [go_sem, hf']
  refine CallU.free con_awake (by simp only [go_sem]) (by simp only [go_sem]) ?_
  rintro r bx rfl
  simp only [go_sem]
 have hf' : l.length ≤ 400 := by omega
 simp only [go_sem, hf']
 refine CallU.news (bx0 := []) (con_dNewS l) (by simp only [go_sem]) (by simp only [go_sem]) (by simp only [go_sem]) (by simp only [go_sem]) (by simp only [go_sem]) ?_
 rintro r b ⟨rfl, rfl⟩
 have hd := mx_deck hf
 generalize seedD = s0 at hd
 obtain ⟨n, hn1, hn2, hnw⟩ := mx_next (l := l) (s := s0) (k := 4) (by omega)
 simp only [go_sem]
 refine CallU.boxes (i := 0) (is := []) (bx0 := [deckA l s0]) (con_dNext l s0 4 hd) (by simp only [go_sem]) (by simp only [go_sem]) (by simp only [go_sem]) (by simp only [go_sem]) (by simp only [go_sem]) ?_
 rintro r b ⟨rfl, rfl⟩
 have hd1 := nextS_dk (n := 4) hd
 generalize nextS l s0 4 = s1 at hd1
 obtain ⟨cols, hc1, hc2, hcw⟩ := mx_next (l := l) (s := s1) (k := 3) (by omega)
 simp only [go_sem, hnw]
 refine CallU.boxes (i := 0) (is := []) (bx0 := [deckA l s1]) (con_dNext l s1 3 hd1) (by simp only [go_sem]) (by simp only [go_sem]) (by simp only [go_sem]) (by simp only [go_sem]) (by simp only [go_sem]) ?_
 rintro r b ⟨rfl, rfl⟩
 have hd2 := nextS_dk (n := 3) hd1
 generalize nextS l s1 3 = s2 at hd2
 simp only [go_sem, hcw]
 refine CallU.boxes (i := 0) (is := []) (bx0 := [deckA l s2]) (con_dMatrix l s2 n cols hd2 (by omega) (by omega)) (by simp only [go_sem]) (by simp only [go_sem]) (by simp only [go_sem]) (by simp only [go_sem]) (by simp only [go_sem]) ?_
 rintro r b ⟨rfl, rfl⟩
 have hd3 : Dk l (mtS l s2 cols n) := mtS_dk hd2 n
 have hC : ChangeM (mtV l s2 cols n) := mtV_change hn1 (by omega) hc1 (by omega)
 have hlen : (mtV l s2 cols n).length = n := mtV_len _ _ _ _
 have hcol : (mtV l s2 cols n)[0]!.length = cols := (mtV_row l s2 cols n _ (mem_bang (by omega))).1
 generalize mtS l s2 cols n = s3 at hd3
 generalize mtV l s2 cols n = c at hC hlen hcol
 have hF := hC.valid.fits
 have h12 : ChangeM c → (ofL c).length ≤ 12 := fun h => by have := of_few h (by omega); omega
 simp only [go_sem]
 refine CallU.boxes (i := 0) (is := []) (bx0 := [deckA l s3]) (con_dSmallF l s3 n 6 hd3 (by omega) (by omega)) (by simp only [go_sem]) (by simp only [go_sem]) (by simp only [go_sem]) (by simp only [go_sem]) (by simp only [go_sem]) ?_
 rintro r b ⟨rfl, rfl⟩
 have hd4 : Dk l (smS l s3 6 n) := smS_dk hd3 n
 obtain ⟨hnow, hst0⟩ := start_now (c := c) (l := l) (s := s3) hlen.symm
 have hstl : (smV l s3 6 n).length = n := smV_len n
 generalize smS l s3 6 n = s4 at hd4
 generalize smV l s3 6 n = start at hnow hst0 hstl
 have hne : start ≠ [] := fun e => by rw [e] at hstl; simp at hstl; omega
 have hr0 : roomFor start.length 8 := by simp only [roomFor]; omega
 have hnil : (start.map vi = []) = False := eq_false (fun e => hne (List.map_eq_nil_iff.1 e))
 simp only [go_sem, hr0]
 have h6 := hC.six
 refine LoopK.freeze (fun _ => true) (fun p : Nat × DS × List Int => ⟨127, [(3, .pb 0 0), (5, vi cols), (6, vm 0 c), (7, vs 0 start), (8, vs 0 p.2.2), (9, vi p.1)], [deckA l p.2.1]⟩)
  (fun p => 8 - p.1) (fun p => p.1 ≤ 8 ∧ Dk l p.2.1 ∧ NowOk c start p.2.2 p.1) (0, s4, start) ⟨by show 0 ≤ 8; omega, hd4, hnow⟩ ?_ ?_
 ·simp only [go_sem]
 rintro ⟨k, s, now⟩ ⟨hk, hs, hN⟩
 simp only at hk hs hN
 have hnl := hN.len
 by_cases h : (k : Int) < 8
 case neg =>
  have hA := keeps_allows hC hk (by omega) hst0 hN
  have hcA := con_Allows c start now hF (by omega) (by omega) h12
  rw [hA] at hcA
  simp only [go_sem, h]
  refine CallU.free hcA (by simp only [go_sem]) (by simp only [go_sem]) ?_
  rintro r bx rfl
  simp only [go_sem]
  refine LoopK.intro (fun p : Nat => ⟨127, [(6, vm 0 c), (7, vs 0 start), (8, vs 0 now), (14, vb true), (15, vi 0), (90, vs 0 now), (91, vi c.length), (92, vi p)], [deckA l s]⟩)
   (fun p => c.length - p) (fun p => p ≤ c.length) 0 (by omega) ?_ ?_
  ·simp only [go_sem, hnl]
  intro p hp
  by_cases h2 : p < c.length
  case neg =>
   have hck := con_rmxCheck c hF
   rw [valid_check hC.valid] at hck
   simp only [go_sem, h2]
   refine CallU.free hck (by simp only [go_sem]) (by simp only [go_sem]) ?_
   rintro r bx rfl
   simp only [go_sem]
  have hw : IntKind.i64.wrap (p + 1) = p + 1 := wrap_in (by omega) (by omega)
  obtain ⟨b, f, hB, hbf⟩ := keeps_bound hC hk (by omega) hst0 hN h2
  have hcB := con_Bound c start p hF (by omega) h12
  rw [hB] at hcB
  have hpl : p < now.length := by omega
  have hgp := getv hpl
  simp only [go_sem, h2]
  refine CallU.free hcB (by simp only [go_sem]) (by simp only [go_sem]) ?_
  rintro r bx rfl
  cases f
  ·simp only [go_sem, hw]
   refine roundK.intro (p + 1) (by omega) (by omega) ?_
   simp only [go_sem]
  ·have hbf := hbf rfl
   have hlt : ¬ b < now[p]! := by omega
   simp only [go_sem, hpl, hgp, hlt, hw]
   refine roundK.intro (p + 1) (by omega) (by omega) ?_
   simp only [go_sem]
 have hwk : IntKind.i64.wrap (k + 1) = k + 1 := wrap_in (by omega) (by omega)
 have hcn := con_dNext l s cols hs
 have hs' : Dk l (nextS l s cols) := nextS_dk hs
 have hv := nextV_lt (l := l) (s := s) (n := (cols : Int)) (by omega)
 obtain ⟨r, hr⟩ : ∃ r : Nat, nextV l s cols = r := ⟨(nextV l s cols).toNat, by omega⟩
 rw [hr] at hcn hv
 generalize nextS l s cols = s' at hcn hs'
 have hne2 : now ≠ [] := fun e => by rw [e] at hnl; simp at hnl; omega
 have hr1 : roomFor now.length 8 := by simp only [roomFor]; omega
 have hnil2 : (now.map vi = []) = False := eq_false (fun e => hne2 (List.map_eq_nil_iff.1 e))
 simp only [go_sem, h]
 refine CallU.boxes (i := 0) (is := []) (bx0 := [deckA l s]) hcn (by simp only [go_sem]) (by simp only [go_sem]) (by simp only [go_sem]) (by simp only [go_sem]) (by simp only [go_sem]) ?_
 rintro r' b ⟨rfl, rfl⟩
 simp only [go_sem, hr1]
 refine LoopK.intro (fun i : Nat => ⟨127, [(3, .pb 0 0), (5, vi cols), (6, vm 0 c), (7, vs 0 start), (8, vs 0 now), (9, vi k), (10, vi r), (11, vs 3456 (adG c now r i)), (12, vb (fitG c now r i)), (54, vs 3456 (adG c now r i)), (55, vi c.length), (56, vi i)], [deckA l s']⟩)
  (fun i => c.length - i) (fun i => i ≤ c.length) 0 (by omega) ?_ ?_
 ·simp only [go_sem, adG_zero, fitG, hnl]
 intro i hi
 by_cases h3 : i < c.length
 ·have hwi : IntKind.i64.wrap (i + 1) = i + 1 := wrap_in (by omega) (by omega)
  have hrc : r < c[0]!.length := by omega
  have hil : i < now.length := by omega
  have ha1 : i < (adG c now r i).length := by rw [adG_len (by omega)]; exact hil
  have ha2 : i < (adG c now r (i + 1)).length := by rw [adG_len (by omega)]; exact hil
  have g1 := getv ha1
  rw [adG_at hil] at g1
  have g2 := getm h3
  have hrow : r < c[i]!.length := by rw [(hC.valid.row _ (mem_bang h3)).1]; exact hrc
  have g3 := getv hrow
  have g4 := getv ha2
  rw [adG_next hil] at g4
  have hset := adG_set (c := c) (r := r) hil
  have hlow := hN.low i h3
  have hel := el_low hC h3 hrc
  have hws : IntKind.i64.wrap (now[i]! + c[i]![r]!) = now[i]! + c[i]![r]! := wrap_in (by omega) (by omega)
  have hfn : fitG c now r (i + 1) = (fitG c now r i && decide (0 ≤ now[i]! + c[i]![r]!)) := rfl
  simp only [go_sem, h3]
  refine DrawK.walk 13 mixed (by kernel_rfl) ?_
  simp only [go_sem, ha1, g1, g2, h3, hrow, g3, hws, modify_vi, hset]
  cases hf : fitG c now r i
  ·rw [hf, Bool.false_and] at hfn
   simp only [go_sem, hwi]
   refine roundK.intro (i + 1) (by omega) (by omega) ?_
   simp only [go_sem, hfn]
  ·rw [hf, Bool.true_and] at hfn
   simp only [go_sem, ha2, g4, hwi]
   refine roundK.intro (i + 1) (by omega) (by omega) ?_
   simp only [go_sem, hfn]
 ·have e : i = now.length := by omega
  have hlast : adG c now r i = addC c now r := by rw [e]; exact adG_end c now r
  have hlt : ¬ (i : Int) < (c.length : Int) := by omega
  cases hf : fitG c now r i
  ·simp only [go_sem, h3, hwk]
   refine roundK.intro (k + 1, s', now) ⟨by show k + 1 ≤ 8; omega, hs', hN.more⟩ (by show 8 - (k + 1) < 8 - k; omega) ?_
   simp only [go_sem]
  ·have hst := hN.step hC (r := r) (by omega) (fun j hj => fitG_all _ hf j (by omega))
   simp only [go_sem, h3, hlast, hwk]
   refine roundK.freeze (fun _ => true) (k + 1, s', addC c now r) ⟨by show k + 1 ≤ 8; omega, hs', hst⟩ (by show 8 - (k + 1) < 8 - k; omega) ?_
   simp only [go_sem]
end Go.AM

/-! ## MxP -/
namespace Go.AM
open Go Go.Proofs Go.RowKit
open Go.La (sum sum_congr)
theorem kvB {m : List (List Int)} {rows cols : List Int} {all : Int} {f n : Nat} (hall : -884736 ≤ all ∧ all ≤ 884736) (hd : ∀ k, k < cols.length → -884736 ≤ detF m rows (cols.set k f) ∧ detF m rows (cols.set k f) ≤ 884736) :
  ∀ k, k ≤ cols.length → ∀ x ∈ kvGo m rows cols all f n k, -884736 ≤ x ∧ x ≤ 884736
 | 0, _, x, hx => by
  simp only [kvGo] at hx
  rcases List.mem_or_eq_of_mem_set hx with h | h
  ·have := List.eq_of_mem_replicate h; omega
  ·have e : w64 (-all) = -all := wrap_in (by omega) (by omega)
   rw [h, amtF, e]; omega
 | k + 1, hk, x, hx => by
  simp only [kvGo] at hx
  have := hd k (by omega)
  have e : w64 (0 - detF m rows (cols.set k f)) = 0 - detF m rows (cols.set k f) := wrap_in (by omega) (by omega)
  have e2 : w64 (0 - (0 - detF m rows (cols.set k f))) = 0 - (0 - detF m rows (cols.set k f)) := wrap_in (by omega) (by omega)
  rw [e, e2] at hx
  rcases List.mem_or_eq_of_mem_set hx with h | h
  ·exact kvB hall hd k (by omega) x h
  ·split at h <;> omega
theorem kern_small {m : List (List Int)} (hV : Valid m) (h3 : m.length ≤ 3) : ∀ v ∈ kernV m, ∀ x ∈ v, -884736 ≤ x ∧ x ≤ 884736 := by
 intro v hv x hx
 rw [kernV_eq] at hv
 obtain ⟨f, hf, rfl⟩ := List.mem_map.1 hv
 have hfl := (mem_free.1 hf).1
 obtain ⟨L1, L2, L3, L4⟩ := lead_len hV
 have hr : (leadF m).1.length ≤ 3 := by
  have := nodup_below _ _ (lead_nodup m m[0]!.length) (lead_ok m m[0]!.length).rows
  unfold leadF; omega
 have hdet : ∀ cols, Below m[0]!.length cols → cols.length ≤ 6 → -884736 ≤ detF m (leadF m).1 cols ∧ detF m (leadF m).1 cols ≤ 884736 := fun cols hc hcl => by
  obtain ⟨e1, e2, e3⟩ := det_eq m m[0]!.length hV.wide hV.slight (leadF m).1 cols L3 hc L1 hcl
  have : (96 : Int) ^ (leadF m).1.length ≤ 884736 := by
   have h : (leadF m).1.length = 0 ∨ (leadF m).1.length = 1 ∨ (leadF m).1.length = 2 ∨ (leadF m).1.length = 3 := by omega
   rcases h with h | h | h | h <;> rw [h] <;> decide
  omega
 have hkv : ∀ y ∈ kvK m f, -884736 ≤ y ∧ y ≤ 884736 := kvB (hdet _ L4 (by omega)) (fun k hk => hdet _ (fun x hx => by
  rcases List.mem_or_eq_of_mem_set hx with h' | h'
  ·exact L4 x h'
  ·omega) (by simp; omega)) _ (Nat.le_refl _)
 unfold primF at hx
 obtain ⟨y, hy, rfl⟩ := List.mem_map.1 hx
 have h1 := hkv y hy
 have h2 : (y.tdiv (gcdF (kvK m f))).natAbs ≤ y.natAbs := by rw [Int.natAbs_tdiv]; exact Nat.div_le_self _ _
 omega
theorem sem_small {c : List (List Int)} {p : Nat → Bool} {y : List Int} (hc : ChangeM c) (h3 : c[0]!.length ≤ 3) (hp : 0 < (inS p c.length).length) (h : semF c p = some y) : ∀ i, i < c.length → y[i]! ≤ 884736 := by
 intro i hi
 obtain ⟨v, hk, hpos, rfl⟩ := semF_some h
 have hV := turn_valid hc hp
 have hb := kern_small hV (by rw [turn_len]; exact h3) v (by rw [hk]; exact List.mem_singleton.2 rfl)
 obtain ⟨k1, _⟩ := kern_single hV hk
 rw [turn_at hc.valid.cpos, List.length_map] at k1
 rw [spr_at p v _ i hi]
 split
 ·rename_i hpi
  exact (hb _ (mem_bang (by have := inS_lt hpi c.length hi; omega))).2
 ·omega
theorem ofS_small {c : List (List Int)} (hc : ChangeM c) (h3 : c[0]!.length ≤ 3) : ∀ y ∈ ofS c, ∀ i, i < c.length → 0 ≤ y[i]! ∧ y[i]! ≤ 884736 := fun y hy i hi => by
 obtain ⟨s, hs, h0, hsem, _, hlow, _⟩ := of_mem hc ((asc_perm (ofL c)).subset hy)
 exact ⟨(hlow i hi).1, sem_small hc h3 (bits_some _ hc.six s hs h0) hsem i hi⟩
def tuW (row : List Int) : List Int := row.reverse ++ [row[0]!]
def tuA (row : List Int) (k : Nat) : List Int := (row.drop (row.length - k)).reverse
theorem tuA_zero (row : List Int) : tuA row 0 = [] := by simp [tuA]
theorem tuA_all (row : List Int) : tuA row row.length = row.reverse := by simp [tuA]
theorem tuA_len {row : List Int} {k : Nat} (h : k ≤ row.length) : (tuA row k).length = k := by simp [tuA]; omega
theorem tuA_next {row : List Int} {k : Nat} (h : k < row.length) : tuA row (k + 1) = tuA row k ++ [row[row.length - 1 - k]!] := by
 unfold tuA
 have e : row.length - (k + 1) < row.length := by omega
 rw [List.drop_eq_getElem_cons e, List.reverse_cons, show row.length - (k + 1) + 1 = row.length - k by omega, getElem!_pos row (row.length - 1 - k) (by omega)]
 have e2 : row.length - (k + 1) = row.length - 1 - k := by omega
 simp only [e2]
def tuM (c : List (List Int)) (n i : Nat) (R : List Int) : List (List Int) := (List.range n).map fun q => if q < i then tuW c[q]! else if q = i then R else []
theorem tuM_len (c : List (List Int)) (n i : Nat) (R : List Int) : (tuM c n i R).length = n := by simp [tuM]
theorem tuM_at {c : List (List Int)} {n i q : Nat} {R : List Int} (h : q < n) : (tuM c n i R)[q]! = if q < i then tuW c[q]! else if q = i then R else [] := by
 rw [getElem!_pos _ q (by rw [tuM_len]; exact h)]; simp [tuM]
theorem tuM_zero (c : List (List Int)) (n : Nat) : tuM c n 0 [] = List.replicate n [] := by
 apply List.ext_getElem (by simp [tuM])
 intro q h1 h2
 simp [tuM]
theorem tuM_ext {l l' : List (List Int)} (h : l.length = l'.length) (he : ∀ q, q < l.length → l[q]! = l'[q]!) : l = l' :=
 List.ext_getElem h fun q h1 h2 => by have := he q h1; rwa [getElem!_pos l q h1, getElem!_pos l' q h2] at this
theorem tuM_set {c : List (List Int)} {n i : Nat} {R R' : List Int} (h : i < n) : (tuM c n i R).set i R' = tuM c n i R' := by
 refine tuM_ext (by simp [tuM_len]) fun q hq => ?_
 rw [List.length_set, tuM_len] at hq
 rw [bang_setR (by rw [tuM_len]; exact h), tuM_at hq, tuM_at hq]
 by_cases e : q = i
 ·subst e; simp
 ·rw [if_neg e, if_neg e, if_neg e]
theorem tuM_next {c : List (List Int)} {n i : Nat} : tuM c n i (tuW c[i]!) = tuM c n (i + 1) [] := by
 refine tuM_ext (by simp [tuM_len]) fun q hq => ?_
 rw [tuM_len] at hq
 rw [tuM_at hq, tuM_at hq]
 by_cases e : q = i
 ·subst e; rw [if_neg (by omega), if_pos rfl, if_pos (by omega)]
 ·by_cases h : q < i
  ·rw [if_pos h, if_pos (by omega)]
  ·rw [if_neg h, if_neg e, if_neg (by omega)]
   split <;> rfl
theorem tuM_done (c : List (List Int)) : tuM c c.length c.length [] = c.map tuW := by
 refine tuM_ext (by simp [tuM_len]) fun q hq => ?_
 rw [tuM_len] at hq
 rw [tuM_at hq, if_pos hq, getElem!_pos (c.map tuW) q (by simpa using hq), List.getElem_map, getElem!_pos c q hq]
theorem tuW_len (row : List Int) : (tuW row).length = row.length + 1 := by simp [tuW]
theorem tuW_at {row : List Int} {r : Nat} (h : r < row.length) : (tuW row)[r]! = row[row.length - 1 - r]! := by
 rw [getElem!_pos _ r (by rw [tuW_len]; omega), getElem!_pos row _ (by omega)]
 unfold tuW
 rw [List.getElem_append_left (by simpa using h), List.getElem_reverse]
theorem tuW_last (row : List Int) : (tuW row)[row.length]! = row[0]! := by
 rw [getElem!_pos _ _ (by rw [tuW_len]; omega)]
 unfold tuW
 rw [List.getElem_append_right (by simp)]
 simp
theorem tu_change {c : List (List Int)} (hc : ChangeM c) (h : c[0]!.length ≤ 5) : ChangeM (c.map tuW) := by
 have hv := hc.valid
 have h6 := hc.six
 have hp := hv.pos
 have e0 : (c.map tuW)[0]!.length = c[0]!.length + 1 := by
  rw [getElem!_pos _ 0 (by simpa using hp), List.getElem_map, tuW_len, getElem!_pos c 0 hp]
 refine ⟨⟨by simpa using hp, by simp; omega, by omega, by omega, by simp; omega, fun row hr => ?_⟩, by simpa using h6⟩
 obtain ⟨x, hx, rfl⟩ := List.mem_map.1 hr
 obtain ⟨x1, x2⟩ := hv.row x hx
 refine ⟨by rw [tuW_len, e0, x1], fun y hy => ?_⟩
 unfold tuW at hy
 rcases List.mem_append.1 hy with hy | hy
 ·exact x2 y (List.mem_reverse.1 hy)
 ·rw [List.mem_singleton] at hy; subst hy
  exact x2 _ (mem_bang (by have := hv.cpos; omega))
theorem tu_flow {c : List (List Int)} (hc : ChangeM c) (y : Nat → Int) : FlowOf c y ↔ FlowOf (c.map tuW) y := by
 have hv := hc.valid
 have hp := hv.pos
 have hcp := hv.cpos
 have e0 : (c.map tuW)[0]!.length = c[0]!.length + 1 := by
  rw [getElem!_pos _ 0 (by simpa using hp), List.getElem_map, tuW_len, getElem!_pos c 0 hp]
 have el : (c.map tuW).length = c.length := by simp
 have ei : ∀ i, i < c.length → (c.map tuW)[i]! = tuW c[i]! := fun i hi => by
  rw [getElem!_pos _ i (by simpa using hi), List.getElem_map, getElem!_pos c i hi]
 have hrow : ∀ i, i < c.length → c[i]!.length = c[0]!.length := fun i hi => (hv.row _ (mem_bang hi)).1
 unfold FlowOf
 rw [e0, el]
 refine ⟨fun h r hr => ?_, fun h r hr => ?_⟩
 ·by_cases e : r = c[0]!.length
  ·rw [← h 0 hcp]
   refine sum_congr _ fun i hi => ?_
   rw [ei i hi, e, ← hrow i hi, tuW_last]
  ·rw [← h (c[0]!.length - 1 - r) (by omega)]
   refine sum_congr _ fun i hi => ?_
   rw [ei i hi, tuW_at (by rw [hrow i hi]; omega), hrow i hi]
 ·rw [← h (c[0]!.length - 1 - r) (by omega)]
  refine sum_congr _ fun i hi => ?_
  rw [ei i hi, tuW_at (by rw [hrow i hi]; omega), hrow i hi, show c[0]!.length - 1 - (c[0]!.length - 1 - r) = r by omega]
theorem tu_of {c : List (List Int)} (hc : ChangeM c) (h : c[0]!.length ≤ 5) : ofS (c.map tuW) = ofS c := by
 have hc' := tu_change hc h
 have el : (c.map tuW).length = c.length := by simp
 have hb : ∀ s, s < 2 ^ c.length → semB (c.map tuW) s = semB c s := fun s hs => by
  unfold semB
  by_cases h0 : s = 0
  ·rw [if_pos h0, if_pos h0]
  ·rw [if_neg h0, if_neg h0]
   exact (semF_congr hc hc' el.symm (tu_flow hc) (bits_some _ hc.six s hs h0)).symm
 have e : ofL (c.map tuW) = ofL c := by
  unfold ofL
  rw [el]
  have key : ∀ l : List Nat, (∀ s ∈ l, s < 2 ^ c.length) → l.filterMap (semB (c.map tuW)) = l.filterMap (semB c) := by
   intro l hl
   induction l with
   | nil => rfl
   | cons s l ih =>
    rw [List.filterMap_cons, List.filterMap_cons, ih fun s hs => hl s (List.mem_cons_of_mem _ hs), hb s (hl s (List.mem_cons_self ..))]
  exact key _ fun s hs => List.mem_range.1 hs
 unfold ofS; rw [e]
theorem sums_hold {c : List (List Int)} (hc : ChangeM c) (h3 : c[0]!.length ≤ 3) {x y z : List Int} (hx : x ∈ ofS c) (hy : y ∈ ofS c) (hl : z.length = c.length) (hz : ∀ i, i < c.length → z[i]! = 2 * x[i]! + y[i]!) : sflowF c z = true := by
 have hOk := flows_ok hc
 have hxs := ofS_small hc h3 x hx
 have hys := ofS_small hc h3 y hy
 refine holds_of hc hl (fun i hi => ?_) ?_ (fun r hr => ?_)
 ·rw [hz i hi]
  have := hxs i hi; have := hys i hi; omega
 ·obtain ⟨_, _, _, ⟨i, hi, hp⟩, _⟩ := holds_inv (hOk.holds x hx)
  exact ⟨i, hi, by rw [hz i hi]; have := hys i hi; omega⟩
 ·have h1 := hOk.flow x hx r hr
  have h2 := hOk.flow y hy r hr
  have key : ∀ n, n ≤ c.length → sum (fun i => z[i]! * c[i]![r]!) n = 2 * sum (fun i => x[i]! * c[i]![r]!) n + sum (fun i => y[i]! * c[i]![r]!) n := by
   intro n
   induction n with
   | zero => intro _; simp [sum]
   | succ n ih =>
    intro hn
    simp only [sum]
    rw [ih (by omega), hz n (by omega), Int.add_mul, Int.mul_assoc]
    omega
  rw [key _ (Nat.le_refl _)]
  simp only at h1 h2
  rw [h1, h2]; rfl
end Go.AM

/-! ## KI -/
namespace Go.AM
open Go Go.Proofs Go.RowKit
def rowsT (t : Nat) (M : List (List Int)) : List AV := M.mapIdx fun i r => .sl (subT t i) 1 (r.map vi)
def vtT (t : Nat) (M : List (List Int)) : AV := .so t (rowsT t M)
attribute [go_sem] vtT
@[go_sem] theorem rowsT_len {t : Nat} {M : List (List Int)} : (rowsT t M).length = M.length := by simp [rowsT]
theorem rowsT_at {t i : Nat} {M : List (List Int)} : (rowsT t M)[i]? = (M[i]?).map fun r => .sl (subT t i) 1 (r.map vi) := by simp [rowsT, List.getElem?_mapIdx]
theorem gettT {t i : Nat} {M : List (List Int)} (h : i < M.length) : (rowsT t M)[i]? = some (.sl (subT t i) 1 (M[i]!.map vi)) := by rw [rowsT_at]; simp [h]
@[go_sem] theorem rowsT_nil {t : Nat} : rowsT t [] = [] := rfl
theorem rowsT_ext {t : Nat} {M : List (List Int)} {l : List AV} (hl : l.length = M.length) (h : ∀ i, i < M.length → l[i]? = some (.sl (subT t i) 1 (M[i]!.map vi))) : l = rowsT t M := by
 apply List.ext_getElem?
 intro i
 by_cases hi : i < M.length
 ·rw [h i hi, gettT hi]
 ·rw [List.getElem?_eq_none (by omega), List.getElem?_eq_none (by rw [rowsT_len]; omega)]
theorem rowsT_frz {t : Nat} {M : List (List Int)} {f : AV → AV} (h : ∀ i r, f (.sl (subT t i) 1 (List.map vi r)) = .sl 0 1 (List.map vi r)) : (rowsT t M).map f = M.map (vs 0) := by
 apply List.ext_getElem?
 intro j
 rw [List.getElem?_map, rowsT_at, List.getElem?_map]
 cases M[j]? with
 | none => rfl
 | some r => simp [h, vs]
@[go_sem] theorem rowsT_view {t : Nat} {M : List (List Int)} : (rowsT t M).map viewRow = M.map (vs 0) := rowsT_frz fun i r => by simp only [viewRow, sub_two, if_true]
theorem rowsT_freeze {t : Nat} {p : Nat → Bool} {M : List (List Int)} (h : p (root t) = true) : (rowsT t M).map (freezeRow p) = M.map (vs 0) := rowsT_frz fun i r => by simp only [freezeRow, sub_two, root_sub, h, and_self, if_true]
@[go_sem] theorem rowsT_freezeT {t : Nat} {M : List (List Int)} : (rowsT t M).map (freezeRow fun _ => true) = M.map (vs 0) := rowsT_freeze rfl
theorem rowsT_killset {t i : Nat} {M : List (List Int)} {r : List Int} : ((rowsT t M).map (killRow (subT t i))).set i (.sl (subT t i) 1 (r.map vi)) = rowsT t (M.set i r) := by
 refine rowsT_ext (by simp [rowsT_len]) fun j hj => ?_
 rw [List.length_set] at hj
 rw [List.getElem?_set]
 by_cases h : i = j
 ·subst h
  rw [if_pos rfl, if_pos (by simp [rowsT_len]; exact hj)]
  simp [hj]
 ·rw [if_neg h, List.getElem?_map, gettT hj, Option.map_some]
  simp only [killRow, sub_sub, true_and, if_neg (Ne.symm h)]
  rw [getElem!_pos M j hj, getElem!_pos (M.set i r) j (by simpa using hj), List.getElem_set_ne h]
theorem rowsLe_nilsT {t n : Nat} : rowsLe (root t) (List.replicate n .nil) (rowsT t (List.replicate n [])) := by
 refine ⟨by simp [rowsT_len], fun j x y hx hy => ?_⟩
 have hj : j < n := by have := (List.getElem?_eq_some_iff.1 hx).1; simpa using this
 rw [gettT (by simpa using hj)] at hy
 simp only [Option.some.injEq] at hy
 simp [hj] at hx
 subst hx; subst hy
 have e : (List.replicate n ([] : List Int))[j]! = [] := by rw [getElem!_pos _ _ (by simpa using hj)]; simp
 rw [e]
 exact ⟨rfl, .inr (.inr ⟨rfl, subT t j, 1, by have := sub_big t j; omega, root_sub t j, rfl⟩)⟩
theorem rowsT_killset2 {t i : Nat} {M : List (List Int)} {r : List Int} (h : t < 1048576) : ((rowsT t M).map (killRow t ∘ killRow (subT t i))).set i (.sl (subT t i) 1 (r.map vi)) = rowsT t (M.set i r) := by
 have e : (rowsT t M).map (killRow t ∘ killRow (subT t i)) = (rowsT t M).map (killRow (subT t i)) := by
  apply List.ext_getElem?
  intro j
  simp only [List.getElem?_map, rowsT_at, Option.map_map]
  cases M[j]? with
  | none => rfl
  | some r =>
   simp only [Option.map_some, Function.comp, Option.some.injEq]
   by_cases hji : j = i
   ·subst hji; simp [killRow]
   ·simp [killRow, sub_sub, hji, sub_lit h]
 rw [e, rowsT_killset]
end Go.AM

/-! ## MxQ -/
namespace Go.AM
open Go Go.Proofs Go.RowKit
set_option maxRecDepth 100000
set_option maxHeartbeats 8000000
theorem con_mxSameAll (a b : List (List Int)) (ha : a.length ≤ 1000000) (hr : ∀ x ∈ a, x.length ≤ 1000000) : Con Try.prog 16 [vm 0 a, vm 0 b] [] fun r _ => r = vb (a == b) := by
 refine Con.intro Try.func16 rfl Try.ntmps16 Try.results16 (by kernel_rfl) (by simp) 0 (by simp) ?_
 by_cases hl : a.length = b.length
 case neg =>
  have hb : ((a.length : Int) != (b.length : Int)) = true := bne_iff_ne.2 (by omega)
  have e : (a == b) = false := by rw [beq_eq_false_iff_ne]; intro e; exact hl (by rw [e])
  simp only [go_sem, hb, e]
 have hb : ((a.length : Int) != (b.length : Int)) = false := by rw [hl]; simp
 simp only [go_sem, hb]
 refine LoopK.intro (fun i : Nat => ⟨27, [(0, vm 0 a), (1, vm 0 b), (5, vi i)], []⟩)
  (fun i => a.length - i) (fun i => i ≤ a.length ∧ ∀ j, j < i → a[j]! = b[j]!) 0 ⟨by omega, fun j hj => by omega⟩ ?_ ?_
 ·simp only [go_sem]
 rintro i ⟨hi, he⟩
 by_cases h : i < a.length
 ·have h2 : i < b.length := by omega
  have g1 := getm h
  have g2 := getm h2
  have hw : IntKind.i64.wrap (i + 1) = i + 1 := wrap_in (by omega) (by omega)
  simp only [go_sem, h]
  refine DrawK.walk 10 mixed (by kernel_rfl) ?_
  simp only [go_sem, h, h2, g1, g2]
  refine CallY.mk (con_rsameI a[i]! b[i]! (hr _ (mem_bang h))) (by simp only [go_sem]) (by simp only [go_sem]) (.inl (by simp only [go_sem])) ?_
  cases hc : (a[i]! == b[i]!)
  ·have e : (a == b) = false := by rw [beq_eq_false_iff_ne] at hc ⊢; intro e; exact hc (by rw [e])
   simp only [go_sem, e]
  ·simp only [go_sem, hw]
   refine roundK.intro (i + 1) ⟨by omega, fun j hj => ?_⟩ (by omega) ?_
   ·by_cases hji : j = i
    ·subst hji; exact beq_iff_eq.1 hc
    ·exact he j (by omega)
   ·simp only [go_sem]
 ·have e : (a == b) = true := beq_iff_eq.2 (tuM_ext hl fun q hq => he q (by omega))
  simp only [go_sem, h, e]
def dbG (x y : List Int) (k : Nat) : List Int := (List.range k).map fun i => 2 * x[i]! + y[i]!
theorem dbG_succ (x y : List Int) (k : Nat) : dbG x y (k + 1) = dbG x y k ++ [2 * x[k]! + y[k]!] := by unfold dbG; rw [List.range_succ, List.map_append]; rfl
theorem dbG_len (x y : List Int) (k : Nat) : (dbG x y k).length = k := by simp [dbG]
theorem dbG_at {x y : List Int} {n i : Nat} (h : i < n) : (dbG x y n)[i]! = 2 * x[i]! + y[i]! := by
 rw [getElem!_pos _ i (by rw [dbG_len]; exact h)]; simp [dbG]
theorem con_mxSumsLaw (l : List Int) : Con Try.prog 7 [vs 0 l] [] fun r _ => r = vb true := by
 refine Con.intro Try.func7 rfl Try.ntmps7 Try.results7 (by kernel_rfl) (by simp) 0 (by simp) ?_
 simp only [go_sem]
 refine CallU.free con_awake (by simp only [go_sem]) (by simp only [go_sem]) ?_
 rintro r bx rfl
 simp only [go_sem]
 refine CallU.free (con_few l 0 (by omega)) (by simp only [go_sem]) (by simp only [go_sem]) ?_
 rintro r bx rfl
 by_cases hf : (l.length : Int) ≤ 400
 case neg =>
  have hf' : ¬ l.length ≤ 400 := by omega
  simp only [go_sem, hf']
  refine CallU.free con_awake (by simp only [go_sem]) (by simp only [go_sem]) ?_
  rintro r bx rfl
  simp only [go_sem]
 have hf' : l.length ≤ 400 := by omega
 simp only [go_sem, hf']
 refine CallU.news (bx0 := []) (con_dNewS l) (by simp only [go_sem]) (by simp only [go_sem]) (by simp only [go_sem]) (by simp only [go_sem]) (by simp only [go_sem]) ?_
 rintro r b ⟨rfl, rfl⟩
 have hd := mx_deck hf
 generalize seedD = s0 at hd
 obtain ⟨n, hn1, hn2, hnw⟩ := mx_next (l := l) (s := s0) (k := 4) (by omega)
 simp only [go_sem]
 refine CallU.boxes (i := 0) (is := []) (bx0 := [deckA l s0]) (con_dNext l s0 4 hd) (by simp only [go_sem]) (by simp only [go_sem]) (by simp only [go_sem]) (by simp only [go_sem]) (by simp only [go_sem]) ?_
 rintro r b ⟨rfl, rfl⟩
 have hd1 := nextS_dk (n := 4) hd
 generalize nextS l s0 4 = s1 at hd1
 obtain ⟨cols, hc1, hc2, hcw⟩ := mx_next (l := l) (s := s1) (k := 3) (by omega)
 simp only [go_sem, hnw]
 refine CallU.boxes (i := 0) (is := []) (bx0 := [deckA l s1]) (con_dNext l s1 3 hd1) (by simp only [go_sem]) (by simp only [go_sem]) (by simp only [go_sem]) (by simp only [go_sem]) (by simp only [go_sem]) ?_
 rintro r b ⟨rfl, rfl⟩
 have hd2 := nextS_dk (n := 3) hd1
 generalize nextS l s1 3 = s2 at hd2
 simp only [go_sem, hcw]
 refine CallU.boxes (i := 0) (is := []) (bx0 := [deckA l s2]) (con_dMatrix l s2 n cols hd2 (by omega) (by omega)) (by simp only [go_sem]) (by simp only [go_sem]) (by simp only [go_sem]) (by simp only [go_sem]) (by simp only [go_sem]) ?_
 rintro r b ⟨rfl, rfl⟩
 have hd3 : Dk l (mtS l s2 cols n) := mtS_dk hd2 n
 have hC : ChangeM (mtV l s2 cols n) := mtV_change hn1 (by omega) hc1 (by omega)
 have hlen : (mtV l s2 cols n).length = n := mtV_len _ _ _ _
 have hcol : (mtV l s2 cols n)[0]!.length = cols := (mtV_row l s2 cols n _ (mem_bang (by omega))).1
 generalize mtS l s2 cols n = s3 at hd3
 generalize mtV l s2 cols n = c at hC hlen hcol
 have hn4 : n ≤ 4 := by omega
 have hc3 : cols ≤ 3 := by omega
 clear hnw hcw hn2 hc2
 have hF := hC.valid.fits
 have h12 : ChangeM c → (ofL c).length ≤ 12 := fun h => by have := of_few h (by omega); omega
 have hOf := con_Of c hF h12
 have eR : ofR c = .tup [vm 2 (ofS c), vi 0] := by unfold ofR; rw [if_pos (sch_ok hC)]
 rw [eR] at hOf
 have hC2 := tu_change hC (by omega)
 have h122 : ChangeM (c.map tuW) → (ofL (c.map tuW)).length ≤ 12 := fun h => by have := of_few h (by simp; omega); omega
 have hOf2 := con_Of (c.map tuW) hC2.valid.fits h122
 have eR2 : ofR (c.map tuW) = .tup [vm 2 (ofS c), vi 0] := by unfold ofR; rw [if_pos (sch_ok hC2), tu_of hC (by omega)]
 rw [eR2] at hOf2
 have hOk := flows_ok hC
 have hSl := ofS_len (c := c)
 have hS12 := h12 hC
 have hSum := fun (x y z : List Int) hx hy hl hz => sums_hold (x := x) (y := y) (z := z) hC (by omega) hx hy hl hz
 have h6 := hC.six
 have hrowl : ∀ i, i < c.length → c[i]!.length = cols := fun i hi => by rw [← hcol]; exact (hC.valid.row _ (mem_bang hi)).1
 have hcne : 0 < cols := by omega
 generalize ofS c = S at hOf hOf2 hOk hSl hSum
 simp only [go_sem]
 refine CallU.freeze hOf (by simp only [go_sem]) (by simp only [go_sem]) ?_
 rintro r bx rfl
 simp only [go_sem]
 refine ⟨by omega, by omega, by omega, ?_⟩
 refine LoopK.intro (fun i : Nat => ⟨146, [(3, .pb 0 0), (5, vm 0 c), (6, .sl 2498 1 (S.map (vs 0))), (7, vi 0), (8, vtT 2752 (tuM c n i [])), (43, vm 0 c), (44, vi n), (45, vi i)], [deckA l s3]⟩)
  (fun i => n - i) (fun i => i ≤ n) 0 (by omega) ?_ ?_
 ·simp only [go_sem, tuM_zero, hlen]
  exact leV_slso (by omega) rowsLe_nilsT
 intro i hi
 by_cases h : i < n
 case neg =>
  have ein : i = n := by omega
  subst ein
  have hdone : tuM c i i [] = c.map tuW := by rw [← hlen]; exact tuM_done c
  have hrS : ∀ x ∈ S, x.length ≤ 1000000 := fun x hx => by have := hOk.len x hx; omega
  have hcs := con_mxSameAll S S (by omega) hrS
  rw [beq_self_eq_true] at hcs
  simp only [go_sem, h, hdone]
  refine CallU.freeze hOf2 (by simp only [go_sem]) (by simp only [go_sem]) ?_
  rintro r bx rfl
  simp only [go_sem]
  refine CallU.flat hcs (by simp only [go_sem]) (by simp only [go_sem]) ?_
  rintro r bx rfl
  by_cases h0 : S.length = 0
  ·simp only [go_sem, h0]
  have h0b : ((S.length : Int) == 0) = false := beq_eq_false_iff_ne.2 (by omega)
  simp only [go_sem, h0b]
  have hcn := con_dNext l s3 S.length hd3
  have hd4 : Dk l (nextS l s3 S.length) := nextS_dk hd3
  have hv1 := nextV_lt (l := l) (s := s3) (n := (S.length : Int)) (by omega)
  obtain ⟨p, hp⟩ : ∃ p : Nat, nextV l s3 S.length = p := ⟨(nextV l s3 S.length).toNat, by omega⟩
  rw [hp] at hcn hv1
  generalize nextS l s3 S.length = s4 at hcn hd4
  have hcn2 := con_dNext l s4 S.length hd4
  have hv2 := nextV_lt (l := l) (s := s4) (n := (S.length : Int)) (by omega)
  obtain ⟨q, hq⟩ : ∃ q : Nat, nextV l s4 S.length = q := ⟨(nextV l s4 S.length).toNat, by omega⟩
  rw [hq] at hcn2 hv2
  generalize nextS l s4 S.length = s5 at hcn2
  clear hp hq
  have hpl : p < S.length := by omega
  have hql : q < S.length := by omega
  have gp := getm hpl
  have gq := getm hql
  have hxl := hOk.len _ (mem_bang hpl)
  have hyl := hOk.len _ (mem_bang hql)
  refine DrawK.meet ⟨146, [(5, vm 0 c), (13, vs 0 S[p]!), (14, vs 0 S[q]!)], [deckA l s5]⟩ ?_ ?_
  ·refine DrawK.effs0 0 [4, 11] [7, 12] 14 (.one 14 (.one 15 .done)) (some (13, .alt (.one 13 (.one 14 (.one 15 .done))) (.one 14 (.one 13 (.one 15 .done))))) (deckA l s3) mixed (by kernel_rfl) (by kernel_rfl) (by simp only [go_sem]) (by simp only [go_sem]) ?_
   simp only [go_sem]
   refine EffK.mk hcn (by simp only [go_sem]) (by simp only [go_sem]) (by simp only [go_sem]) (by simp only [go_sem]) ?_
   simp only [go_sem, hpl, gp]
   refine EffK.mk hcn2 (by simp only [go_sem]) (by simp only [go_sem]) (by simp only [go_sem]) (by simp only [go_sem]) ?_
   simp only [go_sem, hql, gq]
  ·simp only [go_sem]
   refine LoopK.intro (fun j : Nat => ⟨146, [(5, vm 0 c), (13, vs 0 S[p]!), (14, vs 0 S[q]!), (15, vs 9088 (dbG S[p]! S[q]! j)), (124, vs 0 S[p]!), (125, vi i), (126, vi j)], [deckA l s5]⟩)
    (fun j => i - j) (fun j => j ≤ i) 0 (by omega) ?_ ?_
   ·simp only [go_sem, dbG, hxl, hlen, List.range_zero, List.map_nil]
   intro j hj
   by_cases hlt : j < i
   ·have hwj : IntKind.i64.wrap (j + 1) = j + 1 := wrap_in (by omega) (by omega)
    have hx1 : j < S[p]!.length := by omega
    have hy1 : j < S[q]!.length := by omega
    have gx := getv hx1
    have gy := getv hy1
    have bx1 := hOk.low _ (mem_bang hpl) j (by omega)
    have by1 := hOk.low _ (mem_bang hql) j (by omega)
    have hw2 : IntKind.i64.wrap (2 * S[p]![j]!) = 2 * S[p]![j]! := wrap_in (by omega) (by omega)
    have hw3 : IntKind.i64.wrap (2 * S[p]![j]! + S[q]![j]!) = 2 * S[p]![j]! + S[q]![j]! := wrap_in (by omega) (by omega)
    have hdl := dbG_len S[p]! S[q]! j
    have hds := dbG_succ S[p]! S[q]! j
    simp only [go_sem, hlt]
    refine DrawK.walk 12 mixed (by kernel_rfl) ?_
    simp only [go_sem, hx1, hy1, gx, gy, hw2, hw3]
    refine ⟨by simp only [roomFor]; omega, ?_⟩
    simp only [go_sem, hwj]
    refine roundK.intro (j + 1) (by omega) (by omega) ?_
    simp only [go_sem, hds, List.map_append, List.map_cons, List.map_nil]
   ·have eji : j = i := by omega
    subst eji
    have hh := con_Holds c (dbG S[p]! S[q]! j) hF (by rw [dbG_len]; omega)
    rw [hSum S[p]! S[q]! _ (mem_bang hpl) (mem_bang hql) (by rw [dbG_len, hlen]) (fun a ha => dbG_at (by omega))] at hh
    simp only [go_sem, hlt]
    refine CallU.flat hh (by simp only [go_sem]) (by simp only [go_sem]) ?_
    rintro r bx rfl
    simp only [go_sem]
 have hic : i < c.length := by omega
 have hg := getm hic
 have hrl := hrowl i hic
 have hw : IntKind.i64.wrap (i + 1) = i + 1 := wrap_in (by omega) (by omega)
 have hwr : IntKind.i64.wrap ((cols : Int) - 1) = (cols : Int) - 1 := wrap_in (by omega) (by omega)
 simp only [go_sem, h, hic, hg, hrl, hwr]
 refine LoopK.intro (fun k : Nat => ⟨146, [(3, .pb 0 0), (5, vm 0 c), (6, .sl 2498 1 (S.map (vs 0))), (7, vi 0), (8, vtT 2752 (tuM c n i (tuA c[i]! k))), (9, vi i), (10, vi ((cols : Int) - 1 - k)), (43, vm 0 c), (44, vi n), (45, vi i)], [deckA l s3]⟩)
  (fun k => cols - k) (fun k => k ≤ cols) 0 (by omega) ?_ ?_
 ·simp only [go_sem, tuA_zero]
  all_goals exact leV_int (by omega)
 intro k hk
 have htl : i < (tuM c n i (tuA c[i]! k)).length := by rw [tuM_len]; exact h
 have hta : (tuM c n i (tuA c[i]! k))[i]! = tuA c[i]! k := by rw [tuM_at h, if_neg (by omega), if_pos rfl]
 have hgt := gettT (t := 2752) htl
 rw [hta] at hgt
 have hal := tuA_len (row := c[i]!) (k := k) (by omega)
 by_cases h2 : k < cols
 case neg =>
  have ek : k = cols := by omega
  subst ek
  have hnn : ¬ (0 : Int) ≤ (k : Int) - 1 - k := by omega
  have hl0 : 0 < c[i]!.length := by rw [hrl]; exact hcne
  have hg0 := getv hl0
  have hset : (tuM c n i (tuA c[i]! k)).set i (tuA c[i]! k ++ [c[i]![0]!]) = tuM c n (i + 1) [] := by
   rw [tuM_set h, ← hrl, tuA_all, ← tuM_next]; rfl
  have ec : (tuA c[i]! k).map vi ++ [AV.sc (.int .i64 c[i]![0]!)] = (tuA c[i]! k ++ [c[i]![0]!]).map vi := by rw [List.map_append]; rfl
  simp only [go_sem, hnn]
  refine DrawK.front [0, 1] 13 mixed (by kernel_rfl) ?_
  simp only [go_sem, htl, hgt, hic, hg, hg0, hl0]
  refine ⟨by simp only [roomFor]; omega, ?_⟩
  rw [ec, rowsT_killset2 (t := 2752) (by omega), hset]
  simp only [go_sem, hw]
  refine roundK.intro (i + 1) (by omega) (by omega) ?_
  simp only [go_sem]
 obtain ⟨m, hm, hmc⟩ : ∃ m : Nat, (cols : Int) - 1 - k = m ∧ m = cols - 1 - k := ⟨cols - 1 - k, by omega, rfl⟩
 have hml : m < c[i]!.length := by omega
 have hgm := getv hml
 have hwm : IntKind.i64.wrap ((m : Int) - 1) = (m : Int) - 1 := wrap_in (by omega) (by omega)
 have hset : (tuM c n i (tuA c[i]! k)).set i (tuA c[i]! k ++ [c[i]![m]!]) = tuM c n i (tuA c[i]! (k + 1)) := by
  rw [tuM_set h, tuA_next (by omega), hrl, hmc]
 have ec : (tuA c[i]! k).map vi ++ [AV.sc (.int .i64 c[i]![m]!)] = (tuA c[i]! k ++ [c[i]![m]!]).map vi := by rw [List.map_append]; rfl
 rw [hm]
 simp only [go_sem]
 refine DrawK.front [0, 1] 14 mixed (by kernel_rfl) ?_
 simp only [go_sem, htl, hgt, hic, hg, hml, hgm]
 refine ⟨by simp only [roomFor]; omega, ?_⟩
 rw [ec, rowsT_killset2 (t := 2752) (by omega), hset]
 simp only [go_sem, hwm]
 refine roundK.intro (k + 1) (by omega) (by omega) ?_
 simp only [go_sem]
 all_goals exact leV_int (by omega)
end Go.AM

/-! ## Am3 -/
namespace Go.AM
open Go.ChangeShapes Go.WideShapes Go.ChangeAt Go.RowKit
section
variable {H : Type} {enc : TypeId × Value → H} {P : Program} {w : World} {base : Nat} {spare : Nat → Bool} {held : Bool}
end
end Go.AM

/-! ## CmB0 -/
namespace Go.Proofs.Ytoglpcfaojcmeaa
open Go.ChangeShapes Go.WideShapes Go.ChangeAt Go.RowKit Go.AM
theorem own : ownKnob Try.prog.godebug = none := by kernel_rfl
theorem laidOut : laidOutB Try.prog = true := by kernel_rfl
theorem read22 : Try.prog.readableRec 22 = true ∧ 22 < Try.prog.types.size := ⟨by kernel_rfl, of_decide_eq_true (by kernel_rfl)⟩
theorem reads22 (n : Nat) : ∀ t ∈ List.replicate n 22, Try.prog.readableRec t = true ∧ t < Try.prog.types.size := fun t ht => by rw [List.eq_of_mem_replicate ht]; exact read22
section
variable {H : Type} {enc : TypeId × Value → H} {P : Program} {w : World} {base : Nat} {spare : Nat → Bool} {held : Bool}
end
end Go.Proofs.Ytoglpcfaojcmeaa
