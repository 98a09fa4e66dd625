/-
  what this claim needs beside the texts ahead
-/
import Derived.Test.Ytlcckmmibeddeaag11
namespace Go.AM
open Go.RowKit
section
variable {P : Program}
theorem roundK.freeze {α : Type} {st : α -> St} {m : α -> Nat} {inv : α -> Prop} {x : α} {σ : St} (p : Nat -> Bool) (x' : α) (h1 : inv x') (h2 : m x' < m x) (h3 : (σ.map (freezeLeaf p)).le (st x')) : roundK st m inv x σ := ⟨x', h1, h2, .inr (.inl ⟨p, h3⟩)⟩
end
end Go.AM
namespace Go.AM
open Go Go.Proofs Go.RowKit
def vPT (p : Int × Int) : AV := .ag [vi p.1, vi p.2, .nil, .nil]
def flatT (t : Nat) (ps : List (Int × Int)) : AV := .ag [vi 3, vi 0, .nil, .sl t 4 (ps.map vPT)]
attribute [go_sem] vPT flatT
end Go.AM
namespace Go.AM
theorem leq_trans {p q r : List TmD} (hp : OkP p) (hq : OkP q) (hr : OkP r) (h1 : leqP p q = true) (h2 : leqP q r = true) : leqP p r = true :=
 (leq_iff hp hr).2 fun w hw => (leq_iff hq hr).1 h2 w ((leq_iff hp hq).1 h1 w hw)
end Go.AM
namespace Go.AM
def adjT (t u : TmD) : Prop := ¬ (u.star = true /\ witT t u = true) /\ ¬ (t.star = true /\ witT u t = true)
def redP : List TmD -> Prop
 | [] => True
 | [t] => t.ls ≠ []
 | t :: u :: p => t.ls ≠ [] /\ adjT t u /\ redP (u :: p)
theorem redP.head {t : TmD} {p : List TmD} (h : redP (t :: p)) : t.ls ≠ [] := by
 cases p with
 | nil => exact h
 | cons u p => exact h.1
theorem redP.tail {t : TmD} {p : List TmD} (h : redP (t :: p)) : redP p := by
 cases p with
 | nil => trivial
 | cons u p => exact h.2.2
theorem idle_tail {t : TmD} {p : List TmD} {i : Nat} (h : idleP p i = true) : idleP (t :: p) (i + 1) = true := by
 unfold idleP at h ⊢
 simp only [Bool.or_eq_true, Bool.and_eq_true, decide_eq_true_eq] at h ⊢
 rcases h with (h | h) | h
 ·exact .inl (.inl h)
 ·obtain ⟨j, rfl⟩ : ∃ j, i = j + 1 := ⟨i - 1, by omega⟩
  exact .inl (.inr ⟨by omega, h.2⟩)
 ·exact .inr ⟨by simp only [List.length_cons]; omega, h.2⟩
theorem red_of : ∀ {p : List TmD}, (∀ i, i < p.length -> idleP p i = false) -> redP p
 | [], _ => trivial
 | [t], h => by
  have := h 0 (by simp)
  intro hn
  unfold idleP at this
  simp [hn] at this
 | t :: u :: p, h => by
  have h0 := h 0 (by simp)
  have h1 := h 1 (by simp)
  have ht : redP (u :: p) := red_of fun i hi => by
   cases hb : idleP (u :: p) i with
   | false => rfl
   | true => rw [<- h (i + 1) (by simp only [List.length_cons] at hi ⊢; omega)]; exact (idle_tail hb).symm
  refine ⟨fun hn => ?_, ⟨fun hn => ?_, fun hn => ?_⟩, ht⟩
  ·unfold idleP at h0; simp [hn] at h0
  ·unfold idleP at h0; simp [hn.1, hn.2] at h0
  ·unfold idleP at h1; simp [hn.1, hn.2] at h1
theorem normN_red : ∀ (n : Nat) (p : List TmD), p.length <= n -> redP (normN n p)
 | 0, p, h => by
  have : p = [] := List.length_eq_zero_iff.1 (by omega)
  subst this; trivial
 | n + 1, p, h => by
  rw [normN]
  split
  ·rename_i hn
   refine red_of fun i hi => ?_
   have := List.find?_eq_none.1 hn i (List.mem_range.2 hi)
   simpa using this
  ·rename_i i hi
   have h2 := List.mem_range.1 (List.mem_of_find?_eq_some hi)
   exact normN_red n _ (by rw [List.length_eraseIdx_of_lt h2]; omega)
theorem normP_red (p : List TmD) : redP (normP p) := normN_red _ p (Nat.le_refl _)
theorem red_suffix : ∀ (n : Nat) (q : List TmD) (u : TmD) (s a : List TmD), q.length <= n -> q = a ++ s -> redP (u :: q) -> OkP (u :: q) -> leqP (u :: q) s = false
 | n, q, u, [], a, _, _, hr, _ => by
  rw [leqP_none]
  have := hr.head
  cases h : u.ls with
  | nil => exact absurd h this
  | cons x l => rfl
 | 0, q, u, v :: s, a, hn, hq, _, _ => by
  subst hq
  simp only [List.length_append, List.length_cons] at hn
  omega
 | n + 1, q, u, v :: s, a, hn, hq, hr, hok => by
  have hvq : v ∈ q := by rw [hq]; simp
  rw [leqP_cons, if_neg (by rw [nil_iff]; exact hr.head)]
  cases hw : witT u v with
  | false =>
   rw [if_pos (show (!false) = true from rfl)]
   exact red_suffix (n + 1) q u s (a ++ [v]) hn (by rw [hq]; simp) hr hok
  | true =>
   rw [if_neg (by simp)]
   by_cases hs : v.star = true
   ·rw [if_pos hs]
    cases a with
    | nil =>
     subst hq
     exact absurd ⟨hs, hw⟩ hr.2.1.1
    | cons c a =>
     subst hq
     simp only [List.cons_append, List.length_cons] at hn
     exact red_suffix n (a ++ v :: s) c (v :: s) a (by omega) rfl hr.tail hok.tail
   ·rw [if_neg hs]
    cases a with
    | nil =>
     subst hq
     simp only [List.nil_append, List.length_cons] at hn
     exact red_suffix n s v s [] (by omega) rfl hr.tail hok.tail
    | cons c a =>
     subst hq
     simp only [List.cons_append, List.length_cons] at hn
     exact red_suffix n (a ++ v :: s) c s (a ++ [v]) (by omega) (by simp) hr.tail hok.tail
termination_by n _q _u s => (n, s.length)
theorem asc_same : ∀ {a b : List Int}, ascI a = true -> ascI b = true -> (∀ x ∈ a, x ∈ b) -> (∀ x ∈ b, x ∈ a) -> a = b
 | [], [], _, _, _, _ => rfl
 | [], y :: b, _, _, _, h => by have := h y (by simp); cases this
 | x :: a, [], _, _, h, _ => by have := h x (by simp); cases this
 | x :: a, y :: b, ha, hb, h1, h2 => by
  obtain ⟨a1, a2⟩ := asc_lt ha
  obtain ⟨b1, b2⟩ := asc_lt hb
  have e : x = y := by
   rcases List.mem_cons.1 (h1 x (by simp)) with e | hx
   ·exact e
   ·rcases List.mem_cons.1 (h2 y (by simp)) with e | hy
    ·exact e.symm
    ·have := b1 x hx; have := a1 y hy; omega
  subst e
  have key : ∀ {c d : List Int}, (∀ y ∈ c, x < y) -> (∀ z ∈ x :: c, z ∈ x :: d) -> ∀ z ∈ c, z ∈ d := by
   intro c d hc hcd z hz
   rcases List.mem_cons.1 (hcd z (by simp [hz])) with e | h
   ·have := hc z hz; omega
   ·exact h
  rw [asc_same a2 b2 (key a1 h1) (key b1 h2)]
theorem wit_same {t u : TmD} (ht : t.Ok) (hu : u.Ok) (htn : t.ls ≠ []) (hun : u.ls ≠ []) (h1 : witT t u = true) (h2 : witT u t = true) : t = u := by
 cases hts : t.star with
 | true =>
  cases hus : u.star with
  | true =>
   have := asc_same ht.asc hu.asc ((wit_star hus).1 h1) ((wit_star hts).1 h2)
   cases t; cases u; simp_all
  | false =>
   obtain ⟨y, hy⟩ := hu.one hus
   have := ((wit_one hus hy ht htn).1 h1).1
   rw [hts] at this; cases this
 | false =>
  obtain ⟨y, hy⟩ := ht.one hts
  obtain ⟨h3, h4⟩ := (wit_one hts hy hu hun).1 h2
  cases t; cases u; simp_all
theorem red_unique : ∀ (p q : List TmD), OkP p -> OkP q -> redP p -> redP q -> leqP p q = true -> leqP q p = true -> p = q
 | [], [], _, _, _, _, _, _ => rfl
 | [], u :: q, _, _, _, hr, _, h => by
  rw [leqP_none, Bool.and_eq_true, nil_iff] at h
  exact absurd h.1 hr.head
 | t :: p, [], _, _, hr, _, h, _ => by
  rw [leqP_none, Bool.and_eq_true, nil_iff] at h
  exact absurd h.1 hr.head
 | t :: p, u :: q, hp, hq, hrp, hrq, h1, h2 => by
  have key : ∀ (t u : TmD) (p q : List TmD), OkP (t :: p) -> OkP (u :: q) -> redP (t :: p) -> redP (u :: q) -> leqP (t :: p) (u :: q) = true -> leqP (u :: q) (t :: p) = true -> witT t u = true := by
   intro t u p q hp hq hrp hrq h1 h2
   cases hw : witT t u with
   | true => rfl
   | false =>
    rw [leqP_cons, if_neg (by rw [nil_iff]; exact hrp.head), hw, if_pos (show (!false) = true from rfl)] at h1
    have := leq_trans hq hp hq.tail h2 h1
    rw [red_suffix _ q u q [] (Nat.le_refl _) rfl hrq hq] at this
    cases this
  have w1 := key t u p q hp hq hrp hrq h1 h2
  have w2 := key u t q p hq hp hrq hrp h2 h1
  have e := wit_same hp.head hq.head hrp.head hrq.head w1 w2
  subst e
  rw [leqP_cons, if_neg (by rw [nil_iff]; exact hrp.head), w1, if_neg (by simp)] at h1
  rw [leqP_cons, if_neg (by rw [nil_iff]; exact hrp.head), w1, if_neg (by simp)] at h2
  have recu := red_unique p q hp.tail hq.tail hrp.tail hrq.tail
  by_cases hs : t.star = true
  ·rw [if_pos hs] at h1 h2
   have key2 : ∀ (p q : List TmD), redP (t :: p) -> leqP p (t :: q) = true -> leqP p q = true := by
    intro p q hr h
    cases p with
    | nil => exact leqP_nil _
    | cons c p =>
     have hc : witT c t = false := by
      cases hb : witT c t with
      | false => rfl
      | true => exact absurd ⟨hs, hb⟩ hr.2.1.2
     rw [leqP_cons, if_neg (by rw [nil_iff]; exact hr.tail.head), hc, if_pos (show (!false) = true from rfl)] at h
     exact h
   rw [recu (key2 p q hrp h1) (key2 q p hrq h2)]
  ·rw [if_neg hs] at h1 h2
   rw [recu h1 h2]
theorem red_eq {p q : List TmD} (hp : OkP p) (hq : OkP q) (hrp : redP p) (hrq : redP q) (h : EqP p q) : p = q :=
 red_unique p q hp hq hrp hrq ((leq_iff hp hq).2 fun w hw => by rw [<- h w]; exact hw) ((leq_iff hq hp).2 fun w hw => by rw [h w]; exact hw)
theorem normP_id {p : List TmD} (h : OkP p) : normP (normP p) = normP p := (red_eq (normP_ok h) (normP_ok (normP_ok h)) (normP_red p) (normP_red _) (normP_eq _)).symm
end Go.AM
namespace Go.AM
open Go Go.Proofs Go.RowKit
set_option maxRecDepth 100000
set_option maxHeartbeats 8000000
theorem con_xNormal (n : Int) (p : List TmD) (hp : LenP p) : Con Try.prog 10 [vi n, vPr p] [] fun r _ => r = if checkX n p = 0 then .tup [vPr (normP p), vi 0] else .tup [.nil, vi (checkX n p)] := by
 refine Con.intro Try.func10 rfl Try.ntmps10 Try.results10 (by kernel_rfl) (by simp) 0 (by simp) ?_
 have hc := con_xCheckL n p hp
 simp only [vPr] at hc
 simp only [go_sem]
 refine CallU.free hc (by simp only [go_sem]) (by simp only [go_sem]) ?_
 rintro r bx rfl
 by_cases h : checkX n p = 0
 ·have hn := con_xnormalF p (check_zero.1 h).ok hp
  simp only [vPr] at hn
  simp only [go_sem, h, if_true]
  refine CallU.free hn (by simp only [go_sem]) (by simp only [go_sem]) ?_
  rintro r bx rfl
  simp only [go_sem, h, if_true]
 ·have h' : (checkX n p != 0) = true := bne_iff_ne.2 h
  simp only [go_sem, h, h', if_false]
end Go.AM
namespace Go.AM
open Go Go.Proofs Go.RowKit
set_option maxRecDepth 100000
theorem words6 : WordsOk (wordsW 6) 6 63 :=
 ⟨by decide +kernel, by decide +kernel, by decide +kernel, by
  have : ∀ i, i < 127 -> 63 <= i -> ¬ (wordsW 6)[i]!.length < 6 := by decide +kernel
  exact fun i h1 h2 => this i (by omega) h1, by decide +kernel, by decide⟩
end Go.AM
namespace Go.AM
open Go Go.Proofs Go.RowKit
theorem words6_in : ∀ w ∈ wordsW 6, w.length <= 6 /\ ∀ x ∈ w, 0 <= x /\ x < 2 := by decide +kernel
end Go.AM
namespace Go.AM
open Go Go.Proofs Go.RowKit
set_option maxRecDepth 100000
set_option maxHeartbeats 8000000
def ordL (a b : Int) : Int := if a < b then -1 else if b < a then 1 else 0
def lexI : List Int -> List Int -> Int
 | x :: xs, y :: ys => if x = y then lexI xs ys else ordL x y
 | _, _ => 0
def cmpI (a b : List Int) : Int := if a.length = b.length then lexI a b else ordL a.length b.length
theorem ord_zero {a b : Int} : ordL a b = 0 ↔ a = b := by unfold ordL; split <;> (try split) <;> omega
theorem lex_zero : ∀ {a b : List Int}, a.length = b.length -> (lexI a b = 0 ↔ a = b)
 | [], [], _ => by simp [lexI]
 | x :: xs, y :: ys, h => by
  unfold lexI
  have hl : xs.length = ys.length := by simpa using h
  split
  ·rename_i e; rw [lex_zero hl, e]; simp
  ·rename_i e; rw [ord_zero]; simp [e]
 | [], _ :: _, h => by simp at h
 | _ :: _, [], h => by simp at h
theorem cmp_zero {a b : List Int} : cmpI a b = 0 ↔ a = b := by
 unfold cmpI
 split
 ·rename_i h; exact lex_zero h
 ·rename_i h
  rw [ord_zero]
  exact ⟨fun e => by omega, fun e => by rw [e]⟩
theorem lex_drop {a b : List Int} (hl : a.length = b.length) : ∀ i, i <= a.length -> (∀ j, j < i -> a[j]! = b[j]!) -> lexI a b = lexI (a.drop i) (b.drop i)
 | 0, _, _ => rfl
 | i + 1, hi, h => by
  rw [lex_drop hl i (by omega) fun j hj => h j (by omega)]
  have h1 : i < a.length := by omega
  have h2 : i < b.length := by omega
  have e := h i (by omega)
  rw [getElem!_pos a i h1, getElem!_pos b i h2] at e
  rw [List.drop_eq_getElem_cons h1, List.drop_eq_getElem_cons h2, lexI, if_pos e]
theorem lex_stop {a b : List Int} (hl : a.length = b.length) {i : Nat} (hi : i < a.length) (h : ∀ j, j < i -> a[j]! = b[j]!) (hn : a[i]! ≠ b[i]!) : lexI a b = ordL a[i]! b[i]! := by
 have h2 : i < b.length := by omega
 rw [lex_drop hl i (by omega) h]
 rw [getElem!_pos a i hi, getElem!_pos b i h2] at *
 rw [List.drop_eq_getElem_cons hi, List.drop_eq_getElem_cons h2, lexI, if_neg hn]
theorem lex_same {a b : List Int} (hl : a.length = b.length) (h : ∀ j, j < a.length -> a[j]! = b[j]!) : lexI a b = 0 := by
 rw [lex_drop hl a.length (Nat.le_refl _) h, List.drop_eq_nil_of_le (Nat.le_refl _)]
 unfold lexI; rfl
theorem con_rorder (a b : Int) : Con Try.prog 58 [vi a, vi b] [] fun r _ => r = vi (ordL a b) := by
 refine Con.intro Try.func58 rfl Try.ntmps58 Try.results58 (by kernel_rfl) (by simp) 0 (by simp) ?_
 unfold ordL
 by_cases h1 : a < b
 ·simp only [go_sem, h1, if_true]
 ·by_cases h2 : b < a
  ·simp only [go_sem, h1, h2, if_true, if_false]
  ·simp only [go_sem, h1, h2, if_true, if_false]
theorem con_rcompareI (a b : List Int) (ha : a.length <= 1000000) : Con Try.prog 62 [vs 0 a, vs 0 b] [] fun r _ => r = vi (cmpI a b) := by
 refine Con.intro Try.func62 rfl Try.ntmps62 Try.results62 (by kernel_rfl) (by simp) 0 (by simp) ?_
 by_cases hl : a.length = b.length
 case neg =>
  have hl' : ((a.length : Int) != (b.length : Int)) = true := bne_iff_ne.2 (by omega)
  have e : cmpI a b = ordL a.length b.length := by unfold cmpI; rw [if_neg hl]
  simp only [go_sem, hl', List.length_map]
  refine CallU.free (con_rorder a.length b.length) (by simp only [go_sem]) (by simp only [go_sem]) ?_
  rintro x bx rfl
  simp only [go_sem, e]
 have e : cmpI a b = lexI a b := by unfold cmpI; rw [if_pos hl]
 have hl' : ((a.length : Int) != (b.length : Int)) = false := by rw [hl]; simp
 rw [e]
 simp only [go_sem, hl', List.length_map]
 refine LoopK.intro (fun i : Nat => ⟨40, [(0, vs 0 a), (1, vs 0 b), (5, vi i)], []⟩)
  (fun i => a.length - i) (fun i => i <= a.length /\ ∀ j, j < i -> a[j]! = b[j]!) 0 ⟨by omega, fun j hj => by omega⟩ ?_ ?_
 ·simp only [go_sem]
  all_goals exact leV_refl _
 rintro i ⟨hi, hb⟩
 by_cases h : i < a.length
 ·have h2 : i < b.length := by omega
  have g1 := getv h
  have g2 := getv h2
  have hw : IntKind.i64.wrap (i + 1) = i + 1 := wrap_in (by omega) (by omega)
  simp only [go_sem, h]
  refine DrawK.walk 9 mixed (by kernel_rfl) ?_
  by_cases hp : a[i]! = b[i]!
  ·have hp' : (a[i]! != b[i]!) = false := by rw [hp]; simp
   simp only [go_sem, h, h2, g1, g2, hp', hw]
   refine roundK.intro (i + 1) ⟨by omega, fun j hj => ?_⟩ (by omega) ?_
   ·by_cases hji : j = i
    ·subst hji; exact hp
    ·exact hb j (by omega)
   ·simp only [go_sem]
  ·have hp' : (a[i]! != b[i]!) = true := bne_iff_ne.2 hp
   have e2 := lex_stop hl h hb hp
   simp only [go_sem, h, h2, g1, g2, hp']
   refine DrawK.walk 10 mixed (by kernel_rfl) ?_
   simp only [go_sem, h, h2, g1, g2]
   refine CallY.mk (con_rorder a[i]! b[i]!) (by simp only [go_sem]) (by simp only [go_sem]) (.inl (by simp only [go_sem])) ?_
   simp only [go_sem, e2]
 ·have e2 := lex_same hl fun j hj => hb j (by omega)
  simp only [go_sem, h, e2]
theorem con_rsameI (a b : List Int) (ha : a.length <= 1000000) : Con Try.prog 63 [vs 0 a, vs 0 b] [] fun r _ => r = vb (a == b) := by
 refine Con.intro Try.func63 rfl Try.ntmps63 Try.results63 (by kernel_rfl) (by simp) 0 (by simp) ?_
 simp only [go_sem]
 refine CallU.free (con_rcompareI a b ha) (by simp only [go_sem]) (by simp only [go_sem]) ?_
 rintro x bx rfl
 have e : (cmpI a b == 0) = (a == b) := by rw [Bool.eq_iff_iff, beq_iff_eq, beq_iff_eq]; exact cmp_zero
 simp only [go_sem, e]
end Go.AM
