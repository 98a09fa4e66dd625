/-
  Models of all kinds that the deck deals: numbers, names, rules.
  Walks: models of all kinds that the deck deals (Deck.Model).
  Walks: counter.Apply at a valid counter model: what it leads to.
  Walks: the sanity check of chapter 17.
  Walks: comparing configurations; a configuration above another one.
  Walks: a configuration above another one.
  What counter rules lead to: plain laws.
  CounterMoves: the walk of the law.
-/
import Derived.Test.YtpmodjodfimejaaGreatg27
import Derived.Test.YtpmodjodfimejaaGreatg23
import Derived.Test.YtpmodjodfimejaaGreatg25
import Derived.Test.YtpmodjodfimejaaGreatg21
/-! ## HZ0 -/
namespace Go.AM
open Go Go.Proofs Go.RowKit
set_option maxRecDepth 100000
def cB : ByteArray := ⟨#[99]⟩
def lB : ByteArray := ⟨#[108]⟩
def plB (k : Int) : ByteArray := if k = 2 ∨ k = 3 then cB else pB
def dealtG (k : Int) (ns np nl : Nat) (ra : List Int) (lv ag : Int) (rules : List RD) (st : CV) : MD := { kind := k, states := nmL qB ns, places := nmL (plB k) np, letters := nmL lB nl, ranks := ra, levels := lv, age := ag, rules := rules, start := st }
structure NumOk (k : Int) (ns np nl : Nat) (ra : List Int) (lv ag : Int) : Prop where
 kind : 1 ≤ k ∧ k ≤ 6
 states : 1 ≤ ns ∧ ns ≤ 3
 places : (k = 4 → np = 0) ∧ (k = 2 ∨ k = 3 → 1 ≤ np ∧ np ≤ 2) ∧ (k = 1 ∨ k = 5 ∨ k = 6 → 1 ≤ np ∧ np ≤ 3)
 letters : (k = 2 ∨ k = 3 ∨ k = 4 → 1 ≤ nl ∧ nl ≤ 3) ∧ (k = 1 ∨ k = 5 ∨ k = 6 → nl = 0)
 ranks : (k = 3 → ra.length = nl ∧ ∀ x ∈ ra, 0 ≤ x ∧ x ≤ 2) ∧ (k ≠ 3 → ra = [])
 levels : (k = 4 → 1 ≤ lv ∧ lv ≤ 2) ∧ (k ≠ 4 → lv = 0)
 age : (k = 5 → 0 ≤ ag ∧ ag ≤ 2) ∧ (k ≠ 5 → ag = 0)
theorem names_g {k : Int} {ns np nl c : Nat} (h1 : 1 ≤ ns ∧ ns ≤ 3) (h2 : np ≤ 3) (h3 : nl ≤ 3) (h4 : c ≤ 4) : namesB (nmL qB ns ++ nmL (plB k) np ++ nmL lB nl ++ rkL c c) = true := by
 have key : ∀ p ∈ [cB, pB], ∀ a ∈ [1, 2, 3], ∀ b ∈ [0, 1, 2, 3], ∀ d ∈ [0, 1, 2, 3], ∀ c ∈ [0, 1, 2, 3, 4], namesB (nmL qB a ++ nmL p b ++ nmL lB d ++ rkL c c) = true := by
  have : ([cB, pB].all fun p => [1, 2, 3].all fun a => [0, 1, 2, 3].all fun b => [0, 1, 2, 3].all fun d => [0, 1, 2, 3, 4].all fun c => namesB (nmL qB a ++ nmL p b ++ nmL lB d ++ rkL c c)) = true := by kernel_rfl
  intro p hp a ha b hb d hd c hc
  exact List.all_eq_true.1 (List.all_eq_true.1 (List.all_eq_true.1 (List.all_eq_true.1 (List.all_eq_true.1 this p hp) a ha) b hb) d hd) c hc
 refine key (plB k) ?_ ns (by simp; omega) np (by simp; omega) nl (by simp; omega) c (by simp; omega)
 unfold plB
 split <;> simp
theorem nm_size {a : ByteArray} {n : Nat} (ha : a.size ≤ 10) : ∀ s ∈ nmL a n, s.size ≤ 9223372036854775806 := fun s hs => by
 obtain ⟨i, _, rfl⟩ := List.mem_map.1 hs
 have e : (nm1 a i).size = a.size + 1 := by unfold nm1; rw [ByteArray.size_append]; rfl
 omega
section
variable {k : Int} {ns np nl : Nat} {ra : List Int} {lv ag : Int} {rules : List RD} {st : CV}
theorem NumOk.few (h : NumOk k ns np nl ra lv ag) : np ≤ 3 ∧ nl ≤ 3 := by
 have := h.kind; have := h.places; have := h.letters
 omega
theorem NumOk.sized (h : NumOk k ns np nl ra lv ag) (hr : rules.length ≤ 12) : sizedB (dealtG k ns np nl ra lv ag rules st) = true := by
 have h1 := h.kind; have h2 := h.states; have h3 := h.places; have h4 := h.letters; have h5 := h.levels; have h6 := h.age
 have l1 : (dealtG k ns np nl ra lv ag rules st).states.length = ns := nmL_len _ _
 have l2 : (dealtG k ns np nl ra lv ag rules st).places.length = np := nmL_len _ _
 have l3 : (dealtG k ns np nl ra lv ag rules st).letters.length = nl := nmL_len _ _
 unfold sizedB betweenB
 rw [l1, l2, l3]
 show (decide ((1 : Int) ≤ ns) && decide ((ns : Int) ≤ 8) && decide (rules.length ≤ 12) && (decide (lim k 0 ≤ np) && decide ((np : Int) ≤ lim k 1)) && (decide (lim k 2 ≤ nl) && decide ((nl : Int) ≤ lim k 3)) && (decide (lim k 4 ≤ lv) && decide (lv ≤ lim k 5)) && (decide (lim k 6 ≤ ag) && decide (ag ≤ lim k 7))) = true
 obtain rfl | rfl | rfl | rfl | rfl | rfl : k = 1 ∨ k = 2 ∨ k = 3 ∨ k = 4 ∨ k = 5 ∨ k = 6 := by omega
 all_goals simp only [Bool.and_eq_true, decide_eq_true_eq]
 ·have e : lim 1 0 = 1 ∧ lim 1 1 = 6 ∧ lim 1 2 = 0 ∧ lim 1 3 = 0 ∧ lim 1 4 = 0 ∧ lim 1 5 = 0 ∧ lim 1 6 = 0 ∧ lim 1 7 = 0 := by decide
  omega
 ·have e : lim 2 0 = 1 ∧ lim 2 1 = 2 ∧ lim 2 2 = 1 ∧ lim 2 3 = 6 ∧ lim 2 4 = 0 ∧ lim 2 5 = 0 ∧ lim 2 6 = 0 ∧ lim 2 7 = 0 := by decide
  omega
 ·have e : lim 3 0 = 1 ∧ lim 3 1 = 2 ∧ lim 3 2 = 1 ∧ lim 3 3 = 6 ∧ lim 3 4 = 0 ∧ lim 3 5 = 0 ∧ lim 3 6 = 0 ∧ lim 3 7 = 0 := by decide
  omega
 ·have e : lim 4 0 = 0 ∧ lim 4 1 = 0 ∧ lim 4 2 = 1 ∧ lim 4 3 = 6 ∧ lim 4 4 = 1 ∧ lim 4 5 = 2 ∧ lim 4 6 = 0 ∧ lim 4 7 = 0 := by decide
  omega
 ·have e : lim 5 0 = 1 ∧ lim 5 1 = 6 ∧ lim 5 2 = 0 ∧ lim 5 3 = 0 ∧ lim 5 4 = 0 ∧ lim 5 5 = 0 ∧ lim 5 6 = 0 ∧ lim 5 7 = 3 := by decide
  omega
 ·have e : lim 6 0 = 1 ∧ lim 6 1 = 6 ∧ lim 6 2 = 0 ∧ lim 6 3 = 0 ∧ lim 6 4 = 0 ∧ lim 6 5 = 0 ∧ lim 6 6 = 0 ∧ lim 6 7 = 0 := by decide
  omega
theorem NumOk.ranked (h : NumOk k ns np nl ra lv ag) : rankedB (dealtG k ns np nl ra lv ag rules st) = true := by
 have l3 : (dealtG k ns np nl ra lv ag rules st).letters.length = nl := nmL_len _ _
 unfold rankedB
 rw [l3]
 show (if k = 3 then decide (ra.length = nl) && ra.all fun r => betweenB r 0 5 else ra.length == 0) = true
 by_cases h3 : k = 3
 ·obtain ⟨a, b⟩ := h.ranks.1 h3
  rw [if_pos h3, decide_eq_true a, Bool.true_and, List.all_eq_true]
  intro x hx
  have := b x hx
  unfold betweenB
  rw [decide_eq_true this.1, decide_eq_true (by omega)]; rfl
 ·rw [if_neg h3, h.ranks.2 h3]; rfl
theorem NumOk.between (h : NumOk k ns np nl ra lv ag) : betweenB k 1 6 = true := by
 unfold betweenB
 rw [decide_eq_true h.kind.1, decide_eq_true h.kind.2]; rfl
theorem NumOk.own (h : NumOk k ns np nl ra lv ag) : OwnX (dealtG k ns np nl ra lv ag rules st) := by
 have hf := h.few
 refine ⟨h.between, h.sized (rules := []) (st := zeroV) (by simp), h.ranked, ?_, fun s hs => ?_⟩
 ·have := names_g (k := k) (c := 0) h.states hf.1 hf.2 (by omega)
  rw [show rkL 0 0 = [] from rfl, List.append_nil] at this
  exact this
 ·rcases List.mem_append.1 hs with hs | hs
  ·rcases List.mem_append.1 hs with hs | hs
   ·exact nm_size (a := qB) (by decide) s hs
   ·refine nm_size (a := plB k) ?_ s hs
    unfold plB; split <;> decide
  ·exact nm_size (a := lB) (by decide) s hs
end
structure DealtG (k : Int) (ns np nl : Nat) (ra : List Int) (lv ag : Int) (rules : List RD) (st : CV) : Prop where
 num : NumOk k ns np nl ra lv ag
 few : rules.length ≤ 4
 names : rules.map RD.name = rkL rules.length rules.length
 rules : ∀ r ∈ rules, rightR (dealtG k ns np nl ra lv ag [] zeroV) r = true ∧ LenR r
 start : if k = 6 then st = zeroV else validV (typeM (dealtG k ns np nl ra lv ag [] zeroV)) st = true
 slim : st.Slim
section
variable {k : Int} {ns np nl : Nat} {ra : List Int} {lv ag : Int} {rules : List RD} {st : CV}
theorem DealtG.len (h : DealtG k ns np nl ra lv ag rules st) : LenM (dealtG k ns np nl ra lv ag rules st) := by
 have hn := h.num
 have hf := hn.few
 have h4 := h.few
 have e : namesOf (dealtG k ns np nl ra lv ag rules st) = nmL qB ns ++ nmL (plB k) np ++ nmL lB nl ++ rules.map RD.name := rfl
 have hs := hn.states
 refine ⟨?_, ?_, ?_, fun r hr => (h.rules r hr).2, h.slim.ok⟩
 ·rw [e]
  simp only [List.length_append, List.length_map, nmL_len]
  omega
 ·rw [e]
  intro s hs
  rcases List.mem_append.1 hs with hs | hs
  ·exact hn.own (rules := []) (st := zeroV) |>.sizes s hs
  ·rw [h.names] at hs
   obtain ⟨i, _, rfl⟩ := List.mem_map.1 hs
   have e : (nm1 rB (rules.length - i)).size = rB.size + 1 := by unfold nm1; rw [ByteArray.size_append]; rfl
   have : rB.size = 1 := rfl
   omega
 ·show ra.length ≤ _
  by_cases h3 : k = 3
  ·have := (hn.ranks.1 h3).1; omega
  ·rw [hn.ranks.2 h3]; simp
theorem DealtG.check (h : DealtG k ns np nl ra lv ag rules st) : checkF (dealtG k ns np nl ra lv ag rules st) = 0 := by
 have hn := h.num
 have hf := hn.few
 have h1 : betweenB (dealtG k ns np nl ra lv ag rules st).kind 1 6 = true := hn.between
 have h2 : sizedB (dealtG k ns np nl ra lv ag rules st) = true := hn.sized (by have := h.few; omega)
 have h3 : rankedB (dealtG k ns np nl ra lv ag rules st) = true := hn.ranked
 have h4 : namesB (namesOf (dealtG k ns np nl ra lv ag rules st)) = true := by
  show namesB (nmL qB ns ++ nmL (plB k) np ++ nmL lB nl ++ rules.map RD.name) = true
  rw [h.names]
  exact names_g hn.states hf.1 hf.2 h.few
 have h5 : ((dealtG k ns np nl ra lv ag rules st).rules.any fun r => !rightR (dealtG k ns np nl ra lv ag rules st) r) = false := by
  rw [List.any_eq_false]
  intro r hr
  have := (h.rules r hr).1
  have e : rightR (dealtG k ns np nl ra lv ag rules st) r = rightR (dealtG k ns np nl ra lv ag [] zeroV) r := rfl
  rw [e, this]; decide
 have h6 : beginsF (dealtG k ns np nl ra lv ag rules st) = true := by
  have hs := h.start
  unfold beginsF
  by_cases k6 : k = 6
  ·rw [if_pos k6] at hs
   rw [if_pos (show (dealtG k ns np nl ra lv ag rules st).kind = 6 from k6), hs]; rfl
  ·rw [if_neg k6] at hs
   rw [if_neg (show ¬ (dealtG k ns np nl ra lv ag rules st).kind = 6 from k6)]
   exact hs
 unfold checkF
 rw [h1, h2, h3, h4, h5, h6]
 simp only [Bool.true_eq_false, Bool.false_eq_true, if_false]
end
theorem DealtX.of1 {m : MD} {x : RD} (hk : m.kind = 1) (hp : m.places.length ≤ 6) (h : DealtR m.states.length m.places.length x) (hn : x.name = emptyB) : DealtX m x := by
 have hb := dealt_ruleB h
 unfold ruleB at hb
 simp only [Bool.and_eq_true] at hb
 have h3 := h.need.1; have h4 := h.give.1
 refine ⟨right_mk (ends_mk h.dst h.src) ?_ ?_, hn, ?_⟩
 ·unfold fitsR
  rw [if_pos hk, hb.1.2, hb.2]; rfl
 ·rw [hk]
  exact (bare_of h.bare).symm
 ·have hm : x.move.length ≤ 6 := by rcases h.move with h | h <;> omega
  have e := bare_of h.bare
  rw [e]
  exact ⟨⟨by show x.need.length ≤ _; omega, by show x.give.length ≤ _; omega, by show x.move.length ≤ _; omega, by simp, by simp, by simp, by simp⟩, by simp, by simp⟩
theorem con_dRuleX (l : List Int) (s : DS) {k : Int} {ns np nl : Nat} {ra : List Int} {lv ag : Int} (hd : Dk l s) (h : NumOk k ns np nl ra lv ag) : RuleCon l s (dealtG k ns np nl ra lv ag [] zeroV) := by
 have h1 := h.kind; have h2 := h.states; have h3 := h.places; have h4 := h.letters; have h5 := h.levels; have h6 := h.age
 have l1 : (dealtG k ns np nl ra lv ag [] zeroV).states.length = ns := nmL_len _ _
 have l2 : (dealtG k ns np nl ra lv ag [] zeroV).places.length = np := nmL_len _ _
 have l3 : (dealtG k ns np nl ra lv ag [] zeroV).letters.length = nl := nmL_len _ _
 have hs : 1 ≤ (dealtG k ns np nl ra lv ag [] zeroV).states.length ∧ (dealtG k ns np nl ra lv ag [] zeroV).states.length ≤ 8 := by rw [l1]; omega
 have hc : k = 1 ∨ k = 2 ∨ k = 3 ∨ k = 4 ∨ k = 5 ∨ k = 6 := by omega
 rcases hc with hk | hk | hk | hk | hk | hk
 ·refine (con_dRule1 l s (dealtG k ns np nl ra lv ag [] zeroV) hd hk hs (by rw [l2]; omega)).mono fun r b ⟨x, s', g1, g2, g3, g4, g5⟩ => ?_
  exact ⟨x, s', .of1 hk (by rw [l2]; omega) g1 g2, g3, g4, g5⟩
 ·exact con_dRule2 l s _ hd hk (by rw [l2]; omega) (by rw [l3]; omega) hs
 ·exact con_dRule3 l s _ hd hk (by rw [l2]; omega) (by rw [l3]; omega) hs
 ·exact con_dRule4 l s _ hd hk (by rw [l3]; omega) (show 1 ≤ lv ∧ lv ≤ 2 by omega) hs
 ·exact con_dRule5 l s _ hd hk (by rw [l2]; omega) (show 0 ≤ ag ∧ ag ≤ 3 by omega) hs
 ·exact con_dRule6 l s _ hd hk (by rw [l2]; omega) hs
theorem con_dRanksF (l : List Int) (s : DS) (n : Nat) (h : Dk l s) (hn : n ≤ 1000000) : Con Tryz.prog 60 [.pb 0 0, vi n] [deckA l s]
  fun r b => r = vs 0 (smV l s 2 n) ∧ b = [deckA l (smS l s 2 n)] := by
 refine Con.intro Tryz.func60 rfl Tryz.ntmps60 Tryz.results60 (by kernel_rfl) (by simp) 1 (by simp) ?_
 simp only [go_sem]
 refine CallU.boxes (i := 0) (is := []) (bx0 := [deckA l s]) (con_dSmallF l s n 2 h hn (by omega)) (by simp only [go_sem]) (by simp only [go_sem]) (by simp only [go_sem]) (by simp only [go_sem]) (by simp only [go_sem]) ?_
 rintro r b ⟨rfl, rfl⟩
 simp only [go_sem]
theorem plB_1 : plB 1 = pB := by unfold plB; rw [if_neg (by omega)]
theorem plB_2 : plB 2 = cB := by unfold plB; rw [if_pos (by omega)]
theorem plB_3 : plB 3 = cB := by unfold plB; rw [if_pos (by omega)]
theorem plB_5 : plB 5 = pB := by unfold plB; rw [if_neg (by omega)]
theorem plB_6 : plB 6 = pB := by unfold plB; rw [if_neg (by omega)]
theorem nmL_zero (a : ByteArray) : nmL a 0 = [] := rfl
theorem num1 {ns np : Nat} (a : 1 ≤ ns ∧ ns ≤ 3) (b : 1 ≤ np ∧ np ≤ 3) : NumOk 1 ns np 0 [] 0 0 := ⟨by omega, a, by omega, by omega, ⟨fun h => by omega, fun _ => rfl⟩, by omega, by omega⟩
theorem num2 {ns np nl : Nat} (a : 1 ≤ ns ∧ ns ≤ 3) (b : 1 ≤ np ∧ np ≤ 2) (c : 1 ≤ nl ∧ nl ≤ 3) : NumOk 2 ns np nl [] 0 0 := ⟨by omega, a, by omega, by omega, ⟨fun h => by omega, fun _ => rfl⟩, by omega, by omega⟩
theorem num3 {ns np nl : Nat} {ra : List Int} (a : 1 ≤ ns ∧ ns ≤ 3) (b : 1 ≤ np ∧ np ≤ 2) (c : 1 ≤ nl ∧ nl ≤ 3) (d : ra.length = nl) (e : ∀ x ∈ ra, 0 ≤ x ∧ x ≤ 2) : NumOk 3 ns np nl ra 0 0 := ⟨by omega, a, by omega, by omega, ⟨fun _ => ⟨d, e⟩, fun h => by omega⟩, by omega, by omega⟩
theorem num4 {ns nl : Nat} {lv : Int} (a : 1 ≤ ns ∧ ns ≤ 3) (c : 1 ≤ nl ∧ nl ≤ 3) (d : 1 ≤ lv ∧ lv ≤ 2) : NumOk 4 ns 0 nl [] lv 0 := ⟨by omega, a, by omega, by omega, ⟨fun h => by omega, fun _ => rfl⟩, by omega, by omega⟩
theorem num5 {ns np : Nat} {ag : Int} (a : 1 ≤ ns ∧ ns ≤ 3) (b : 1 ≤ np ∧ np ≤ 3) (d : 0 ≤ ag ∧ ag ≤ 2) : NumOk 5 ns np 0 [] 0 ag := ⟨by omega, a, by omega, by omega, ⟨fun h => by omega, fun _ => rfl⟩, by omega, by omega⟩
theorem num6 {ns np : Nat} (a : 1 ≤ ns ∧ ns ≤ 3) (b : 1 ≤ np ∧ np ≤ 3) : NumOk 6 ns np 0 [] 0 0 := ⟨by omega, a, by omega, by omega, ⟨fun h => by omega, fun _ => rfl⟩, by omega, by omega⟩
theorem right_name (m : MD) (x : RD) (a : ByteArray) : rightR m { x with name := a } = rightR m x := by
 have e : sameB { x with name := a } (onlyR m.kind { x with name := a }) = sameB x (onlyR m.kind x) := by
  unfold onlyR
  split
  ·unfold sameB; simp
  ·split
   ·unfold sameB; simp
   ·split
    ·unfold sameB; simp
    ·split
     ·unfold sameB; simp
     ·unfold sameB; simp
 unfold rightR
 rw [e]; rfl
end Go.AM

/-! ## HZ -/
namespace Go.AM
open Go Go.Proofs Go.RowKit
set_option maxRecDepth 100000
set_option maxHeartbeats 8000000
theorem con_dModelG (l : List Int) (s : DS) (k k' : Int) (hkk : k' = k) (hd_s : Dk l s) (hk : 1 ≤ k ∧ k ≤ 6) : Con Tryz.prog 19 [.pb 0 0, vi k] [deckA l s]
  fun r b => ∃ (ns np nl : Nat) (ra : List Int) (lv ag : Int) (rules : List RD) (st : CV) (s' : DS), DealtG k' ns np nl ra lv ag rules st ∧ Dk l s' ∧ leV (r.freeze fun _ => true) (vM (dealtG k' ns np nl ra lv ag rules st)) ∧ b = [deckA l s'] := by
 refine Con.intro Tryz.func19 rfl Tryz.ntmps19 Tryz.results19 (by kernel_rfl) (by simp) 1 (by simp) ?_
 apply share3 (T := fun τ => ∃ (ns np nl : Nat) (ra : List Int) (lv ag : Int) (K : Nat) (s' : DS), NumOk k' ns np nl ra lv ag ∧ K ≤ 4 ∧ Dk l s' ∧ τ.le ⟨103, [(0, .pb 0 0), (1, vi k'), (4, .pb 1 0), (5, .pb 2 0), (6, vi ((K - 0 : Nat) : Int))], [deckA l s', [.any, .any, .any, .any, .any, .any, .any, .any, .any, .any],
    [vi k', vss (nmL qB ns), vss (nmL (plB k') np), vss (nmL lB nl), vs 0 ra, vi lv, vi ag, .sl 6080 14 [], vi 0, .nil]]⟩)
 case h =>
  intro hsh
  have hc : k = 1 ∨ k = 2 ∨ k = 3 ∨ k = 4 ∨ k = 5 ∨ k = 6 := by omega
  rcases hc with hc | hc | hc | hc | hc | hc <;> subst hc
  ·simp only [go_sem]
   have hn_ns := nextV_lt (l := l) (s := s) (n := 3) (by omega)
   have hd_s1 : Dk l (nextS l s 3) := nextS_dk hd_s
   refine CallU.boxes (i := 0) (is := []) (bx0 := [deckA l s]) (con_dNext l s 3 hd_s) (by simp only [go_sem]) (by simp only [go_sem]) (by simp only [go_sem]) (by simp only [go_sem]) (by simp only [go_sem]) ?_
   rintro r b ⟨rfl, rfl⟩
   obtain ⟨ns, ens, hns⟩ : ∃ ns : Nat, 1 + nextV l s 3 = ns ∧ (1 ≤ ns ∧ ns ≤ 3) := ⟨(1 + nextV l s 3).toNat, by omega, by omega⟩
   have hw_ns : IntKind.i64.wrap (1 + nextV l s 3) = ns := by rw [wrap_in (by omega) (by omega), ens]
   clear ens hn_ns
   simp only [go_sem, hw_ns]
   clear hw_ns
   generalize nextS l s 3 = s1 at hd_s1 ⊢
   refine CallU.free (con_namesF qB ns (by decide) (by omega)) (by simp only [go_sem]) (by simp only [go_sem, qB]) ?_
   rintro r b rfl
   simp only [go_sem]
   have hn_np := nextV_lt (l := l) (s := s1) (n := 3) (by omega)
   have hd_s2 : Dk l (nextS l s1 3) := nextS_dk hd_s1
   refine CallU.boxes (i := 0) (is := []) (bx0 := [deckA l s1]) (con_dNext l s1 3 hd_s1) (by simp only [go_sem]) (by simp only [go_sem]) (by simp only [go_sem]) (by simp only [go_sem]) (by simp only [go_sem]) ?_
   rintro r b ⟨rfl, rfl⟩
   obtain ⟨np, enp, hnp⟩ : ∃ np : Nat, 1 + nextV l s1 3 = np ∧ (1 ≤ np ∧ np ≤ 3) := ⟨(1 + nextV l s1 3).toNat, by omega, by omega⟩
   have hw_np : IntKind.i64.wrap (1 + nextV l s1 3) = np := by rw [wrap_in (by omega) (by omega), enp]
   clear enp hn_np
   simp only [go_sem, hw_np]
   clear hw_np
   generalize nextS l s1 3 = s2 at hd_s2 ⊢
   refine CallU.free (con_namesF pB np (by decide) (by omega)) (by simp only [go_sem]) (by simp only [go_sem, pB]) ?_
   rintro r b rfl
   simp only [go_sem]
   have hn_K := nextV_lt (l := l) (s := s2) (n := 5) (by omega)
   have hd_K : Dk l (nextS l s2 5) := nextS_dk hd_s2
   refine CallU.boxes (i := 0) (is := []) (bx0 := [deckA l s2]) (con_dNext l s2 5 hd_s2) (by simp only [go_sem]) (by simp only [go_sem]) (by simp only [go_sem]) (by simp only [go_sem]) (by simp only [go_sem]) ?_
   rintro r b ⟨rfl, rfl⟩
   obtain ⟨K, eK, hK⟩ : ∃ K : Nat, nextV l s2 5 = K ∧ K ≤ 4 := ⟨(nextV l s2 5).toNat, by omega, by omega⟩
   clear hn_K
   simp only [go_sem, eK]
   refine hsh _ ⟨ns, np, 0, [], 0, 0, K, _, by rw [hkk]; exact num1 hns hnp, hK, hd_K, ?_⟩
   rw [hkk]
   simp only [go_sem, vss, plB_1, nmL_zero, List.map_nil, Nat.sub_zero]
   repeat' (first | exact trivial | exact leV_nil _ _ | exact leV_refl _ | refine ⟨?_, ?_⟩)
  ·simp only [go_sem]
   have hn_ns := nextV_lt (l := l) (s := s) (n := 3) (by omega)
   have hd_s1 : Dk l (nextS l s 3) := nextS_dk hd_s
   refine CallU.boxes (i := 0) (is := []) (bx0 := [deckA l s]) (con_dNext l s 3 hd_s) (by simp only [go_sem]) (by simp only [go_sem]) (by simp only [go_sem]) (by simp only [go_sem]) (by simp only [go_sem]) ?_
   rintro r b ⟨rfl, rfl⟩
   obtain ⟨ns, ens, hns⟩ : ∃ ns : Nat, 1 + nextV l s 3 = ns ∧ (1 ≤ ns ∧ ns ≤ 3) := ⟨(1 + nextV l s 3).toNat, by omega, by omega⟩
   have hw_ns : IntKind.i64.wrap (1 + nextV l s 3) = ns := by rw [wrap_in (by omega) (by omega), ens]
   clear ens hn_ns
   simp only [go_sem, hw_ns]
   clear hw_ns
   generalize nextS l s 3 = s1 at hd_s1 ⊢
   refine CallU.free (con_namesF qB ns (by decide) (by omega)) (by simp only [go_sem]) (by simp only [go_sem, qB]) ?_
   rintro r b rfl
   simp only [go_sem]
   have hn_np := nextV_lt (l := l) (s := s1) (n := 2) (by omega)
   have hd_s2 : Dk l (nextS l s1 2) := nextS_dk hd_s1
   refine CallU.boxes (i := 0) (is := []) (bx0 := [deckA l s1]) (con_dNext l s1 2 hd_s1) (by simp only [go_sem]) (by simp only [go_sem]) (by simp only [go_sem]) (by simp only [go_sem]) (by simp only [go_sem]) ?_
   rintro r b ⟨rfl, rfl⟩
   obtain ⟨np, enp, hnp⟩ : ∃ np : Nat, 1 + nextV l s1 2 = np ∧ (1 ≤ np ∧ np ≤ 2) := ⟨(1 + nextV l s1 2).toNat, by omega, by omega⟩
   have hw_np : IntKind.i64.wrap (1 + nextV l s1 2) = np := by rw [wrap_in (by omega) (by omega), enp]
   clear enp hn_np
   simp only [go_sem, hw_np]
   clear hw_np
   generalize nextS l s1 2 = s2 at hd_s2 ⊢
   refine CallU.free (con_namesF cB np (by decide) (by omega)) (by simp only [go_sem]) (by simp only [go_sem, cB]) ?_
   rintro r b rfl
   simp only [go_sem]
   have hn_nl := nextV_lt (l := l) (s := s2) (n := 3) (by omega)
   have hd_s3 : Dk l (nextS l s2 3) := nextS_dk hd_s2
   refine CallU.boxes (i := 0) (is := []) (bx0 := [deckA l s2]) (con_dNext l s2 3 hd_s2) (by simp only [go_sem]) (by simp only [go_sem]) (by simp only [go_sem]) (by simp only [go_sem]) (by simp only [go_sem]) ?_
   rintro r b ⟨rfl, rfl⟩
   obtain ⟨nl, enl, hnl⟩ : ∃ nl : Nat, 1 + nextV l s2 3 = nl ∧ (1 ≤ nl ∧ nl ≤ 3) := ⟨(1 + nextV l s2 3).toNat, by omega, by omega⟩
   have hw_nl : IntKind.i64.wrap (1 + nextV l s2 3) = nl := by rw [wrap_in (by omega) (by omega), enl]
   clear enl hn_nl
   simp only [go_sem, hw_nl]
   clear hw_nl
   generalize nextS l s2 3 = s3 at hd_s3 ⊢
   refine CallU.free (con_namesF lB nl (by decide) (by omega)) (by simp only [go_sem]) (by simp only [go_sem, lB]) ?_
   rintro r b rfl
   simp only [go_sem]
   have hn_K := nextV_lt (l := l) (s := s3) (n := 5) (by omega)
   have hd_K : Dk l (nextS l s3 5) := nextS_dk hd_s3
   refine CallU.boxes (i := 0) (is := []) (bx0 := [deckA l s3]) (con_dNext l s3 5 hd_s3) (by simp only [go_sem]) (by simp only [go_sem]) (by simp only [go_sem]) (by simp only [go_sem]) (by simp only [go_sem]) ?_
   rintro r b ⟨rfl, rfl⟩
   obtain ⟨K, eK, hK⟩ : ∃ K : Nat, nextV l s3 5 = K ∧ K ≤ 4 := ⟨(nextV l s3 5).toNat, by omega, by omega⟩
   clear hn_K
   simp only [go_sem, eK]
   refine hsh _ ⟨ns, np, nl, [], 0, 0, K, _, by rw [hkk]; exact num2 hns hnp hnl, hK, hd_K, ?_⟩
   rw [hkk]
   simp only [go_sem, vss, plB_2, List.map_nil, Nat.sub_zero]
   repeat' (first | exact trivial | exact leV_nil _ _ | exact leV_refl _ | refine ⟨?_, ?_⟩)
  ·simp only [go_sem]
   have hn_ns := nextV_lt (l := l) (s := s) (n := 3) (by omega)
   have hd_s1 : Dk l (nextS l s 3) := nextS_dk hd_s
   refine CallU.boxes (i := 0) (is := []) (bx0 := [deckA l s]) (con_dNext l s 3 hd_s) (by simp only [go_sem]) (by simp only [go_sem]) (by simp only [go_sem]) (by simp only [go_sem]) (by simp only [go_sem]) ?_
   rintro r b ⟨rfl, rfl⟩
   obtain ⟨ns, ens, hns⟩ : ∃ ns : Nat, 1 + nextV l s 3 = ns ∧ (1 ≤ ns ∧ ns ≤ 3) := ⟨(1 + nextV l s 3).toNat, by omega, by omega⟩
   have hw_ns : IntKind.i64.wrap (1 + nextV l s 3) = ns := by rw [wrap_in (by omega) (by omega), ens]
   clear ens hn_ns
   simp only [go_sem, hw_ns]
   clear hw_ns
   generalize nextS l s 3 = s1 at hd_s1 ⊢
   refine CallU.free (con_namesF qB ns (by decide) (by omega)) (by simp only [go_sem]) (by simp only [go_sem, qB]) ?_
   rintro r b rfl
   simp only [go_sem]
   have hn_np := nextV_lt (l := l) (s := s1) (n := 2) (by omega)
   have hd_s2 : Dk l (nextS l s1 2) := nextS_dk hd_s1
   refine CallU.boxes (i := 0) (is := []) (bx0 := [deckA l s1]) (con_dNext l s1 2 hd_s1) (by simp only [go_sem]) (by simp only [go_sem]) (by simp only [go_sem]) (by simp only [go_sem]) (by simp only [go_sem]) ?_
   rintro r b ⟨rfl, rfl⟩
   obtain ⟨np, enp, hnp⟩ : ∃ np : Nat, 1 + nextV l s1 2 = np ∧ (1 ≤ np ∧ np ≤ 2) := ⟨(1 + nextV l s1 2).toNat, by omega, by omega⟩
   have hw_np : IntKind.i64.wrap (1 + nextV l s1 2) = np := by rw [wrap_in (by omega) (by omega), enp]
   clear enp hn_np
   simp only [go_sem, hw_np]
   clear hw_np
   generalize nextS l s1 2 = s2 at hd_s2 ⊢
   refine CallU.free (con_namesF cB np (by decide) (by omega)) (by simp only [go_sem]) (by simp only [go_sem, cB]) ?_
   rintro r b rfl
   simp only [go_sem]
   have hn_nl := nextV_lt (l := l) (s := s2) (n := 3) (by omega)
   have hd_s3 : Dk l (nextS l s2 3) := nextS_dk hd_s2
   refine CallU.boxes (i := 0) (is := []) (bx0 := [deckA l s2]) (con_dNext l s2 3 hd_s2) (by simp only [go_sem]) (by simp only [go_sem]) (by simp only [go_sem]) (by simp only [go_sem]) (by simp only [go_sem]) ?_
   rintro r b ⟨rfl, rfl⟩
   obtain ⟨nl, enl, hnl⟩ : ∃ nl : Nat, 1 + nextV l s2 3 = nl ∧ (1 ≤ nl ∧ nl ≤ 3) := ⟨(1 + nextV l s2 3).toNat, by omega, by omega⟩
   have hw_nl : IntKind.i64.wrap (1 + nextV l s2 3) = nl := by rw [wrap_in (by omega) (by omega), enl]
   clear enl hn_nl
   simp only [go_sem, hw_nl]
   clear hw_nl
   generalize nextS l s2 3 = s3 at hd_s3 ⊢
   refine CallU.free (con_namesF lB nl (by decide) (by omega)) (by simp only [go_sem]) (by simp only [go_sem, lB]) ?_
   rintro r b rfl
   have hlen_l : (nmL lB nl).length = nl := nmL_len _ _
   have hd_s4 : Dk l (smS l s3 2 nl) := smS_dk hd_s3 _
   have hV := smV_low (l := l) (s := s3) (most := 2) (by omega) nl
   have hL := smV_len (l := l) (s := s3) (most := 2) nl
   simp only [go_sem, hlen_l]
   refine CallU.boxes (i := 0) (is := []) (bx0 := [deckA l s3]) (con_dRanksF l s3 nl hd_s3 (by omega)) (by simp only [go_sem]) (by simp only [go_sem]) (by simp only [go_sem]) (by simp only [go_sem]) (by simp only [go_sem]) ?_
   rintro r b ⟨rfl, rfl⟩
   generalize smV l s3 2 nl = ra at hV hL ⊢
   generalize smS l s3 2 nl = s4 at hd_s4 ⊢
   simp only [go_sem]
   have hn_K := nextV_lt (l := l) (s := s4) (n := 5) (by omega)
   have hd_K : Dk l (nextS l s4 5) := nextS_dk hd_s4
   refine CallU.boxes (i := 0) (is := []) (bx0 := [deckA l s4]) (con_dNext l s4 5 hd_s4) (by simp only [go_sem]) (by simp only [go_sem]) (by simp only [go_sem]) (by simp only [go_sem]) (by simp only [go_sem]) ?_
   rintro r b ⟨rfl, rfl⟩
   obtain ⟨K, eK, hK⟩ : ∃ K : Nat, nextV l s4 5 = K ∧ K ≤ 4 := ⟨(nextV l s4 5).toNat, by omega, by omega⟩
   clear hn_K
   simp only [go_sem, eK]
   refine hsh _ ⟨ns, np, nl, ra, 0, 0, K, _, by rw [hkk]; exact num3 hns hnp hnl hL hV, hK, hd_K, ?_⟩
   rw [hkk]
   simp only [go_sem, vss, plB_3, Nat.sub_zero]
   repeat' (first | exact trivial | exact leV_nil _ _ | exact leV_refl _ | refine ⟨?_, ?_⟩)
  ·simp only [go_sem]
   have hn_ns := nextV_lt (l := l) (s := s) (n := 3) (by omega)
   have hd_s1 : Dk l (nextS l s 3) := nextS_dk hd_s
   refine CallU.boxes (i := 0) (is := []) (bx0 := [deckA l s]) (con_dNext l s 3 hd_s) (by simp only [go_sem]) (by simp only [go_sem]) (by simp only [go_sem]) (by simp only [go_sem]) (by simp only [go_sem]) ?_
   rintro r b ⟨rfl, rfl⟩
   obtain ⟨ns, ens, hns⟩ : ∃ ns : Nat, 1 + nextV l s 3 = ns ∧ (1 ≤ ns ∧ ns ≤ 3) := ⟨(1 + nextV l s 3).toNat, by omega, by omega⟩
   have hw_ns : IntKind.i64.wrap (1 + nextV l s 3) = ns := by rw [wrap_in (by omega) (by omega), ens]
   clear ens hn_ns
   simp only [go_sem, hw_ns]
   clear hw_ns
   generalize nextS l s 3 = s1 at hd_s1 ⊢
   refine CallU.free (con_namesF qB ns (by decide) (by omega)) (by simp only [go_sem]) (by simp only [go_sem, qB]) ?_
   rintro r b rfl
   simp only [go_sem]
   have hn_nl := nextV_lt (l := l) (s := s1) (n := 3) (by omega)
   have hd_s2 : Dk l (nextS l s1 3) := nextS_dk hd_s1
   refine CallU.boxes (i := 0) (is := []) (bx0 := [deckA l s1]) (con_dNext l s1 3 hd_s1) (by simp only [go_sem]) (by simp only [go_sem]) (by simp only [go_sem]) (by simp only [go_sem]) (by simp only [go_sem]) ?_
   rintro r b ⟨rfl, rfl⟩
   obtain ⟨nl, enl, hnl⟩ : ∃ nl : Nat, 1 + nextV l s1 3 = nl ∧ (1 ≤ nl ∧ nl ≤ 3) := ⟨(1 + nextV l s1 3).toNat, by omega, by omega⟩
   have hw_nl : IntKind.i64.wrap (1 + nextV l s1 3) = nl := by rw [wrap_in (by omega) (by omega), enl]
   clear enl hn_nl
   simp only [go_sem, hw_nl]
   clear hw_nl
   generalize nextS l s1 3 = s2 at hd_s2 ⊢
   refine CallU.free (con_namesF lB nl (by decide) (by omega)) (by simp only [go_sem]) (by simp only [go_sem, lB]) ?_
   rintro r b rfl
   simp only [go_sem]
   have hn_lv := nextV_lt (l := l) (s := s2) (n := 2) (by omega)
   have hd_s3 : Dk l (nextS l s2 2) := nextS_dk hd_s2
   refine CallU.boxes (i := 0) (is := []) (bx0 := [deckA l s2]) (con_dNext l s2 2 hd_s2) (by simp only [go_sem]) (by simp only [go_sem]) (by simp only [go_sem]) (by simp only [go_sem]) (by simp only [go_sem]) ?_
   rintro r b ⟨rfl, rfl⟩
   obtain ⟨lv, elv, hlv⟩ : ∃ lv : Int, 1 + nextV l s2 2 = lv ∧ (1 ≤ lv ∧ lv ≤ 2) := ⟨1 + nextV l s2 2, rfl, by omega⟩
   have hw_lv : IntKind.i64.wrap (1 + nextV l s2 2) = lv := by rw [wrap_in (by omega) (by omega), elv]
   clear elv hn_lv
   simp only [go_sem, hw_lv]
   clear hw_lv
   generalize nextS l s2 2 = s3 at hd_s3 ⊢
   simp only [go_sem]
   have hn_K := nextV_lt (l := l) (s := s3) (n := 5) (by omega)
   have hd_K : Dk l (nextS l s3 5) := nextS_dk hd_s3
   refine CallU.boxes (i := 0) (is := []) (bx0 := [deckA l s3]) (con_dNext l s3 5 hd_s3) (by simp only [go_sem]) (by simp only [go_sem]) (by simp only [go_sem]) (by simp only [go_sem]) (by simp only [go_sem]) ?_
   rintro r b ⟨rfl, rfl⟩
   obtain ⟨K, eK, hK⟩ : ∃ K : Nat, nextV l s3 5 = K ∧ K ≤ 4 := ⟨(nextV l s3 5).toNat, by omega, by omega⟩
   clear hn_K
   simp only [go_sem, eK]
   refine hsh _ ⟨ns, 0, nl, [], lv, 0, K, _, by rw [hkk]; exact num4 hns hnl hlv, hK, hd_K, ?_⟩
   rw [hkk]
   simp only [go_sem, vss, nmL_zero, List.map_nil, Nat.sub_zero]
   repeat' (first | exact trivial | exact leV_nil _ _ | exact leV_refl _ | refine ⟨?_, ?_⟩)
  ·simp only [go_sem]
   have hn_ns := nextV_lt (l := l) (s := s) (n := 3) (by omega)
   have hd_s1 : Dk l (nextS l s 3) := nextS_dk hd_s
   refine CallU.boxes (i := 0) (is := []) (bx0 := [deckA l s]) (con_dNext l s 3 hd_s) (by simp only [go_sem]) (by simp only [go_sem]) (by simp only [go_sem]) (by simp only [go_sem]) (by simp only [go_sem]) ?_
   rintro r b ⟨rfl, rfl⟩
   obtain ⟨ns, ens, hns⟩ : ∃ ns : Nat, 1 + nextV l s 3 = ns ∧ (1 ≤ ns ∧ ns ≤ 3) := ⟨(1 + nextV l s 3).toNat, by omega, by omega⟩
   have hw_ns : IntKind.i64.wrap (1 + nextV l s 3) = ns := by rw [wrap_in (by omega) (by omega), ens]
   clear ens hn_ns
   simp only [go_sem, hw_ns]
   clear hw_ns
   generalize nextS l s 3 = s1 at hd_s1 ⊢
   refine CallU.free (con_namesF qB ns (by decide) (by omega)) (by simp only [go_sem]) (by simp only [go_sem, qB]) ?_
   rintro r b rfl
   simp only [go_sem]
   have hn_np := nextV_lt (l := l) (s := s1) (n := 3) (by omega)
   have hd_s2 : Dk l (nextS l s1 3) := nextS_dk hd_s1
   refine CallU.boxes (i := 0) (is := []) (bx0 := [deckA l s1]) (con_dNext l s1 3 hd_s1) (by simp only [go_sem]) (by simp only [go_sem]) (by simp only [go_sem]) (by simp only [go_sem]) (by simp only [go_sem]) ?_
   rintro r b ⟨rfl, rfl⟩
   obtain ⟨np, enp, hnp⟩ : ∃ np : Nat, 1 + nextV l s1 3 = np ∧ (1 ≤ np ∧ np ≤ 3) := ⟨(1 + nextV l s1 3).toNat, by omega, by omega⟩
   have hw_np : IntKind.i64.wrap (1 + nextV l s1 3) = np := by rw [wrap_in (by omega) (by omega), enp]
   clear enp hn_np
   simp only [go_sem, hw_np]
   clear hw_np
   generalize nextS l s1 3 = s2 at hd_s2 ⊢
   refine CallU.free (con_namesF pB np (by decide) (by omega)) (by simp only [go_sem]) (by simp only [go_sem, pB]) ?_
   rintro r b rfl
   simp only [go_sem]
   have hn_ag := nextV_lt (l := l) (s := s2) (n := 2) (by omega)
   have hd_s3 : Dk l (nextS l s2 2) := nextS_dk hd_s2
   refine CallU.boxes (i := 0) (is := []) (bx0 := [deckA l s2]) (con_dNext l s2 2 hd_s2) (by simp only [go_sem]) (by simp only [go_sem]) (by simp only [go_sem]) (by simp only [go_sem]) (by simp only [go_sem]) ?_
   rintro r b ⟨rfl, rfl⟩
   generalize nextV l s2 2 = ag at hn_ag ⊢
   generalize nextS l s2 2 = s3 at hd_s3 ⊢
   simp only [go_sem]
   have hd_s4 : Dk l (nextS l s3 6) := nextS_dk hd_s3
   refine CallU.boxes (i := 0) (is := []) (bx0 := [deckA l s3]) (con_dOne l s3 6 hd_s3) (by simp only [go_sem]) (by simp only [go_sem]) (by simp only [go_sem]) (by simp only [go_sem]) (by simp only [go_sem]) ?_
   rintro r b ⟨rfl, rfl⟩
   generalize nextS l s3 6 = s4 at hd_s4 ⊢
   cases ho : oneV l s3 6
   ·simp only [go_sem]
    have hn_K := nextV_lt (l := l) (s := s4) (n := 5) (by omega)
    have hd_K : Dk l (nextS l s4 5) := nextS_dk hd_s4
    refine CallU.boxes (i := 0) (is := []) (bx0 := [deckA l s4]) (con_dNext l s4 5 hd_s4) (by simp only [go_sem]) (by simp only [go_sem]) (by simp only [go_sem]) (by simp only [go_sem]) (by simp only [go_sem]) ?_
    rintro r b ⟨rfl, rfl⟩
    obtain ⟨K, eK, hK⟩ : ∃ K : Nat, nextV l s4 5 = K ∧ K ≤ 4 := ⟨(nextV l s4 5).toNat, by omega, by omega⟩
    clear hn_K
    simp only [go_sem, eK]
    refine hsh _ ⟨ns, np, 0, [], 0, ag, K, _, by rw [hkk]; exact num5 hns hnp (by omega), hK, hd_K, ?_⟩
    rw [hkk]
    simp only [go_sem, vss, plB_5, nmL_zero, List.map_nil, Nat.sub_zero]
    repeat' (first | exact trivial | exact leV_nil _ _ | exact leV_refl _ | refine ⟨?_, ?_⟩)
   ·simp only [go_sem]
    have hn_K := nextV_lt (l := l) (s := s4) (n := 5) (by omega)
    have hd_K : Dk l (nextS l s4 5) := nextS_dk hd_s4
    refine CallU.boxes (i := 0) (is := []) (bx0 := [deckA l s4]) (con_dNext l s4 5 hd_s4) (by simp only [go_sem]) (by simp only [go_sem]) (by simp only [go_sem]) (by simp only [go_sem]) (by simp only [go_sem]) ?_
    rintro r b ⟨rfl, rfl⟩
    obtain ⟨K, eK, hK⟩ : ∃ K : Nat, nextV l s4 5 = K ∧ K ≤ 4 := ⟨(nextV l s4 5).toNat, by omega, by omega⟩
    clear hn_K
    simp only [go_sem, eK]
    refine hsh _ ⟨ns, np, 0, [], 0, 2, K, _, by rw [hkk]; exact num5 hns hnp (by omega), hK, hd_K, ?_⟩
    rw [hkk]
    simp only [go_sem, vss, plB_5, nmL_zero, List.map_nil, Nat.sub_zero]
    repeat' (first | exact trivial | exact leV_nil _ _ | exact leV_refl _ | refine ⟨?_, ?_⟩)
  ·simp only [go_sem]
   have hn_ns := nextV_lt (l := l) (s := s) (n := 3) (by omega)
   have hd_s1 : Dk l (nextS l s 3) := nextS_dk hd_s
   refine CallU.boxes (i := 0) (is := []) (bx0 := [deckA l s]) (con_dNext l s 3 hd_s) (by simp only [go_sem]) (by simp only [go_sem]) (by simp only [go_sem]) (by simp only [go_sem]) (by simp only [go_sem]) ?_
   rintro r b ⟨rfl, rfl⟩
   obtain ⟨ns, ens, hns⟩ : ∃ ns : Nat, 1 + nextV l s 3 = ns ∧ (1 ≤ ns ∧ ns ≤ 3) := ⟨(1 + nextV l s 3).toNat, by omega, by omega⟩
   have hw_ns : IntKind.i64.wrap (1 + nextV l s 3) = ns := by rw [wrap_in (by omega) (by omega), ens]
   clear ens hn_ns
   simp only [go_sem, hw_ns]
   clear hw_ns
   generalize nextS l s 3 = s1 at hd_s1 ⊢
   refine CallU.free (con_namesF qB ns (by decide) (by omega)) (by simp only [go_sem]) (by simp only [go_sem, qB]) ?_
   rintro r b rfl
   simp only [go_sem]
   have hn_np := nextV_lt (l := l) (s := s1) (n := 3) (by omega)
   have hd_s2 : Dk l (nextS l s1 3) := nextS_dk hd_s1
   refine CallU.boxes (i := 0) (is := []) (bx0 := [deckA l s1]) (con_dNext l s1 3 hd_s1) (by simp only [go_sem]) (by simp only [go_sem]) (by simp only [go_sem]) (by simp only [go_sem]) (by simp only [go_sem]) ?_
   rintro r b ⟨rfl, rfl⟩
   obtain ⟨np, enp, hnp⟩ : ∃ np : Nat, 1 + nextV l s1 3 = np ∧ (1 ≤ np ∧ np ≤ 3) := ⟨(1 + nextV l s1 3).toNat, by omega, by omega⟩
   have hw_np : IntKind.i64.wrap (1 + nextV l s1 3) = np := by rw [wrap_in (by omega) (by omega), enp]
   clear enp hn_np
   simp only [go_sem, hw_np]
   clear hw_np
   generalize nextS l s1 3 = s2 at hd_s2 ⊢
   refine CallU.free (con_namesF pB np (by decide) (by omega)) (by simp only [go_sem]) (by simp only [go_sem, pB]) ?_
   rintro r b rfl
   simp only [go_sem]
   have hn_K := nextV_lt (l := l) (s := s2) (n := 5) (by omega)
   have hd_K : Dk l (nextS l s2 5) := nextS_dk hd_s2
   refine CallU.boxes (i := 0) (is := []) (bx0 := [deckA l s2]) (con_dNext l s2 5 hd_s2) (by simp only [go_sem]) (by simp only [go_sem]) (by simp only [go_sem]) (by simp only [go_sem]) (by simp only [go_sem]) ?_
   rintro r b ⟨rfl, rfl⟩
   obtain ⟨K, eK, hK⟩ : ∃ K : Nat, nextV l s2 5 = K ∧ K ≤ 4 := ⟨(nextV l s2 5).toNat, by omega, by omega⟩
   clear hn_K
   simp only [go_sem, eK]
   refine hsh _ ⟨ns, np, 0, [], 0, 0, K, _, by rw [hkk]; exact num6 hns hnp, hK, hd_K, ?_⟩
   rw [hkk]
   simp only [go_sem, vss, plB_6, nmL_zero, List.map_nil, Nat.sub_zero]
   repeat' (first | exact trivial | exact leV_nil _ _ | exact leV_refl _ | refine ⟨?_, ?_⟩)
 case key =>
  rintro τ ⟨ns, np, nl, ra, lv, ag, K, s0, hN, hK, hd0, hle⟩
  refine LoopK.intro (fun p : List RD × DS => ⟨103, [(0, .pb 0 0), (1, vi k'), (4, .pb 1 0), (5, .pb 2 0), (6, vi ((K - p.1.length : Nat) : Int))], deckA l p.2 :: [.any, .any, .any, .any, .any, .any, .any, .any, .any, .any] ::
    [vi k', vss (nmL qB ns), vss (nmL (plB k') np), vss (nmL lB nl), vs 0 ra, vi lv, vi ag, .sl 6080 14 (p.1.map vRule), vi 0, .nil] :: Rk 14 p.1.length⟩)
   (fun p => K - p.1.length) (fun p => p.1.length ≤ K ∧ Dk l p.2 ∧ p.1.map RD.name = rkL K p.1.length ∧ ∀ r ∈ p.1, rightR (dealtG k' ns np nl ra lv ag [] zeroV) r = true ∧ LenR r) ([], s0) ⟨by simp, hd0, rfl, fun r hr => by cases hr⟩ hle ?_
  clear hle
  rintro ⟨rules, s4⟩ ⟨h1, h2, h3, h4⟩
  simp only at h1 h2 h3 h4
  have hB := Rk_len 14 rules.length
  have n0 := fun L : List (List AV) => app_at0 (L := L) hB
  have s0' := fun (L : List (List AV)) z => app_set0 (L := L) (z := z) hB
  by_cases h : rules.length < K
  ·have hgt : (0 : Int) < ((K - rules.length : Nat) : Int) := by omega
   have hru : Con Tryz.prog 61 [.pb 0 0, hidA (dealtG k' ns np nl ra lv ag [] zeroV)] [deckA l s4] _ := con_dRuleX l s4 h2 hN
   simp only [go_sem, hgt, vss]
   refine CallU.hide [] [.pb 0 0, hidA (dealtG k' ns np nl ra lv ag [] zeroV)] (i := 0) (is := []) (bx0 := [deckA l s4]) hru (by simp only [go_sem]) ?_ (by simp only [go_sem]) (by simp only [go_sem]) (by simp only [go_sem]) (by simp only [go_sem]) (by simp only [go_sem]) ?_
   ·simp only [go_sem]
    exact leV_ag ⟨leV_refl _, leV_refl _, leV_refl _, leV_refl _, leV_refl _, leV_refl _, leV_refl _, leV_any _, leV_any _, leV_any _, trivial⟩
   rintro r b ⟨x, s5, ⟨g1, g1n, g1l⟩, g3, rfl, rfl⟩
   obtain ⟨q, hq⟩ : ∃ q, q = K - rules.length := ⟨_, rfl⟩
   rw [← hq]
   have hw3 : IntKind.i64.wrap (48 + (q : Int)) = 48 + q := wrap_in (by omega) (by omega)
   have hw4 : IntKind.u8.wrap (48 + (q : Int)) = 48 + q := by rw [IntKind.wrap_u8]; omega
   have hb : bytesOf [.sc (.int .u8 (48 + (q : Int)))] = some [48 + (q : Int)] := rfl
   have e1 : (strOf [48 + (q : Int)]).size = 1 := rfl
   have hw5 : IntKind.i64.wrap ((q : Int) - 1) = ((K - (rules.length + 1) : Nat) : Int) := by rw [wrap_in (by omega) (by omega)]; omega
   simp only [go_sem, hB, n0, s0', hw3, hw4, hb, hw5]
   refine ⟨by rw [e1]; omega, by simp only [roomFor]; omega, roundK.intro (rules ++ [{ x with name := nm1 rB q }], s5) ⟨by rw [List.length_append]; show rules.length + 1 ≤ K; omega, g3, ?_, fun r hr => ?_⟩ (by show K - (rules ++ [_]).length < K - rules.length; rw [List.length_append]; show K - (rules.length + 1) < _; omega) ?_⟩
   ·show (rules ++ [{ x with name := nm1 rB q }]).map RD.name = rkL K (rules ++ [_]).length
    rw [List.length_append, List.map_append, h3]
    show rkL K rules.length ++ [nm1 rB q] = rkL K (rules.length + 1)
    rw [rk_succ, hq]
   ·rcases List.mem_append.1 hr with hr | hr
    ·exact h4 r hr
    ·rw [List.mem_singleton] at hr; subst hr
     exact ⟨by rw [right_name]; exact g1, ⟨⟨g1l.len.need, g1l.len.give, g1l.len.move, g1l.len.path, g1l.len.next, g1l.len.takes, g1l.len.makes⟩, g1l.path, g1l.next⟩⟩
   ·simp only [go_sem, Rk_succ, List.length_append, List.length_cons, List.length_nil, List.map_append, List.map_cons, List.map_nil, nm1, rB]
    exact leB_RkA ⟨leC_any _ 14 rfl, trivial⟩
  ·have ek2 : rules.length = K := by omega
   have hgt : ¬ (0 : Int) < ((K - rules.length : Nat) : Int) := by omega
   by_cases k6 : k' = 6
   ·have b6 : (k' != 6) = false := by rw [k6]; rfl
    simp only [go_sem, hgt, b6, vss]
    refine ⟨ns, np, nl, ra, lv, ag, rules, zeroV, s4, ⟨hN, by omega, by rw [h3, ek2], h4, by rw [if_pos k6], .leaf 0⟩, h2, ?_, rfl⟩
    exact leV_ag ⟨leV_refl _, leV_refl _, leV_refl _, leV_refl _, leV_refl _, leV_refl _, leV_refl _, leV_refl _, leV_refl _, leV_nil 0 2, trivial⟩
   ·have b6 : (k' != 6) = true := bne_iff_ne.2 k6
    have hO : OwnX (dealtG k' ns np nl ra lv ag [] zeroV) := hN.own
    have hcf := con_dConfigX l s4 (dealtG k' ns np nl ra lv ag [] zeroV) hO h2
    have hva := config_valid (l := l) (s := s4) hO
    have hsz := hO.size
    have hsl := valF_slim (l := l) (s := s4) (type_ok hsz.1 hsz.2)
    have hd5 := valF_dk (l := l) (s := s4) (t := typeM (dealtG k' ns np nl ra lv ag [] zeroV)) h2
    generalize valF l s4 (typeM (dealtG k' ns np nl ra lv ag [] zeroV)) = q at hcf hva hsl hd5
    simp only [go_sem, hgt, b6, vss]
    refine CallU.hide [] [.pb 0 0, hidA (dealtG k' ns np nl ra lv ag [] zeroV)] (i := 0) (is := []) (bx0 := [deckA l s4]) hcf (by simp only [go_sem]) ?_ (by simp only [go_sem]) (by simp only [go_sem]) (by simp only [go_sem]) (by simp only [go_sem]) (by simp only [go_sem]) ?_
    ·simp only [go_sem]
     exact leV_ag ⟨leV_refl _, leV_refl _, leV_refl _, leV_refl _, leV_refl _, leV_refl _, leV_refl _, leV_any _, leV_any _, leV_any _, trivial⟩
    rintro r b ⟨rfl, rfl⟩
    simp only [go_sem]
    refine ⟨ns, np, nl, ra, lv, ag, rules, q.1, q.2, ⟨hN, by omega, by rw [h3, ek2], h4, by rw [if_neg k6]; exact hva, hsl⟩, hd5, ?_, rfl⟩
    exact leV_refl _
theorem con_dModelX (l : List Int) (s : DS) (k : Int) (hd : Dk l s) (hk : 1 ≤ k ∧ k ≤ 6) : Con Tryz.prog 19 [.pb 0 0, vi k] [deckA l s]
  fun r b => ∃ (ns np nl : Nat) (ra : List Int) (lv ag : Int) (rules : List RD) (st : CV) (s' : DS), DealtG k ns np nl ra lv ag rules st ∧ Dk l s' ∧ r = vM (dealtG k ns np nl ra lv ag rules st) ∧ b = [deckA l s'] :=
 ((con_dModelG l s k k rfl hd hk).freezeB fun _ => true).weak fun r b ⟨r1, b1, ⟨ns, np, nl, ra, lv, ag, rules, st, s', h1, h2, h3, h4⟩, h7, h8⟩ => by
  subst h4; subst h7; subst h8
  exact ⟨_, ⟨ns, np, nl, ra, lv, ag, rules, st, s', h1, h2, rfl, rfl⟩, h3⟩
end Go.AM

/-! ## HG -/
namespace Go.AM
open Go Go.Proofs Go.RowKit
def noneA (e : Int) : AV := .tup [.ag [vi 0, .nil], vi e]
attribute [go_sem] noneA
end Go.AM

/-! ## HP -/
namespace Go.AM
open Go Go.Proofs Go.RowKit
end Go.AM

/-! ## HM -/
namespace Go.AM
open Go Go.Proofs Go.RowKit
end Go.AM

/-! ## HO -/
namespace Go.AM
open Go Go.Proofs Go.RowKit
end Go.AM

/-! ## HN -/
namespace Go.AM
open Go Go.Proofs Go.RowKit
section
variable {ns np : Nat} {r : RD}
end
end Go.AM

/-! ## HQ -/
namespace Go.AM
open Go Go.Proofs Go.RowKit
set_option maxRecDepth 100000
theorem con_dFew (l : List Int) : Con Tryz.prog 14 [vs 0 l] [] fun r _ => r = vb (decide ((l.length : Int) ≤ 400)) := by
 refine Con.intro Tryz.func14 rfl Tryz.ntmps14 Tryz.results14 (by kernel_rfl) (by simp) 0 (by simp) ?_
 simp only [go_sem]
theorem deck_dk {l : List Int} (h : (l.length : Int) ≤ 400) : Dk l (0, 11400714819323198485) := ⟨Nat.zero_le _, by omega⟩
section
variable {ns np x0 : Nat} {rules : List RD} {v0 M v : List Int}
end
end Go.AM
