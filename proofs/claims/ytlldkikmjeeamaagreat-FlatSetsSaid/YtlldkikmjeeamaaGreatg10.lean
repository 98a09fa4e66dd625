/-
  Walks: counter models of the dice.
  Counter models of the dice are right; the strongest atom as a plain law.
  Walks: a cycle of a model, by the dice (law30.cycle).
  Walks: the sanity check of chapter 30; reached vectors (FlatReaches).
  Walks: the reference's comparison of lists of numbers.
  How arguments read: slices of elements of several cells, structs.
  From the contract of a law of one list of bytes to its row.
-/
import Derived.Test.YtlldkikmjeeamaaGreatg9
import Derived.Test.YtlldkikmjeeamaaGreatg8
import Derived.Test.YtlldkikmjeeamaaGreatg6
import Derived.SizedLaws
import Derived.Test.YtlldkikmjeeamaaGreatRows
import Derived.Test.YtlldkikmjeeamaaGreatg7
/-! ## CnA -/
namespace Go.AM
open Go Go.Proofs Go.RowKit

def statesL : List ByteArray := [⟨#[97]⟩, ⟨#[98]⟩]
def placesL : List ByteArray := [⟨#[120]⟩, ⟨#[121]⟩]
def ruleNames : List ByteArray := [⟨#[114]⟩, ⟨#[115]⟩, ⟨#[116]⟩]
/-- a rule of the dice -/
structure DealR (ns np : Nat) (r : RD) : Prop where
  thin : ThinR r
  src : 0 ≤ r.src ∧ r.src < ns
  dst : 0 ≤ r.dst ∧ r.dst < ns
  need : r.need.length = np ∧ ∀ x ∈ r.need, 0 ≤ x ∧ x ≤ 2
  give : r.give.length = np ∧ ∀ x ∈ r.give, 0 ≤ x ∧ x ≤ 2
def dealM (ns np : Nat) (rules : List RD) (v0 : List Int) : MD := { kind := 1, states := statesL.take ns, places := placesL.take np, rules := rules, start := cfgC 0 v0 }
/-- what the dice deal -/
structure DealM (ns np : Nat) (rules : List RD) (v0 : List Int) : Prop where
  hns : 1 ≤ ns ∧ ns ≤ 2
  hnp : 1 ≤ np ∧ np ≤ 2
  len : 1 ≤ rules.length ∧ rules.length ≤ 3
  names : rules.map RD.name = ruleNames.take rules.length
  rules : ∀ r ∈ rules, DealR ns np r
  start : v0.length = np ∧ ∀ x ∈ v0, 0 ≤ x ∧ x ≤ 3

set_option maxRecDepth 100000 in
set_option maxHeartbeats 4000000 in
theorem con_counter (l : List Int) (at_ : Nat) (hs : Seeds l) (ha : at_ ≤ l.length) :
    Con Tryz.prog 15 [.pb 0 0, vb false] [diceA l at_]
    fun r b => ∃ (ns np : Nat) (rules : List RD) (v0 : List Int) (at' : Nat), DealM ns np rules v0 ∧ at' ≤ l.length ∧ b = [diceA l at'] ∧ r = .ag [vi 1, .sl 2 1 ((statesL.take ns).map vStr), .sl 3 1 ((placesL.take np).map vStr), .nil, .nil, vi 0, vi 0, .sl 4 14 (rules.map ruleN), vi 0, .sl 5 2 (((0 : Int) :: v0).map kidN)] := by
  refine Con.intro Tryz.func15 rfl Tryz.ntmps15 Tryz.results15 (by kernel_rfl) (by simp) 1 (by simp) ?_
  have hp1 := pickA_le ha
  simp only [go_sem]
  refine DrawK.news0 [(11, 2)] [10] [(10, 14), (10, 20), (15, 19), (15, 20)] 0 [2, 7] [] 12 (.one 12 .done) none (diceA l at_) mixed (by kernel_rfl) (by kernel_rfl) (by kernel_rfl) (by simp only [go_sem]) (by simp only [go_sem]) ⟨by simp only [go_sem], by simp only [go_sem]⟩ ⟨by simp only [go_sem], by simp only [go_sem]⟩ ?_
  simp only [go_sem]
  refine EffK.mk (con_pickF l at_ 2 hs ha (by omega)) (by simp only [go_sem]) (by simp only [go_sem]) (by simp only [go_sem]) (by simp only [go_sem]) ?_
  obtain ⟨ns, ens, hns1, hns2⟩ : ∃ ns : Nat, 1 + pickV l at_ 2 = ns ∧ 1 ≤ ns ∧ ns ≤ 2 := by
    have := pickV_lt (l := l) (at_ := at_) (show (1 : Int) ≤ 2 by omega)
    exact ⟨(1 + pickV l at_ 2).toNat, by omega, by omega, by omega⟩
  obtain ⟨np, enp, hnp1, hnp2⟩ : ∃ np : Nat, 1 + pickV l (pickA l at_) 2 = np ∧ 1 ≤ np ∧ np ≤ 2 := by
    have := pickV_lt (l := l) (at_ := pickA l at_) (show (1 : Int) ≤ 2 by omega)
    exact ⟨(1 + pickV l (pickA l at_) 2).toNat, by omega, by omega, by omega⟩
  have hw1 : IntKind.i64.wrap (1 + pickV l at_ 2) = ns := by rw [wrap_in (by omega) (by omega), ens]
  have hw2 : IntKind.i64.wrap (1 + pickV l (pickA l at_) 2) = np := by rw [wrap_in (by omega) (by omega), enp]
  simp only [go_sem, hw1, hns2]
  refine EffK.mk (con_pickF l (pickA l at_) 2 hs hp1 (by omega)) (by simp only [go_sem]) (by simp only [go_sem]) (by simp only [go_sem]) (by simp only [go_sem]) ?_
  have hp2 := pickA_le hp1
  have hrep : List.replicate 10 AV.any = [.any, .any, .any, .any, .any, .any, .any, .any, .any, .any] := rfl
  have est : List.take ns [AV.sc (Value.string { data := #[97] }), AV.sc (Value.string { data := #[98] })] = (statesL.take ns).map vStr := by rw [List.map_take]; rfl
  have epl : List.take np [AV.sc (Value.string { data := #[120] }), AV.sc (Value.string { data := #[121] })] = (placesL.take np).map vStr := by rw [List.map_take]; rfl
  have lst : (statesL.take ns).length = ns := by rw [List.length_take]; simp only [statesL, List.length_cons, List.length_nil]; omega
  have lpl : (placesL.take np).length = np := by rw [List.length_take]; simp only [placesL, List.length_cons, List.length_nil]; omega
  simp only [go_sem, hw2, hnp2, hrep, est, epl, lpl]
  refine ⟨?_, trivial⟩
  refine LoopK.intro (fun p : List RD × Nat => ⟨85, [(0, .pb 0 0), (1, vb false), (4, .pb 1 0), (5, .pb 2 0), (6, vi np), (7, vi p.1.length)], [diceA l p.2, [.any, .any, .any, .any, .any, .any, .any, .any, .any, .any], [vi 1, .sl 704 1 ((statesL.take ns).map vStr), .sl 1024 1 ((placesL.take np).map vStr), .nil, .nil, vi 0, vi 0, .sl 4992 14 (p.1.map ruleN), vi 0, .nil]] ++ Rk 14 p.1.length⟩)
    (fun p => 3 - p.1.length) (fun p => p.1.length ≤ 3 ∧ p.1.map RD.name = ruleNames.take p.1.length ∧ (∀ r ∈ p.1, DealR ns np r) ∧ p.2 ≤ l.length) ([], pickA l (pickA l at_)) ⟨by simp, rfl, by simp, hp2⟩ ?_ ?_
  · simp only [go_sem, List.length_nil, Rk, List.replicate_zero, List.append_nil, List.map_nil]
  rintro ⟨rules, at1⟩ ⟨h1, h2, h3, h4⟩
  simp only at h1 h2 h3 h4
  have hpk := pickV_lt (l := l) (at_ := at1) (show (1 : Int) ≤ 3 by omega)
  obtain ⟨k, ek, hk1, hk2⟩ : ∃ k : Nat, 1 + pickV l at1 3 = k ∧ 1 ≤ k ∧ k ≤ 3 := ⟨(1 + pickV l at1 3).toNat, by omega, by omega, by omega⟩
  have hw3 : IntKind.i64.wrap (1 + pickV l at1 3) = k := by rw [wrap_in (by omega) (by omega), ek]
  simp only [go_sem, List.cons_append, List.nil_append]
  refine CallU.boxes (i := 0) (is := []) (bx0 := [diceA l at1]) (con_pickF l at1 3 hs h4 (by omega)) (by simp only [go_sem]) (by simp only [go_sem]) (by simp only [go_sem]) (by simp only [go_sem]) (by simp only [go_sem]) ?_
  rintro r b ⟨rfl, rfl⟩
  have h5 := pickA_le h4
  generalize pickA l at1 = at2 at h5
  by_cases h : rules.length < k
  · simp only [go_sem, hw3, h]
    obtain ⟨i, hi⟩ : ∃ i, i = rules.length := ⟨_, rfl⟩
    rw [← hi]
    have : i = 0 ∨ i = 1 ∨ i = 2 := by omega
    have hp3 := pickA_le h5
    have hp4 := pickA_le hp3
    have hp5 := rollA_le hp4 np
    have hs1 := rollS_lt (l := l) (at_ := at2) hns1
    have hs2 := rollS_lt (l := l) (at_ := pickA l at2) hns1
    have e1 := con_intsF l (pickA l (pickA l at2)) np 2 hs hp4 (by omega) (by omega)
    have e2 := con_intsF l (rollA l (pickA l (pickA l at2)) np) np 2 hs hp5 (by omega) (by omega)
    have hrep : List.replicate 14 AV.any = [.any, .any, .any, .any, .any, .any, .any, .any, .any, .any, .any, .any, .any, .any] := rfl
    rcases this with rfl | rfl | rfl
    · have hr : DealR ns np (bareR ruleNames[0]! (rollS l at2 ns) (rollS l (pickA l at2) ns) (rollV l (pickA l (pickA l at2)) 2 np) (rollV l (rollA l (pickA l (pickA l at2)) np) 2 np) []) :=
        ⟨rfl, ⟨by show (0 : Int) ≤ (rollS l at2 ns : Int); omega, by show (rollS l at2 ns : Int) < ns; omega⟩, ⟨by show (0 : Int) ≤ (rollS l (pickA l at2) ns : Int); omega, by show (rollS l (pickA l at2) ns : Int) < ns; omega⟩, ⟨rollV_len np, rollV_low (by omega) np⟩, ⟨rollV_len np, rollV_low (by omega) np⟩⟩
      have hln : (rules ++ [bareR ruleNames[0]! (rollS l at2 ns) (rollS l (pickA l at2) ns) (rollV l (pickA l (pickA l at2)) 2 np) (rollV l (rollA l (pickA l (pickA l at2)) np) 2 np) []]).length = 1 := by rw [List.length_append, ← hi]; rfl
      have hnm : ruleNames[0]! = ⟨#[114]⟩ := rfl
      simp only [Rk, List.replicate]
      refine DrawK.news0 [(21, 3)] [14] [(31, 33)] 0 [8, 13, 16, 19] [] 22 (.one 22 .done) none (diceA l at2) mixed (by kernel_rfl) (by kernel_rfl) (by kernel_rfl) (by simp only [go_sem]) (by simp only [go_sem]) ⟨by simp only [go_sem], by simp only [go_sem]⟩ ⟨by simp only [go_sem], by simp only [go_sem]⟩ ?_
      simp only [go_sem, List.length_map, lst]
      refine EffK.mk (con_pickF l at2 ns hs h5 (by omega)) (by simp only [go_sem]) (by simp only [go_sem]) (by simp only [go_sem]) (by simp only [go_sem]) ?_
      simp only [go_sem, List.length_map, lst, hs1.2]
      refine EffK.mk (con_pickF l (pickA l at2) ns hs hp3 (by omega)) (by simp only [go_sem]) (by simp only [go_sem]) (by simp only [go_sem]) (by simp only [go_sem]) ?_
      simp only [go_sem, hs2.2]
      refine EffK.mk e1 (by simp only [go_sem]) (by simp only [go_sem]) (by simp only [go_sem]) (by simp only [go_sem]) ?_
      simp only [go_sem]
      refine EffK.mk e2 (by simp only [go_sem]) (by simp only [go_sem]) (by simp only [go_sem]) (by simp only [go_sem]) ?_
      simp only [go_sem, hrep, ← hi]
      refine ⟨⟨by unfold roomFor; omega, ?_⟩, trivial⟩
      refine roundK.intro (rules ++ [bareR ruleNames[0]! (rollS l at2 ns) (rollS l (pickA l at2) ns) (rollV l (pickA l (pickA l at2)) 2 np) (rollV l (rollA l (pickA l (pickA l at2)) np) 2 np) []], rollA l (rollA l (pickA l (pickA l at2)) np) np) ⟨by rw [hln]; omega, ?_, fun x hx => ?_, rollA_le hp5 np⟩ (by show 3 - (rules ++ [_]).length < 3 - rules.length; rw [hln]; omega) ?_
      · rw [hln, List.map_append, h2, ← hi]; rfl
      · rcases List.mem_append.1 hx with hx | hx
        · exact h3 x hx
        · rw [List.mem_singleton] at hx; subst hx; exact hr
      · simp only [go_sem, hln, List.replicate, List.map_append, List.map_cons, List.map_nil]
        exact ⟨leV_int rfl, by rw [hnm]; exact leV_refl _⟩
    · have hr : DealR ns np (bareR ruleNames[1]! (rollS l at2 ns) (rollS l (pickA l at2) ns) (rollV l (pickA l (pickA l at2)) 2 np) (rollV l (rollA l (pickA l (pickA l at2)) np) 2 np) []) :=
        ⟨rfl, ⟨by show (0 : Int) ≤ (rollS l at2 ns : Int); omega, by show (rollS l at2 ns : Int) < ns; omega⟩, ⟨by show (0 : Int) ≤ (rollS l (pickA l at2) ns : Int); omega, by show (rollS l (pickA l at2) ns : Int) < ns; omega⟩, ⟨rollV_len np, rollV_low (by omega) np⟩, ⟨rollV_len np, rollV_low (by omega) np⟩⟩
      have hln : (rules ++ [bareR ruleNames[1]! (rollS l at2 ns) (rollS l (pickA l at2) ns) (rollV l (pickA l (pickA l at2)) 2 np) (rollV l (rollA l (pickA l (pickA l at2)) np) 2 np) []]).length = 2 := by rw [List.length_append, ← hi]; rfl
      have hnm : ruleNames[1]! = ⟨#[115]⟩ := rfl
      simp only [Rk, List.replicate]
      refine DrawK.news0 [(21, 4)] [14] [(31, 33)] 0 [8, 13, 16, 19] [] 22 (.one 22 .done) none (diceA l at2) mixed (by kernel_rfl) (by kernel_rfl) (by kernel_rfl) (by simp only [go_sem]) (by simp only [go_sem]) ⟨by simp only [go_sem], by simp only [go_sem]⟩ ⟨by simp only [go_sem], by simp only [go_sem]⟩ ?_
      simp only [go_sem, List.length_map, lst]
      refine EffK.mk (con_pickF l at2 ns hs h5 (by omega)) (by simp only [go_sem]) (by simp only [go_sem]) (by simp only [go_sem]) (by simp only [go_sem]) ?_
      simp only [go_sem, List.length_map, lst, hs1.2]
      refine EffK.mk (con_pickF l (pickA l at2) ns hs hp3 (by omega)) (by simp only [go_sem]) (by simp only [go_sem]) (by simp only [go_sem]) (by simp only [go_sem]) ?_
      simp only [go_sem, hs2.2]
      refine EffK.mk e1 (by simp only [go_sem]) (by simp only [go_sem]) (by simp only [go_sem]) (by simp only [go_sem]) ?_
      simp only [go_sem]
      refine EffK.mk e2 (by simp only [go_sem]) (by simp only [go_sem]) (by simp only [go_sem]) (by simp only [go_sem]) ?_
      simp only [go_sem, hrep, ← hi]
      refine ⟨⟨by unfold roomFor; omega, ?_⟩, trivial⟩
      refine roundK.intro (rules ++ [bareR ruleNames[1]! (rollS l at2 ns) (rollS l (pickA l at2) ns) (rollV l (pickA l (pickA l at2)) 2 np) (rollV l (rollA l (pickA l (pickA l at2)) np) 2 np) []], rollA l (rollA l (pickA l (pickA l at2)) np) np) ⟨by rw [hln]; omega, ?_, fun x hx => ?_, rollA_le hp5 np⟩ (by show 3 - (rules ++ [_]).length < 3 - rules.length; rw [hln]; omega) ?_
      · rw [hln, List.map_append, h2, ← hi]; rfl
      · rcases List.mem_append.1 hx with hx | hx
        · exact h3 x hx
        · rw [List.mem_singleton] at hx; subst hx; exact hr
      · simp only [go_sem, hln, List.replicate, List.map_append, List.map_cons, List.map_nil]
        exact ⟨leV_int rfl, by rw [hnm]; exact leV_refl _⟩
    · have hr : DealR ns np (bareR ruleNames[2]! (rollS l at2 ns) (rollS l (pickA l at2) ns) (rollV l (pickA l (pickA l at2)) 2 np) (rollV l (rollA l (pickA l (pickA l at2)) np) 2 np) []) :=
        ⟨rfl, ⟨by show (0 : Int) ≤ (rollS l at2 ns : Int); omega, by show (rollS l at2 ns : Int) < ns; omega⟩, ⟨by show (0 : Int) ≤ (rollS l (pickA l at2) ns : Int); omega, by show (rollS l (pickA l at2) ns : Int) < ns; omega⟩, ⟨rollV_len np, rollV_low (by omega) np⟩, ⟨rollV_len np, rollV_low (by omega) np⟩⟩
      have hln : (rules ++ [bareR ruleNames[2]! (rollS l at2 ns) (rollS l (pickA l at2) ns) (rollV l (pickA l (pickA l at2)) 2 np) (rollV l (rollA l (pickA l (pickA l at2)) np) 2 np) []]).length = 3 := by rw [List.length_append, ← hi]; rfl
      have hnm : ruleNames[2]! = ⟨#[116]⟩ := rfl
      simp only [Rk, List.replicate]
      refine DrawK.news0 [(21, 5)] [14] [(31, 33)] 0 [8, 13, 16, 19] [] 22 (.one 22 .done) none (diceA l at2) mixed (by kernel_rfl) (by kernel_rfl) (by kernel_rfl) (by simp only [go_sem]) (by simp only [go_sem]) ⟨by simp only [go_sem], by simp only [go_sem]⟩ ⟨by simp only [go_sem], by simp only [go_sem]⟩ ?_
      simp only [go_sem, List.length_map, lst]
      refine EffK.mk (con_pickF l at2 ns hs h5 (by omega)) (by simp only [go_sem]) (by simp only [go_sem]) (by simp only [go_sem]) (by simp only [go_sem]) ?_
      simp only [go_sem, List.length_map, lst, hs1.2]
      refine EffK.mk (con_pickF l (pickA l at2) ns hs hp3 (by omega)) (by simp only [go_sem]) (by simp only [go_sem]) (by simp only [go_sem]) (by simp only [go_sem]) ?_
      simp only [go_sem, hs2.2]
      refine EffK.mk e1 (by simp only [go_sem]) (by simp only [go_sem]) (by simp only [go_sem]) (by simp only [go_sem]) ?_
      simp only [go_sem]
      refine EffK.mk e2 (by simp only [go_sem]) (by simp only [go_sem]) (by simp only [go_sem]) (by simp only [go_sem]) ?_
      simp only [go_sem, hrep, ← hi]
      refine ⟨⟨by unfold roomFor; omega, ?_⟩, trivial⟩
      refine roundK.intro (rules ++ [bareR ruleNames[2]! (rollS l at2 ns) (rollS l (pickA l at2) ns) (rollV l (pickA l (pickA l at2)) 2 np) (rollV l (rollA l (pickA l (pickA l at2)) np) 2 np) []], rollA l (rollA l (pickA l (pickA l at2)) np) np) ⟨by rw [hln]; omega, ?_, fun x hx => ?_, rollA_le hp5 np⟩ (by show 3 - (rules ++ [_]).length < 3 - rules.length; rw [hln]; omega) ?_
      · rw [hln, List.map_append, h2, ← hi]; rfl
      · rcases List.mem_append.1 hx with hx | hx
        · exact h3 x hx
        · rw [List.mem_singleton] at hx; subst hx; exact hr
      · simp only [go_sem, hln, List.replicate, List.map_append, List.map_cons, List.map_nil]
        exact ⟨leV_int rfl, by rw [hnm]; exact leV_refl _⟩
  · simp only [go_sem, hw3, h]
    refine CallU.boxes (i := 0) (is := []) (bx0 := [diceA l at2]) (con_intsF l at2 np 3 hs h5 (by omega) (by omega)) (by simp only [go_sem]) (by simp only [go_sem]) (by simp only [go_sem]) (by simp only [go_sem]) (by simp only [go_sem]) ?_
    rintro r b ⟨rfl, rfl⟩
    simp only [go_sem]
    have hcf : Con Tryz.prog 21 [vi 0, vs 0 (rollV l at2 3 np)] [] fun r _ => r = cfgN 2 0 (rollV l at2 3 np) := con_config28 0 (rollV l at2 3 np) (by rw [rollV_len]; omega)
    refine CallU.free hcf (by simp only [go_sem]) (by simp only [go_sem]) ?_
    rintro r b rfl
    simp only [go_sem]
    have hge : 1 ≤ rules.length := by omega
    exact ⟨ns, np, rules, rollV l at2 3 np, rollA l at2 np, ⟨⟨hns1, hns2⟩, ⟨hnp1, hnp2⟩, ⟨hge, h1⟩, h2, h3, ⟨rollV_len np, rollV_low (by omega) np⟩⟩, rollA_le h5 np, rfl, rfl⟩
end Go.AM

/-! ## CnB -/
namespace Go.AM
open Go Go.Proofs Go.RowKit

theorem deal_names {ns np k : Nat} (h1 : 1 ≤ ns ∧ ns ≤ 2) (h2 : 1 ≤ np ∧ np ≤ 2) (h3 : 1 ≤ k ∧ k ≤ 3) : namesB (statesL.take ns ++ placesL.take np ++ [] ++ ruleNames.take k) = true := by
  obtain rfl | rfl : ns = 1 ∨ ns = 2 := by omega
  all_goals obtain rfl | rfl : np = 1 ∨ np = 2 := by omega
  all_goals obtain rfl | rfl | rfl : k = 1 ∨ k = 2 ∨ k = 3 := by omega
  all_goals decide +kernel
theorem states_len {ns : Nat} (h : ns ≤ 2) : (statesL.take ns).length = ns := by rw [List.length_take]; simp only [statesL, List.length_cons, List.length_nil]; omega
theorem places_len {np : Nat} (h : np ≤ 2) : (placesL.take np).length = np := by rw [List.length_take]; simp only [placesL, List.length_cons, List.length_nil]; omega
theorem deal_rule {ns np : Nat} {r : RD} (h : DealR ns np r) : ruleB ns np r = true ∧ bareB r = true ∧ stillB r = true := by
  have h0 := h.thin
  unfold ThinR at h0
  have hmv : r.move = [] := by rw [h0]
  refine ⟨?_, by rw [h0]; rfl, by rw [h0]; rfl⟩
  unfold ruleB changesB movesB smallB indexB betweenB
  rw [hmv]
  simp only [Bool.and_eq_true, decide_eq_true_eq, List.all_eq_true, Bool.or_eq_true]
  have hs := h.src; have hd := h.dst
  refine ⟨⟨⟨⟨hd.1, hd.2⟩, ⟨hs.1, hs.2⟩⟩, ⟨⟨⟨h.need.1, h.give.1⟩, fun x hx => ?_⟩, fun x hx => ?_⟩⟩, .inl rfl⟩
  · have := h.need.2 x hx; omega
  · have := h.give.2 x hx; omega
theorem deal_conf {ns np : Nat} {rules : List RD} {v0 : List Int} (h : DealM ns np rules v0) {s : Nat} {v : List Int} (hs : s < ns) (hl : v.length = np) (hv : ∀ x ∈ v, 0 ≤ x ∧ x ≤ 1048576) : GoodC (dealM ns np rules v0) s v :=
  ⟨by show s < (statesL.take ns).length; rw [states_len h.hns.2]; exact hs, by show v.length = (placesL.take np).length; rw [places_len h.hnp.2]; exact hl, hv⟩
theorem deal_plain {ns np : Nat} {rules : List RD} {v0 : List Int} (h : DealM ns np rules v0) : PlainM (dealM ns np rules v0) 0 v0 := by
  have l1 : (dealM ns np rules v0).states.length = ns := states_len h.hns.2
  have l2 : (dealM ns np rules v0).places.length = np := places_len h.hnp.2
  have h1 := h.hns; have h2 := h.hnp; have h3 := h.len
  have hc : GoodC (dealM ns np rules v0) 0 v0 := deal_conf h (by omega) h.start.1 fun x hx => by have := h.start.2 x hx; omega
  refine ⟨⟨rfl, by rw [l1]; omega, by rw [l2]; omega, by show rules.length ≤ 12; omega, rfl, rfl, rfl, rfl, ?_, fun r hr => ?_, ?_⟩, ?_, rfl, hc⟩
  · show namesB (statesL.take ns ++ placesL.take np ++ [] ++ rules.map RD.name) = true
    rw [h.names]; exact deal_names h1 h2 h3
  · rw [l1, l2]
    have := deal_rule (h.rules r hr)
    exact ⟨this.1, this.2.1⟩
  · exact hc.conf
  · show rules.all stillB = true
    rw [List.all_eq_true]
    exact fun r hr => (deal_rule (h.rules r hr)).2.2
theorem deal_thin {ns np : Nat} {rules : List RD} {v0 : List Int} (h : DealM ns np rules v0) : ∀ r ∈ (dealM ns np rules v0).rules, ThinR r := fun r hr => (h.rules r hr).thin

/-- a model of the dice, never written again -/
theorem con_Counter (l : List Int) (at_ : Nat) (hs : Seeds l) (ha : at_ ≤ l.length) :
    Con Tryz.prog 15 [.pb 0 0, vb false] [diceA l at_]
    fun r b => ∃ (ns np : Nat) (rules : List RD) (v0 : List Int) (at' : Nat), DealM ns np rules v0 ∧ at' ≤ l.length ∧ b = [diceA l at'] ∧ r = vM (dealM ns np rules v0) :=
  ((con_counter l at_ hs ha).freezeB fun _ => true).weak fun r b ⟨r1, b1, ⟨ns, np, rules, v0, at1, hd, h1, h2, h3⟩, h4, h5⟩ => by
    subst h2; subst h3; subst h4; subst h5
    exact ⟨_, ⟨ns, np, rules, v0, at1, hd, h1, rfl, rfl⟩, model_le (m := dealM ns np rules v0) (deal_plain hd).good (deal_thin hd) rfl⟩
/-- a configuration of the dice, never written again -/
theorem con_ConfigC (l : List Int) (at_ : Nat) (m : MD) (hs : Seeds l) (ha : at_ ≤ l.length) (hk : m.kind = 1) (h1 : 1 ≤ m.states.length ∧ m.states.length ≤ 8) (h2 : 1 ≤ m.places.length ∧ m.places.length ≤ 6) :
    Con Tryz.prog 38 [.pb 0 0, vM m] [diceA l at_]
    fun r b => r = vV (cfgC (rollS l at_ m.states.length) (rollV l (pickA l at_) 3 m.places.length)) ∧ b = [diceA l (rollA l (pickA l at_) m.places.length)] :=
  ((con_Config l at_ m hs ha hk h1 h2).freezeB fun _ => true).weak fun r b ⟨r1, b1, ⟨h3, h4⟩, h5, h6⟩ => by
    subst h3; subst h4; subst h5; subst h6
    exact ⟨_, ⟨rfl, rfl⟩, cfg_le _ _⟩
end Go.AM

/-! ## FH -/
namespace Go.AM
open Go Go.Proofs Go.RowKit

def cycleTail : Tr := .one 6 (.one 7 (.alt (.one 8 (.alt (.one 9 (.one 10 (.one 11 .done))) (.one 10 (.one 9 (.one 11 .done))))) (.one 9 (.one 8 (.one 10 (.one 11 .done))))))
set_option maxRecDepth 100000 in
set_option maxHeartbeats 4000000 in
theorem con_cycle0 (l : List Int) (at_ : Nat) (m : MD) (hs : Seeds l) (ha : at_ ≤ l.length) (h : GoodM m) (hst : m.rules.all stillB = true) (h3 : 1 ≤ m.rules.length ∧ m.rules.length ≤ 3) :
    Con Tryz.prog 16 [.pb 0 0, vM m] [diceA l at_] fun r b => ∃ c at', RulesOk m.rules c ∧ 1 ≤ c.length ∧ c.length ≤ 3 ∧ at' ≤ l.length ∧ b = [diceA l at'] ∧ (r = vs 2 c ∨ r = vs 0 c) := by
  refine Con.intro Tryz.func16 rfl Tryz.ntmps16 Tryz.results16 (by kernel_rfl) (by simp) 1 (by simp) ?_
  have h1 := h.states
  have hN := rollS_lt (l := l) (at_ := at_) h1.1
  have hp1 := pickA_le ha
  have hC := con_rCycles m (rollS l at_ m.states.length) 3 h hst h3.2 hN.1 (by omega)
  simp only [go_sem, vM, cM, vss]
  refine DrawK.meet ⟨42, [(0, .pb 0 0), (3, .pb 1 0), (5, .sl 962 1 ((cycF m.rules (rollS l at_ m.states.length) 3).map (vs 0))), (6, vi 0)], [diceA l (pickA l at_), cM m]⟩ ?_ ?_
  · refine DrawK.effs0 0 [5] [] 6 cycleTail none (diceA l at_) mixed (by kernel_rfl) (by kernel_rfl) (by simp only [go_sem]) (by simp only [go_sem]) ?_
    simp only [go_sem, vss, List.length_map]
    refine EffK.mk (con_pickF l at_ m.states.length hs ha (by omega)) (by simp only [go_sem]) (by simp only [go_sem]) (by simp only [go_sem]) (by simp only [go_sem]) ?_
    unfold cycleTail
    simp only [go_sem, hN.2]
    refine ⟨CallU.free hC (by simp only [go_sem]) (by simp only [go_sem, vM, cM, vss]) ?_, trivial⟩
    rintro r bx rfl
    repeat' (first | with_reducible apply andK_mk | simp only [go_sem])
  have hcl := (cyc_len (rules := m.rules) (s := rollS l at_ m.states.length) h3.2 (n := 3) (by omega)).1
  have hce := fun w => cyc_each (rules := m.rules) (s := rollS l at_ m.states.length) (n := 3) (w := w)
  generalize cycF m.rules (rollS l at_ m.states.length) 3 = L at *
  generalize pickA l at_ = at1 at *
  by_cases hL : L.length = 0
  · have hL' : ((L.length : Int) == 0) = true := by rw [hL]; rfl
    simp only [go_sem, cM, vss, List.length_map, hL']
    have q1 := pickV_lt (l := l) (at_ := at1) (n := (m.rules.length : Int)) (by omega)
    have q2 := pickV_lt (l := l) (at_ := pickA l at1) (n := (m.rules.length : Int)) (by omega)
    have hp2 := pickA_le hp1
    refine DrawK.effs0 0 [4, 9] [] 11 (.one 11 .done) none (diceA l at1) mixed (by kernel_rfl) (by kernel_rfl) (by simp only [go_sem]) (by simp only [go_sem]) ?_
    simp only [go_sem, List.length_map]
    refine EffK.mk (con_pickF l at1 m.rules.length hs hp1 (by omega)) (by simp only [go_sem]) (by simp only [go_sem]) (by simp only [go_sem]) (by simp only [go_sem]) ?_
    simp only [go_sem, List.length_map]
    refine EffK.mk (con_pickF l (pickA l at1) m.rules.length hs hp2 (by omega)) (by simp only [go_sem]) (by simp only [go_sem]) (by simp only [go_sem]) (by simp only [go_sem]) ?_
    simp only [go_sem]
    refine ⟨⟨[pickV l at1 m.rules.length, pickV l (pickA l at1) m.rules.length], pickA l (pickA l at1), fun k hk => ?_, by simp, by simp, pickA_le hp2, rfl, .inl rfl⟩, trivial⟩
    simp only [List.mem_cons, List.not_mem_nil, or_false] at hk
    rcases hk with rfl | rfl
    · exact q1
    · exact q2
  · have hL' : ((L.length : Int) == 0) = false := beq_eq_false_iff_ne.2 (by omega)
    simp only [go_sem, cM, vss, List.length_map, hL']
    refine CallU.boxes (i := 0) (is := []) (bx0 := [diceA l at1]) (con_pickF l at1 (L.length : Int) hs hp1 (by omega)) (by simp only [go_sem]) (by simp only [go_sem]) (by simp only [go_sem]) (by simp only [go_sem]) (by simp only [go_sem]) ?_
    rintro r b ⟨rfl, rfl⟩
    have hpk := pickV_lt (l := l) (at_ := at1) (n := (L.length : Int)) (by omega)
    obtain ⟨k, ek, hk2⟩ : ∃ k : Nat, pickV l at1 (L.length : Int) = k ∧ k < L.length := ⟨(pickV l at1 (L.length : Int)).toNat, by omega, by omega⟩
    have hg : (L.map (vs 0))[k]? = some (vs 0 L[k]) := by rw [List.getElem?_map, List.getElem?_eq_getElem hk2]; rfl
    simp only [go_sem, ek, hk2, hg]
    have hx := hce _ (List.getElem_mem hk2)
    have hx2 := ways_each hx.2.2.1
    exact ⟨L[k], pickA l at1, hx2.2, hx.1, hx.2.1, pickA_le hp1, rfl, .inr rfl⟩
theorem con_cycle (l : List Int) (at_ : Nat) (m : MD) (hs : Seeds l) (ha : at_ ≤ l.length) (h : GoodM m) (hst : m.rules.all stillB = true) (h3 : 1 ≤ m.rules.length ∧ m.rules.length ≤ 3) :
    Con Tryz.prog 16 [.pb 0 0, vM m] [diceA l at_] fun r b => ∃ c at', RulesOk m.rules c ∧ 1 ≤ c.length ∧ c.length ≤ 3 ∧ at' ≤ l.length ∧ b = [diceA l at'] ∧ r = vs 0 c :=
  ((con_cycle0 l at_ m hs ha h hst h3).freezeB fun _ => true).mono fun r b ⟨r1, b1, ⟨c, at1, h1, h2, h3, h4, h5, h6⟩, h7, h8⟩ => by
    subst h5; subst h7; subst h8
    refine ⟨c, at1, h1, h2, h3, h4, rfl, ?_⟩
    rcases h6 with rfl | rfl <;> rfl
end Go.AM

/-! ## FI -/
namespace Go.AM
open Go Go.Proofs Go.RowKit

def sane30R : RD := ⟨⟨#[114]⟩, 0, 0, [2], [1], [], 0, 0, 0, [], [], [], [], 0⟩
def sane30M : MD := { kind := 1, states := [⟨#[97]⟩], places := [⟨#[120]⟩], rules := [sane30R], start := cfgC 0 [0] }
theorem sane30_plain : PlainM sane30M 0 [0] := by
  refine ⟨⟨rfl, by decide, by decide, by decide, rfl, rfl, rfl, rfl, by decide +kernel, ?_, by decide +kernel⟩, by decide +kernel, rfl, ⟨by decide, by decide, ?_⟩⟩
  · intro r hr
    have : r = sane30R := by simpa [sane30M] using hr
    subst this
    decide +kernel
  · intro x hx
    have : x = 0 := by simpa using hx
    subst this; omega
theorem sane30_le : leV (modelN sane30M 0 0 [0]) (vM sane30M) := model_le sane30_plain.good (fun r hr => by
  have : r = sane30R := by simpa [sane30M] using hr
  subst this; rfl) rfl
set_option maxRecDepth 100000 in
set_option maxHeartbeats 4000000 in
theorem con_sane30 : Con Tryz.prog 13 [] [] fun r _ => r = vb true := by
  refine Con.intro Tryz.func13 rfl Tryz.ntmps13 Tryz.results13 (by kernel_rfl) (by simp) 0 (by simp) ?_
  have hc : RulesOk sane30M.rules [0] := fun k hk => by rw [one_mem (y := 0) hk]; exact ⟨by omega, by decide⟩
  have h5 : VecS 1 [5] := ⟨rfl, fun x hx => by rw [one_mem hx]; omega⟩
  have h3 : VecS 1 [3] := ⟨rfl, fun x hx => by rw [one_mem hx]; omega⟩
  have he : fcheckE sane30M.rules [0] = 0 := by decide +kernel
  have hst : sane30M.rules.all stillB = true := by decide +kernel
  have hT := con_Times sane30M [0] [5] sane30_plain.good hst hc (by decide) h5.ok he
  have e1 : timesP (needL sane30M.places.length sane30M.rules [0]) (chgL sane30M.places.length sane30M.rules [0]) [5] sane30M.places.length = some 4 := by decide +kernel
  rw [e1] at hT
  have hA := con_After sane30M [0] [5] 4 sane30_plain.good hst hc (by decide) h5 he (by omega)
  have e2 : doesB (needL sane30M.places.length sane30M.rules [0]) (chgL sane30M.places.length sane30M.rules [0]) [5] sane30M.places.length (4 : Nat) = true := by decide +kernel
  have e3 : afterL sane30M.places.length (chgL sane30M.places.length sane30M.rules [0]) [5] (4 : Nat) = [1] := by decide +kernel
  rw [e2, if_pos rfl, e3] at hA
  have hR := con_Reaches sane30M [0] [5] [3] sane30_plain.good hst hc (by decide) h5.ok h3.ok he
  have e4 : reachF sane30M.places.length (needL sane30M.places.length sane30M.rules [0]) (chgL sane30M.places.length sane30M.rules [0]) [5] [3] = (2, true) := by decide +kernel
  rw [e4] at hR
  simp only [go_sem]
  refine CallU.freeze (hT.leA (args' := [modelN sane30M 0 0 [0], vs 0 [0], vs 0 [5]]) ⟨sane30_le, leV_refl _, leV_refl _, trivial⟩) (by simp only [go_sem]) (by simp only [go_sem, sane30M, sane30R, List.map_cons, List.map_nil]) ?_
  rintro r bx rfl
  simp only [go_sem, optN_some, Option.isSome_some]
  refine CallU.freeze (hA.leA (args' := [modelN sane30M 0 0 [0], vs 0 [0], vs 0 [5], vi (4 : Nat)]) ⟨sane30_le, leV_refl _, leV_refl _, leV_refl _, trivial⟩) (by simp only [go_sem]) (by simp only [go_sem, sane30M, sane30R, List.map_cons, List.map_nil]) ?_
  rintro r bx rfl
  simp only [go_sem, List.map_cons, List.map_nil]
  refine CallU.freeze (hR.leA (args' := [modelN sane30M 0 0 [0], vs 0 [0], vs 0 [5], vs 0 [3]]) ⟨sane30_le, leV_refl _, leV_refl _, leV_refl _, trivial⟩) (by simp only [go_sem]) (by simp only [go_sem, sane30M, sane30R, List.map_cons, List.map_nil]) ?_
  rintro r bx rfl
  simp only [go_sem]
end Go.AM

/-! ## FK -/
namespace Go.AM
open Go Go.Proofs Go.RowKit

def ordL (a b : Int) : Int := if a < b then -1 else if b < a then 1 else 0
def lexI : List Int → List Int → Int
  | x :: xs, y :: ys => if x = y then lexI xs ys else ordL x y
  | _, _ => 0
def cmpI (a b : List Int) : Int := if a.length = b.length then lexI a b else ordL a.length b.length
theorem ord_zero {a b : Int} : ordL a b = 0 ↔ a = b := by unfold ordL; split <;> (try split) <;> omega
theorem lex_zero : ∀ {a b : List Int}, a.length = b.length → (lexI a b = 0 ↔ a = b)
  | [], [], _ => by simp [lexI]
  | x :: xs, y :: ys, h => by
    unfold lexI
    have hl : xs.length = ys.length := by simpa using h
    split
    · rename_i e; rw [lex_zero hl, e]; simp
    · rename_i e; rw [ord_zero]; simp [e]
  | [], _ :: _, h => by simp at h
  | _ :: _, [], h => by simp at h
theorem cmp_zero {a b : List Int} : cmpI a b = 0 ↔ a = b := by
  unfold cmpI
  split
  · rename_i h; exact lex_zero h
  · rename_i h
    rw [ord_zero]
    exact ⟨fun e => by omega, fun e => by rw [e]⟩
theorem lex_drop {a b : List Int} (hl : a.length = b.length) : ∀ i, i ≤ a.length → (∀ j, j < i → a[j]! = b[j]!) → lexI a b = lexI (a.drop i) (b.drop i)
  | 0, _, _ => rfl
  | i + 1, hi, h => by
    rw [lex_drop hl i (by omega) fun j hj => h j (by omega)]
    have h1 : i < a.length := by omega
    have h2 : i < b.length := by omega
    have e := h i (by omega)
    rw [getElem!_pos a i h1, getElem!_pos b i h2] at e
    rw [List.drop_eq_getElem_cons h1, List.drop_eq_getElem_cons h2, lexI, if_pos e]
theorem lex_stop {a b : List Int} (hl : a.length = b.length) {i : Nat} (hi : i < a.length) (h : ∀ j, j < i → a[j]! = b[j]!) (hn : a[i]! ≠ b[i]!) : lexI a b = ordL a[i]! b[i]! := by
  have h2 : i < b.length := by omega
  rw [lex_drop hl i (by omega) h]
  rw [getElem!_pos a i hi, getElem!_pos b i h2] at *
  rw [List.drop_eq_getElem_cons hi, List.drop_eq_getElem_cons h2, lexI, if_neg hn]
theorem lex_same {a b : List Int} (hl : a.length = b.length) (h : ∀ j, j < a.length → a[j]! = b[j]!) : lexI a b = 0 := by
  rw [lex_drop hl a.length (Nat.le_refl _) h, List.drop_eq_nil_of_le (Nat.le_refl _)]
  unfold lexI; rfl
set_option maxRecDepth 100000 in
theorem con_rorder (a b : Int) : Con Tryz.prog 84 [vi a, vi b] [] fun r _ => r = vi (ordL a b) := by
  refine Con.intro Tryz.func84 rfl Tryz.ntmps84 Tryz.results84 (by kernel_rfl) (by simp) 0 (by simp) ?_
  unfold ordL
  by_cases h1 : a < b
  · simp only [go_sem, h1, if_true]
  · by_cases h2 : b < a
    · simp only [go_sem, h1, h2, if_true, if_false]
    · simp only [go_sem, h1, h2, if_true, if_false]
set_option maxRecDepth 100000 in
set_option maxHeartbeats 1000000 in
theorem con_rcompareI (a b : List Int) (ha : a.length ≤ 1000000) : Con Tryz.prog 29 [vs 0 a, vs 0 b] [] fun r _ => r = vi (cmpI a b) := by
  refine Con.intro Tryz.func29 rfl Tryz.ntmps29 Tryz.results29 (by kernel_rfl) (by simp) 0 (by simp) ?_
  by_cases hl : a.length = b.length
  case neg =>
    have hl' : ((a.length : Int) != (b.length : Int)) = true := bne_iff_ne.2 (by omega)
    have e : cmpI a b = ordL a.length b.length := by unfold cmpI; rw [if_neg hl]
    simp only [go_sem, hl', List.length_map]
    refine CallU.free (con_rorder a.length b.length) (by simp only [go_sem]) (by simp only [go_sem]) ?_
    rintro x bx rfl
    simp only [go_sem, e]
  have e : cmpI a b = lexI a b := by unfold cmpI; rw [if_pos hl]
  have hl' : ((a.length : Int) != (b.length : Int)) = false := by rw [hl]; simp
  rw [e]
  simp only [go_sem, hl', List.length_map]
  refine LoopK.intro (fun i : Nat => ⟨40, [(0, vs 0 a), (1, vs 0 b), (5, vi i)], []⟩)
    (fun i => a.length - i) (fun i => i ≤ a.length ∧ ∀ j, j < i → a[j]! = b[j]!) 0 ⟨by omega, fun j hj => by omega⟩ ?_ ?_
  · simp only [go_sem]
    all_goals exact leV_refl _
  rintro i ⟨hi, hb⟩
  by_cases h : i < a.length
  · have h2 : i < b.length := by omega
    have g1 := getv h
    have g2 := getv h2
    have hw : IntKind.i64.wrap (i + 1) = i + 1 := wrap_in (by omega) (by omega)
    simp only [go_sem, h]
    refine DrawK.walk 9 mixed (by kernel_rfl) ?_
    by_cases hp : a[i]! = b[i]!
    · have hp' : (a[i]! != b[i]!) = false := by rw [hp]; simp
      simp only [go_sem, h, h2, g1, g2, hp', hw]
      refine roundK.intro (i + 1) ⟨by omega, fun j hj => ?_⟩ (by omega) ?_
      · by_cases hji : j = i
        · subst hji; exact hp
        · exact hb j (by omega)
      · simp only [go_sem]
    · have hp' : (a[i]! != b[i]!) = true := bne_iff_ne.2 hp
      have e2 := lex_stop hl h hb hp
      simp only [go_sem, h, h2, g1, g2, hp']
      refine DrawK.walk 10 mixed (by kernel_rfl) ?_
      simp only [go_sem, h, h2, g1, g2]
      refine CallY.mk (con_rorder a[i]! b[i]!) (by simp only [go_sem]) (by simp only [go_sem]) (.inl (by simp only [go_sem])) ?_
      simp only [go_sem, e2]
  · have e2 := lex_same hl fun j hj => hb j (by omega)
    simp only [go_sem, h, e2]
set_option maxRecDepth 100000 in
theorem con_rsameI (a b : List Int) (ha : a.length ≤ 1000000) : Con Tryz.prog 23 [vs 0 a, vs 0 b] [] fun r _ => r = vb (a == b) := by
  refine Con.intro Tryz.func23 rfl Tryz.ntmps23 Tryz.results23 (by kernel_rfl) (by simp) 0 (by simp) ?_
  simp only [go_sem]
  refine CallU.free (con_rcompareI a b ha) (by simp only [go_sem]) (by simp only [go_sem]) ?_
  rintro x bx rfl
  have e : (cmpI a b == 0) = (a == b) := by rw [Bool.eq_iff_iff, beq_iff_eq, beq_iff_eq]; exact cmp_zero
  simp only [go_sem, e]
end Go.AM

/-! ## Am3 -/
namespace Go.AM
open Go.ChangeShapes Go.WideShapes Go.ChangeAt Go.RowKit

section
variable {H : Type} {enc : TypeId × Value → H} {P : Program} {w : World} {base : Nat} {spare : Nat → Bool} {held : Bool}

/-- what these cells stand for -/
def Reads (w : World) (xs : List AV) (cs : List Value) : Prop := PW (FRel (Stable (oldG w)) w) xs cs ∧ One cs
theorem Reads.cons {x : AV} {xs : List AV} {v : Value} {cs : List Value} (h : Reads w [x] [v]) (k : Reads w xs cs) : Reads w (x :: xs) (v :: cs) :=
  ⟨.cons (h.1.2 0 x v rfl rfl) k.1, fun u hu => by
    rcases List.mem_cons.1 hu with rfl | hu
    · exact h.2 u (by simp)
    · exact k.2 u hu⟩
theorem Reads.one {x : AV} {v : Value} (h : Reads w [x] [v]) : FRel (Stable (oldG w)) w x v := h.1.2 0 x v rfl rfl
theorem Reads.of {x : AV} {v : Value} (h : FRel (Stable (oldG w)) w x v) (k : v.oneCell' = true) : Reads w [x] [v] := ⟨.cons h (.nil _), fun u hu => by simp at hu; subst hu; exact k⟩

def elemsOf : DataW H → List (DataW H)
  | .slice l _ => l
  | _ => []
def partsOf : DataW H → List (DataW H)
  | .agg l => l
  | _ => []

theorem flatten_at {α : Type} {es : Nat} : ∀ {L : List (List α)} {j : Nat} {u : α}, (∀ l ∈ L, l.length = es) → L.flatten[j]? = some u → ∃ i o l, j = i * es + o ∧ L[i]? = some l ∧ l[o]? = some u
  | [], j, u, _, h => by simp at h
  | l :: L, j, u, hl, h => by
    rw [List.flatten_cons] at h
    by_cases hj : j < l.length
    · rw [List.getElem?_append_left hj] at h; exact ⟨0, j, l, by omega, rfl, h⟩
    · rw [List.getElem?_append_right (by omega)] at h
      obtain ⟨i, o, l', h1, h2, h3⟩ := flatten_at (fun l' hl' => hl l' (by simp [hl'])) h
      have := hl l (by simp)
      exact ⟨i + 1, o, l', by rw [Nat.succ_mul]; omega, by simpa using h2, h3⟩

/-- a slice, its elements read by g -/
theorem slice_reads {t e : TypeId} {g : DataW H → AV} {es fuel : Nat} {cs : List Value} {d : DataW H} {ps : List MemPlace} (ht : P.underlying t = some (.slice e)) (hc : P.cellsOf e = es) (hes : 0 < es)
    (h : DataW.trod enc P w base spare held fuel t cs = some (d, ps))
    (hel : ∀ x ∈ elemsOf d, ∀ n cs' ps', DataW.trod enc P w base spare held n e cs' = some (x, ps') → Reads w (g x).cells cs') :
    ∃ v, cs = [v] ∧ Reads w [.sl 0 es ((elemsOf d).map g)] [v] ∧ (elemsOf d).length ≤ 9223372036854775807 ∧ ∀ x ∈ elemsOf d, ∃ n cs' ps', DataW.trod enc P w base spare held n e cs' = some (x, ps') := by
  rcases Go.Deep.open_slice ht h with ⟨rfl, h2⟩ | ⟨a, len, cap, m, n, D, Pl, rfl, _, hl, hcm, hm, h2, hx⟩
  · simp only [Prod.mk.injEq] at h2
    obtain ⟨rfl, _⟩ := h2
    exact ⟨_, rfl, .of (.slNil _ _ _ _ (by omega) (by simp) (by simp)) rfl, by simp [elemsOf], fun x hx => by simp [elemsOf] at hx⟩
  · simp only [Prod.mk.injEq] at h2
    obtain ⟨rfl, _⟩ := h2
    refine ⟨_, rfl, ?_, by simp only [elemsOf, List.length_map, List.length_range]; unfold maxLen at hcm; omega, fun x hx' => by
      simp only [elemsOf] at hx'
      obtain ⟨i, hi, rfl⟩ := List.mem_map.1 hx'
      obtain ⟨cs', _, h2⟩ := hx i (by have := List.mem_range.1 hi; rw [hm]; split <;> omega)
      exact ⟨n, cs', _, h2⟩⟩
    refine .of ?_ rfl
    have hlm : len ≤ m := by rw [hm]; split <;> omega
    rcases Nat.eq_zero_or_pos len with h0 | hp
    · subst h0
      exact .slNil _ _ _ _ (by omega) (by simp) (by simp)
    obtain ⟨CS, hCS⟩ := Go.Deep.choose_lt (α := List Value) (p := fun i cs' => w.cells? base (a.add (i * P.cellsOf e)) (P.cellsOf e) = some cs' ∧ DataW.trod enc P w base spare held n e cs' = some (D i, Pl i)) (n := len) (fun i hi => hx i (by omega))
    rw [hc] at hCS
    have hcell : ∀ i, i < len → (CS i).length = es ∧ ∀ o, o < es → w.cell? ((a.add (i * es)).add o) = (CS i)[o]? := fun i hi =>
      let ⟨_, h1, h2⟩ := World.cells?_some (hCS i hi).1
      ⟨h1, h2⟩
    have hrd : ∀ i, i < len → Reads w (g (D i)).cells (CS i) := fun i hi => hel (D i) (by simp only [elemsOf]; exact List.mem_map.2 ⟨i, List.mem_range.2 hi, rfl⟩) n (CS i) (Pl i) (hCS i hi).2
    obtain ⟨b, off, spot⟩ := a
    have h00 : ∃ u, w.cell? (((Addr.mk b off spot).add (0 * es)).add 0) = some u := by
      rw [(hcell 0 hp).2 0 hes]
      exact ⟨_, List.getElem?_eq_getElem (by rw [(hcell 0 hp).1]; exact hes)⟩
    obtain ⟨u0, hu0⟩ := h00
    have hspot : spot = none := by simpa [Addr.add] using World.cell?_spot hu0
    subst hspot
    have hb : b < w.heap.size := by simpa [Addr.add] using cell_old hu0
    simp only [elemsOf, List.map_map]
    have hlen : ((List.range len).map (g ∘ D)).length = len := by simp
    have hL : ∀ l ∈ (List.range len).map CS, l.length = es := fun l hl => by
      obtain ⟨i, hi, rfl⟩ := List.mem_map.1 hl
      exact (hcell i (List.mem_range.1 hi)).1
    have hpw : PW (FRel (Stable (oldG w)) w) (flat ((List.range len).map (g ∘ D))) ((List.range len).map CS).flatten := by
      have := PW.flatMap (R := FRel (Stable (oldG w)) w) (f := AV.cells) (g := fun l : List Value => l) (xs := (List.range len).map (g ∘ D)) (ys := (List.range len).map CS) ⟨by simp, fun j x y hx hy => by
        have hjl : j < len := by have := (List.getElem?_eq_some_iff.1 hx).1; simpa using this
        simp only [List.getElem?_map, List.getElem?_range hjl, Option.map_some, Option.some.injEq] at hx hy
        subst hx; subst hy
        exact (hrd j hjl).1⟩
      have e : ((List.range len).map CS).flatMap (fun l => l) = ((List.range len).map CS).flatten := by rw [List.flatMap_def]; congr 1; exact List.map_id' _
      rw [e] at this
      exact this
    have := FRel.sl (S := Stable (oldG w)) (w := w) 0 es ((List.range len).map (g ∘ D)) b off cap ((List.range len).map CS).flatten (by omega) (oldG_lt hb) (by simp) (by rw [hlen]; exact hl)
      (fun x hx => by
        obtain ⟨i, hi, rfl⟩ := List.mem_map.1 hx
        have hi := List.mem_range.1 hi
        rw [← (hcell i hi).1]; exact (hrd i hi).1.1)
      hpw.1
      (fun u hu => by
        obtain ⟨l, hl, hul⟩ := List.mem_flatten.1 hu
        obtain ⟨i, hi, rfl⟩ := List.mem_map.1 hl
        exact (hrd i (List.mem_range.1 hi)).2 u hul)
      (fun j u hj => by
        obtain ⟨i, o, l, rfl, h1, h2⟩ := flatten_at hL hj
        have hil : i < len := by have := (List.getElem?_eq_some_iff.1 h1).1; simpa using this
        simp only [List.getElem?_map, List.getElem?_range hil, Option.map_some, Option.some.injEq] at h1
        subst h1
        have ho : o < es := by have := (List.getElem?_eq_some_iff.1 h2).1; rw [(hcell i hil).1] at this; exact this
        have := (hcell i hil).2 o ho
        rw [h2] at this
        rw [add_plain, add_plain, Nat.add_assoc] at this
        exact this)
      (fun j x u hx hu => hpw.2 j x u hx hu)
    rw [hlen] at this
    exact this

theorem int_reads {e : TypeId} {fuel : Nat} {cs : List Value} {d : DataW H} {ps : List MemPlace} (he : P.underlying e = some (.int .i64)) (h : DataW.trod enc P w base spare held fuel e cs = some (d, ps)) :
    ∃ v, cs = [v] ∧ Reads w [.sc (.int .i64 (numI d))] [v] := by
  obtain ⟨x, e0, e1, wx⟩ := DataW.trod_int he h
  subst e0
  exact ⟨_, rfl, .of (stands_i64 he fuel _ d ps h).1 rfl⟩
theorem bool_reads {e : TypeId} {fuel : Nat} {cs : List Value} {d : DataW H} {ps : List MemPlace} (he : P.underlying e = some .bool) (h : DataW.trod enc P w base spare held fuel e cs = some (d, ps)) :
    ∃ v b, cs = [v] ∧ d = .lit (.bool b) ∧ Reads w [.sc (.bool b)] [v] := by
  obtain ⟨x, e0, e1⟩ := DataW.trod_bool he h
  subst e0
  simp only [Prod.mk.injEq] at e1
  obtain ⟨rfl, _⟩ := e1
  exact ⟨_, x, rfl, rfl, .of (.sc _) rfl⟩
/-- a struct of two fields of one cell each -/
theorem struct2_reads {e : TypeId} {f0 f1 : Field} {fuel : Nat} {cs : List Value} {d : DataW H} {ps : List MemPlace} (he : P.underlying e = some (.struct #[f0, f1])) (ce : P.cellsOf e = 2)
    (o0 : f0.offset = 0) (o1 : f1.offset = 1) (c0 : P.cellsOf f0.type = 1) (c1 : P.cellsOf f1.type = 1) (h : DataW.trod enc P w base spare held fuel e cs = some (d, ps)) :
    ∃ v0 v1 d0 d1 n p0 p1, cs = [v0, v1] ∧ d = .agg [d0, d1] ∧ DataW.trod enc P w base spare held n f0.type [v0] = some (d0, p0) ∧ DataW.trod enc P w base spare held n f1.type [v1] = some (d1, p1) := by
  obtain ⟨y0, y1, n, hxy, hl, g0, g1⟩ := trod_struct2 he h
  rw [ce] at hl
  match cs, hl with
  | [v0, v1], _ =>
    simp [o0, o1, c0, c1] at g0 g1
    simp only [Prod.mk.injEq] at hxy
    exact ⟨v0, v1, y0.1, y1.1, n, y0.2, y1.2, rfl, hxy.1, g0, g1⟩
theorem struct1_reads {e : TypeId} {f0 : Field} {fuel : Nat} {cs : List Value} {d : DataW H} {ps : List MemPlace} (he : P.underlying e = some (.struct #[f0])) (ce : P.cellsOf e = 1)
    (o0 : f0.offset = 0) (c0 : P.cellsOf f0.type = 1) (h : DataW.trod enc P w base spare held fuel e cs = some (d, ps)) :
    ∃ v0 d0 n p0, cs = [v0] ∧ d = .agg [d0] ∧ DataW.trod enc P w base spare held n f0.type [v0] = some (d0, p0) := by
  obtain ⟨y0, n, hxy, hl, g0⟩ := trod_struct1 he h
  rw [ce] at hl
  match cs, hl with
  | [v0], _ =>
    simp [o0, c0] at g0
    simp only [Prod.mk.injEq] at hxy
    exact ⟨v0, y0.1, n, y0.2, rfl, hxy.1, g0⟩
/-- an argument that is a struct -/
theorem agg_arg {t : TypeId} {fs : Array Field} {v : Value} {xs : List AV} {r : Reach} {b0 : Nat} (ht : P.underlying t = some (.struct fs)) (hv : Value.okWide P w r b0 t v) (h : Reads w xs v.cells.toList) : VRel (oldG w) w (.ag xs) v := by
  obtain ⟨cs, rfl, _⟩ := okWide_struct ht hv
  have h : Reads w xs cs.toList := h
  exact .froz (.ag xs cs h.1.1 h.2 h.1.2)

theorem elems_size {d x : DataW H} (h : x ∈ elemsOf d) : SizeOf.sizeOf x < SizeOf.sizeOf d := by
  cases d <;> simp only [elemsOf, List.not_mem_nil] at h
  have := List.sizeOf_lt_of_mem h
  rw [DataW.slice.sizeOf_spec]; omega
/-! ### how long slices are -/
theorem weights_slice {t e : TypeId} {d : DataW H} (ht : P.underlying t = some (.slice e)) (h : ∀ n ∈ d.weights P t, n ≤ reachBytes) : (elemsOf d).length * P.bytesOf e ≤ reachBytes ∧ ∀ x ∈ elemsOf d, ∀ n ∈ x.weights P e, n ≤ reachBytes := by
  have key : ∀ (l : List (DataW H)) (x : DataW H), x ∈ l → ∀ n ∈ x.weights P e, n ∈ DataW.weightsAll P e l := by
    intro l
    induction l with
    | nil => intro x hx; simp at hx
    | cons a l ih =>
      intro x hx n hn
      simp only [DataW.weightsAll, List.mem_append]
      rcases List.mem_cons.1 hx with rfl | hx
      · exact .inl hn
      · exact .inr (ih x hx n hn)
  cases d <;> simp only [elemsOf, List.length_nil, Nat.zero_mul, List.not_mem_nil] <;> try exact ⟨Nat.zero_le _, fun x hx => by cases hx⟩
  rename_i l sp
  refine ⟨?_, fun x hx n hn => ?_⟩
  · have := h ((l.length + sp.length) * P.bytesOf e) (by simp [DataW.weights, ht])
    exact Nat.le_trans (Nat.mul_le_mul_right _ (Nat.le_add_right _ _)) this
  · refine h n ?_
    simp only [DataW.weights, ht, List.mem_cons, List.mem_append]
    exact .inr (.inl (key l x hx n hn))
end
end Go.AM

/-! ## CmB0 -/
namespace Go.Proofs.YtlldkikmjeeamaaGreat
open Go.ChangeShapes Go.WideShapes Go.ChangeAt Go.RowKit Go.AM

theorem own : ownKnob Tryz.prog.godebug = none := by kernel_rfl
theorem laidOut : laidOutB Tryz.prog = true := by kernel_rfl
theorem read22 : Tryz.prog.readableRec 22 = true ∧ 22 < Tryz.prog.types.size := ⟨by kernel_rfl, of_decide_eq_true (by kernel_rfl)⟩
theorem reads22 (n : Nat) : ∀ t ∈ List.replicate n 22, Tryz.prog.readableRec t = true ∧ t < Tryz.prog.types.size := fun t ht => by rw [List.eq_of_mem_replicate ht]; exact read22

section
variable {H : Type} {enc : TypeId × Value → H} {P : Program} {w : World} {base : Nat} {spare : Nat → Bool} {held : Bool}
/-- a byte -/
def numU (d : DataW H) : Int := IntKind.u8.wrap (numI d)
theorem numU_range (d : DataW H) : 0 ≤ numU d ∧ numU d < 256 := by unfold numU; rw [IntKind.wrap_u8]; omega
theorem stands_u8 {e : TypeId} (he : P.underlying e = some (.int .u8)) : Stands enc P w base spare held e fun d => vu (numU d) := by
  intro n v d ps h
  obtain ⟨x, e0, e1, wx⟩ := DataW.trod_int he h
  simp only [List.cons.injEq, and_true] at e0
  simp only [Prod.mk.injEq] at e1
  obtain ⟨rfl, _⟩ := e1
  subst e0
  have e2 : numU (.lit (.int .u8 x) : DataW H) = x := by
    have : IntKind.u8.wrap x = x := by
      have h1 : 0 ≤ x ∧ x ≤ 255 := by simpa [Lit.wf, IntKind.min, IntKind.max, IntKind.signed, IntKind.bits] using wx
      rw [IntKind.wrap_u8]; omega
    exact this
  simp only [e2, vu]
  exact ⟨.sc _, rfl, rfl⟩
theorem row_len {α : Type} {t e : TypeId} {f : DataW H → α} {v : Value} {d : DataW H} {ps : List MemPlace} (ht : P.underlying t = some (.slice e)) (hc : P.cellsOf e = 1) (h1 : v.cells.toList = [v]) (h : DataW.Trod enc P w base spare held t v d ps) : (rowOf f d).length ≤ 9223372036854775807 := by
  obtain ⟨n, h⟩ := h
  rw [h1] at h
  rcases Go.Deep.open_slice1 ht hc h with ⟨_, h2⟩ | ⟨a, len, cap, m, n', V, D, Pl, _, _, hl, hm, _, h2, _⟩
  · simp only [Prod.mk.injEq] at h2
    obtain ⟨rfl, _⟩ := h2
    simp [rowOf]
  · simp only [Prod.mk.injEq] at h2
    obtain ⟨rfl, _⟩ := h2
    simp only [rowOf, List.length_map, List.length_range]
    unfold maxLen at hm; omega
/-- a number of 16 bits -/
def numW (d : DataW H) : Int := IntKind.u16.wrap (numI d)
theorem numW_range (d : DataW H) : 0 ≤ numW d ∧ numW d < 65536 := by unfold numW; rw [IntKind.wrap_u16]; omega
theorem stands_u16 {e : TypeId} (he : P.underlying e = some (.int .u16)) : Stands enc P w base spare held e fun d => .sc (.int .u16 (numW d)) := by
  intro n v d ps h
  obtain ⟨x, e0, e1, wx⟩ := DataW.trod_int he h
  simp only [List.cons.injEq, and_true] at e0
  simp only [Prod.mk.injEq] at e1
  obtain ⟨rfl, _⟩ := e1
  subst e0
  have e2 : numW (.lit (.int .u16 x) : DataW H) = x := by
    have : IntKind.u16.wrap x = x := by
      have h1 : 0 ≤ x ∧ x ≤ 65535 := by simpa [Lit.wf, IntKind.min, IntKind.max, IntKind.signed, IntKind.bits] using wx
      rw [IntKind.wrap_u16]; omega
    exact this
  simp only [e2]
  exact ⟨.sc _, rfl, rfl⟩
theorem rowU_range (d : DataW H) : ∀ x ∈ rowOf numU d, 0 ≤ x ∧ x < 256 := fun x hx => by
  cases d <;> simp only [rowOf, List.not_mem_nil] at hx
  obtain ⟨y, _, rfl⟩ := List.mem_map.1 hx
  exact numU_range y
end
end Go.Proofs.YtlldkikmjeeamaaGreat
