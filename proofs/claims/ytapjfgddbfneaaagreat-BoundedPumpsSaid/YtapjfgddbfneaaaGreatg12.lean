/- CnA CnB CrP LGrow LEff LFlat FA LCyc FG TC FK TD -/
import Derived.Test.YtapjfgddbfneaaaGreatg11
import Derived.Test.YtapjfgddbfneaaaGreatg7
import Derived.Test.YtapjfgddbfneaaaGreatg6
import Derived.Test.YtapjfgddbfneaaaGreatg9
namespace Go.AM
open Go Go.Proofs Go.RowKit
set_option maxRecDepth 100000
set_option maxHeartbeats 8000000
def statesL : List ByteArray := [⟨#[97]⟩, ⟨#[98]⟩]
def placesL : List ByteArray := [⟨#[120]⟩, ⟨#[121]⟩]
def ruleNames : List ByteArray := [⟨#[114]⟩, ⟨#[115]⟩, ⟨#[116]⟩]
structure DealR (ns np : Nat) (r : RD) : Prop where
 thin : ThinR r
 src : 0 <= r.src /\ r.src < ns
 dst : 0 <= r.dst /\ r.dst < ns
 need : r.need.length = np /\ ∀ x ∈ r.need, 0 <= x /\ x <= 2
 give : r.give.length = np /\ ∀ x ∈ r.give, 0 <= x /\ x <= 2
def dealM (ns np : Nat) (rules : List RD) (v0 : List Int) : MD := { kind := 1, states := statesL.take ns, places := placesL.take np, rules := rules, start := cfgC 0 v0 }
structure DealM (ns np : Nat) (rules : List RD) (v0 : List Int) : Prop where
 hns : 1 <= ns /\ ns <= 2
 hnp : 1 <= np /\ np <= 2
 len : 1 <= rules.length /\ rules.length <= 3
 names : rules.map RD.name = ruleNames.take rules.length
 rules : ∀ r ∈ rules, DealR ns np r
 start : v0.length = np /\ ∀ x ∈ v0, 0 <= x /\ x <= 3
theorem con_counter (l : List Int) (at_ : Nat) (hs : Seeds l) (ha : at_ <= l.length) :
  Con Tryz.prog 9 [.pb 0 0, vb false] [diceA l at_]
  fun r b => ∃ (ns np : Nat) (rules : List RD) (v0 : List Int) (at' : Nat), DealM ns np rules v0 /\ at' <= l.length /\ b = [diceA l at'] /\ r = .ag [vi 1, .sl 2 1 ((statesL.take ns).map vStr), .sl 3 1 ((placesL.take np).map vStr), .nil, .nil, vi 0, vi 0, .sl 4 14 (rules.map ruleN), vi 0, .sl 5 2 (((0 : Int) :: v0).map kidN)] := by
 refine Con.intro Tryz.func9 rfl Tryz.ntmps9 Tryz.results9 (by kernel_rfl) (by simp) 1 (by simp) ?_
 have hp1 := pickA_le ha
 simp only [go_sem]
 refine DrawK.news0 [(11, 2)] [10] [(10, 14), (10, 20), (15, 19), (15, 20)] 0 [2, 7] [] 12 (.one 12 .done) none (diceA l at_) mixed (by kernel_rfl) (by kernel_rfl) (by kernel_rfl) (by simp only [go_sem]) (by simp only [go_sem]) ⟨by simp only [go_sem], by simp only [go_sem]⟩ ⟨by simp only [go_sem], by simp only [go_sem]⟩ ?_
 simp only [go_sem]
 refine EffK.mk (con_pickF l at_ 2 hs ha (by omega)) (by simp only [go_sem]) (by simp only [go_sem]) (by simp only [go_sem]) (by simp only [go_sem]) ?_
 obtain ⟨ns, ens, hns1, hns2⟩ : ∃ ns : Nat, 1 + pickV l at_ 2 = ns /\ 1 <= ns /\ ns <= 2 := by
  have := pickV_lt (l := l) (at_ := at_) (show (1 : Int) <= 2 by omega)
  exact ⟨(1 + pickV l at_ 2).toNat, by omega, by omega, by omega⟩
 obtain ⟨np, enp, hnp1, hnp2⟩ : ∃ np : Nat, 1 + pickV l (pickA l at_) 2 = np /\ 1 <= np /\ np <= 2 := by
  have := pickV_lt (l := l) (at_ := pickA l at_) (show (1 : Int) <= 2 by omega)
  exact ⟨(1 + pickV l (pickA l at_) 2).toNat, by omega, by omega, by omega⟩
 have hw1 : IntKind.i64.wrap (1 + pickV l at_ 2) = ns := by rw [wrap_in (by omega) (by omega), ens]
 have hw2 : IntKind.i64.wrap (1 + pickV l (pickA l at_) 2) = np := by rw [wrap_in (by omega) (by omega), enp]
 simp only [go_sem, hw1, hns2]
 refine EffK.mk (con_pickF l (pickA l at_) 2 hs hp1 (by omega)) (by simp only [go_sem]) (by simp only [go_sem]) (by simp only [go_sem]) (by simp only [go_sem]) ?_
 have hp2 := pickA_le hp1
 have hrep : List.replicate 10 AV.any = [.any, .any, .any, .any, .any, .any, .any, .any, .any, .any] := rfl
 have est : List.take ns [AV.sc (Value.string { data := #[97] }), AV.sc (Value.string { data := #[98] })] = (statesL.take ns).map vStr := by rw [List.map_take]; rfl
 have epl : List.take np [AV.sc (Value.string { data := #[120] }), AV.sc (Value.string { data := #[121] })] = (placesL.take np).map vStr := by rw [List.map_take]; rfl
 have lst : (statesL.take ns).length = ns := by rw [List.length_take]; simp only [statesL, List.length_cons, List.length_nil]; omega
 have lpl : (placesL.take np).length = np := by rw [List.length_take]; simp only [placesL, List.length_cons, List.length_nil]; omega
 simp only [go_sem, hw2, hnp2, hrep, est, epl, lpl]
 refine ⟨?_, trivial⟩
 refine LoopK.intro (fun p : List RD × Nat => ⟨85, [(0, .pb 0 0), (1, vb false), (4, .pb 1 0), (5, .pb 2 0), (6, vi np), (7, vi p.1.length)], [diceA l p.2, [.any, .any, .any, .any, .any, .any, .any, .any, .any, .any], [vi 1, .sl 704 1 ((statesL.take ns).map vStr), .sl 1024 1 ((placesL.take np).map vStr), .nil, .nil, vi 0, vi 0, .sl 4992 14 (p.1.map ruleN), vi 0, .nil]] ++ Rk 14 p.1.length⟩)
  (fun p => 3 - p.1.length) (fun p => p.1.length <= 3 /\ p.1.map RD.name = ruleNames.take p.1.length /\ (∀ r ∈ p.1, DealR ns np r) /\ p.2 <= l.length) ([], pickA l (pickA l at_)) ⟨by simp, rfl, by simp, hp2⟩ ?_ ?_
 ·simp only [go_sem, List.length_nil, Rk, List.replicate_zero, List.append_nil, List.map_nil]
 rintro ⟨rules, at1⟩ ⟨h1, h2, h3, h4⟩
 simp only at h1 h2 h3 h4
 have hpk := pickV_lt (l := l) (at_ := at1) (show (1 : Int) <= 3 by omega)
 obtain ⟨k, ek, hk1, hk2⟩ : ∃ k : Nat, 1 + pickV l at1 3 = k /\ 1 <= k /\ k <= 3 := ⟨(1 + pickV l at1 3).toNat, by omega, by omega, by omega⟩
 have hw3 : IntKind.i64.wrap (1 + pickV l at1 3) = k := by rw [wrap_in (by omega) (by omega), ek]
 simp only [go_sem, List.cons_append, List.nil_append]
 refine CallU.boxes (i := 0) (is := []) (bx0 := [diceA l at1]) (con_pickF l at1 3 hs h4 (by omega)) (by simp only [go_sem]) (by simp only [go_sem]) (by simp only [go_sem]) (by simp only [go_sem]) (by simp only [go_sem]) ?_
 rintro r b ⟨rfl, rfl⟩
 have h5 := pickA_le h4
 generalize pickA l at1 = at2 at h5
 by_cases h : rules.length < k
 ·simp only [go_sem, hw3, h]
  obtain ⟨i, hi⟩ : ∃ i, i = rules.length := ⟨_, rfl⟩
  rw [<- hi]
  have : i = 0 \/ i = 1 \/ i = 2 := by omega
  have hp3 := pickA_le h5
  have hp4 := pickA_le hp3
  have hp5 := rollA_le hp4 np
  have hs1 := rollS_lt (l := l) (at_ := at2) hns1
  have hs2 := rollS_lt (l := l) (at_ := pickA l at2) hns1
  have e1 := con_intsF l (pickA l (pickA l at2)) np 2 hs hp4 (by omega) (by omega)
  have e2 := con_intsF l (rollA l (pickA l (pickA l at2)) np) np 2 hs hp5 (by omega) (by omega)
  have hrep : List.replicate 14 AV.any = [.any, .any, .any, .any, .any, .any, .any, .any, .any, .any, .any, .any, .any, .any] := rfl
  rcases this with rfl | rfl | rfl
  ·have hr : DealR ns np (bareR ruleNames[0]! (rollS l at2 ns) (rollS l (pickA l at2) ns) (rollV l (pickA l (pickA l at2)) 2 np) (rollV l (rollA l (pickA l (pickA l at2)) np) 2 np) []) :=
    ⟨rfl, ⟨by show (0 : Int) <= (rollS l at2 ns : Int); omega, by show (rollS l at2 ns : Int) < ns; omega⟩, ⟨by show (0 : Int) <= (rollS l (pickA l at2) ns : Int); omega, by show (rollS l (pickA l at2) ns : Int) < ns; omega⟩, ⟨rollV_len np, rollV_low (by omega) np⟩, ⟨rollV_len np, rollV_low (by omega) np⟩⟩
   have hln : (rules ++ [bareR ruleNames[0]! (rollS l at2 ns) (rollS l (pickA l at2) ns) (rollV l (pickA l (pickA l at2)) 2 np) (rollV l (rollA l (pickA l (pickA l at2)) np) 2 np) []]).length = 1 := by rw [List.length_append, <- hi]; rfl
   have hnm : ruleNames[0]! = ⟨#[114]⟩ := rfl
   simp only [Rk, List.replicate]
   refine DrawK.news0 [(21, 3)] [14] [(31, 33)] 0 [8, 13, 16, 19] [] 22 (.one 22 .done) none (diceA l at2) mixed (by kernel_rfl) (by kernel_rfl) (by kernel_rfl) (by simp only [go_sem]) (by simp only [go_sem]) ⟨by simp only [go_sem], by simp only [go_sem]⟩ ⟨by simp only [go_sem], by simp only [go_sem]⟩ ?_
   simp only [go_sem, List.length_map, lst]
   refine EffK.mk (con_pickF l at2 ns hs h5 (by omega)) (by simp only [go_sem]) (by simp only [go_sem]) (by simp only [go_sem]) (by simp only [go_sem]) ?_
   simp only [go_sem, List.length_map, lst, hs1.2]
   refine EffK.mk (con_pickF l (pickA l at2) ns hs hp3 (by omega)) (by simp only [go_sem]) (by simp only [go_sem]) (by simp only [go_sem]) (by simp only [go_sem]) ?_
   simp only [go_sem, hs2.2]
   refine EffK.mk e1 (by simp only [go_sem]) (by simp only [go_sem]) (by simp only [go_sem]) (by simp only [go_sem]) ?_
   simp only [go_sem]
   refine EffK.mk e2 (by simp only [go_sem]) (by simp only [go_sem]) (by simp only [go_sem]) (by simp only [go_sem]) ?_
   simp only [go_sem, hrep, <- hi]
   refine ⟨⟨by unfold roomFor; omega, ?_⟩, trivial⟩
   refine roundK.intro (rules ++ [bareR ruleNames[0]! (rollS l at2 ns) (rollS l (pickA l at2) ns) (rollV l (pickA l (pickA l at2)) 2 np) (rollV l (rollA l (pickA l (pickA l at2)) np) 2 np) []], rollA l (rollA l (pickA l (pickA l at2)) np) np) ⟨by rw [hln]; omega, ?_, fun x hx => ?_, rollA_le hp5 np⟩ (by show 3 - (rules ++ [_]).length < 3 - rules.length; rw [hln]; omega) ?_
   ·rw [hln, List.map_append, h2, <- hi]; rfl
   ·rcases List.mem_append.1 hx with hx | hx
    ·exact h3 x hx
    ·rw [List.mem_singleton] at hx; subst hx; exact hr
   ·simp only [go_sem, hln, List.replicate, List.map_append, List.map_cons, List.map_nil]
    exact ⟨leV_int rfl, by rw [hnm]; exact leV_refl _⟩
  ·have hr : DealR ns np (bareR ruleNames[1]! (rollS l at2 ns) (rollS l (pickA l at2) ns) (rollV l (pickA l (pickA l at2)) 2 np) (rollV l (rollA l (pickA l (pickA l at2)) np) 2 np) []) :=
    ⟨rfl, ⟨by show (0 : Int) <= (rollS l at2 ns : Int); omega, by show (rollS l at2 ns : Int) < ns; omega⟩, ⟨by show (0 : Int) <= (rollS l (pickA l at2) ns : Int); omega, by show (rollS l (pickA l at2) ns : Int) < ns; omega⟩, ⟨rollV_len np, rollV_low (by omega) np⟩, ⟨rollV_len np, rollV_low (by omega) np⟩⟩
   have hln : (rules ++ [bareR ruleNames[1]! (rollS l at2 ns) (rollS l (pickA l at2) ns) (rollV l (pickA l (pickA l at2)) 2 np) (rollV l (rollA l (pickA l (pickA l at2)) np) 2 np) []]).length = 2 := by rw [List.length_append, <- hi]; rfl
   have hnm : ruleNames[1]! = ⟨#[115]⟩ := rfl
   simp only [Rk, List.replicate]
   refine DrawK.news0 [(21, 4)] [14] [(31, 33)] 0 [8, 13, 16, 19] [] 22 (.one 22 .done) none (diceA l at2) mixed (by kernel_rfl) (by kernel_rfl) (by kernel_rfl) (by simp only [go_sem]) (by simp only [go_sem]) ⟨by simp only [go_sem], by simp only [go_sem]⟩ ⟨by simp only [go_sem], by simp only [go_sem]⟩ ?_
   simp only [go_sem, List.length_map, lst]
   refine EffK.mk (con_pickF l at2 ns hs h5 (by omega)) (by simp only [go_sem]) (by simp only [go_sem]) (by simp only [go_sem]) (by simp only [go_sem]) ?_
   simp only [go_sem, List.length_map, lst, hs1.2]
   refine EffK.mk (con_pickF l (pickA l at2) ns hs hp3 (by omega)) (by simp only [go_sem]) (by simp only [go_sem]) (by simp only [go_sem]) (by simp only [go_sem]) ?_
   simp only [go_sem, hs2.2]
   refine EffK.mk e1 (by simp only [go_sem]) (by simp only [go_sem]) (by simp only [go_sem]) (by simp only [go_sem]) ?_
   simp only [go_sem]
   refine EffK.mk e2 (by simp only [go_sem]) (by simp only [go_sem]) (by simp only [go_sem]) (by simp only [go_sem]) ?_
   simp only [go_sem, hrep, <- hi]
   refine ⟨⟨by unfold roomFor; omega, ?_⟩, trivial⟩
   refine roundK.intro (rules ++ [bareR ruleNames[1]! (rollS l at2 ns) (rollS l (pickA l at2) ns) (rollV l (pickA l (pickA l at2)) 2 np) (rollV l (rollA l (pickA l (pickA l at2)) np) 2 np) []], rollA l (rollA l (pickA l (pickA l at2)) np) np) ⟨by rw [hln]; omega, ?_, fun x hx => ?_, rollA_le hp5 np⟩ (by show 3 - (rules ++ [_]).length < 3 - rules.length; rw [hln]; omega) ?_
   ·rw [hln, List.map_append, h2, <- hi]; rfl
   ·rcases List.mem_append.1 hx with hx | hx
    ·exact h3 x hx
    ·rw [List.mem_singleton] at hx; subst hx; exact hr
   ·simp only [go_sem, hln, List.replicate, List.map_append, List.map_cons, List.map_nil]
    exact ⟨leV_int rfl, by rw [hnm]; exact leV_refl _⟩
  ·have hr : DealR ns np (bareR ruleNames[2]! (rollS l at2 ns) (rollS l (pickA l at2) ns) (rollV l (pickA l (pickA l at2)) 2 np) (rollV l (rollA l (pickA l (pickA l at2)) np) 2 np) []) :=
    ⟨rfl, ⟨by show (0 : Int) <= (rollS l at2 ns : Int); omega, by show (rollS l at2 ns : Int) < ns; omega⟩, ⟨by show (0 : Int) <= (rollS l (pickA l at2) ns : Int); omega, by show (rollS l (pickA l at2) ns : Int) < ns; omega⟩, ⟨rollV_len np, rollV_low (by omega) np⟩, ⟨rollV_len np, rollV_low (by omega) np⟩⟩
   have hln : (rules ++ [bareR ruleNames[2]! (rollS l at2 ns) (rollS l (pickA l at2) ns) (rollV l (pickA l (pickA l at2)) 2 np) (rollV l (rollA l (pickA l (pickA l at2)) np) 2 np) []]).length = 3 := by rw [List.length_append, <- hi]; rfl
   have hnm : ruleNames[2]! = ⟨#[116]⟩ := rfl
   simp only [Rk, List.replicate]
   refine DrawK.news0 [(21, 5)] [14] [(31, 33)] 0 [8, 13, 16, 19] [] 22 (.one 22 .done) none (diceA l at2) mixed (by kernel_rfl) (by kernel_rfl) (by kernel_rfl) (by simp only [go_sem]) (by simp only [go_sem]) ⟨by simp only [go_sem], by simp only [go_sem]⟩ ⟨by simp only [go_sem], by simp only [go_sem]⟩ ?_
   simp only [go_sem, List.length_map, lst]
   refine EffK.mk (con_pickF l at2 ns hs h5 (by omega)) (by simp only [go_sem]) (by simp only [go_sem]) (by simp only [go_sem]) (by simp only [go_sem]) ?_
   simp only [go_sem, List.length_map, lst, hs1.2]
   refine EffK.mk (con_pickF l (pickA l at2) ns hs hp3 (by omega)) (by simp only [go_sem]) (by simp only [go_sem]) (by simp only [go_sem]) (by simp only [go_sem]) ?_
   simp only [go_sem, hs2.2]
   refine EffK.mk e1 (by simp only [go_sem]) (by simp only [go_sem]) (by simp only [go_sem]) (by simp only [go_sem]) ?_
   simp only [go_sem]
   refine EffK.mk e2 (by simp only [go_sem]) (by simp only [go_sem]) (by simp only [go_sem]) (by simp only [go_sem]) ?_
   simp only [go_sem, hrep, <- hi]
   refine ⟨⟨by unfold roomFor; omega, ?_⟩, trivial⟩
   refine roundK.intro (rules ++ [bareR ruleNames[2]! (rollS l at2 ns) (rollS l (pickA l at2) ns) (rollV l (pickA l (pickA l at2)) 2 np) (rollV l (rollA l (pickA l (pickA l at2)) np) 2 np) []], rollA l (rollA l (pickA l (pickA l at2)) np) np) ⟨by rw [hln]; omega, ?_, fun x hx => ?_, rollA_le hp5 np⟩ (by show 3 - (rules ++ [_]).length < 3 - rules.length; rw [hln]; omega) ?_
   ·rw [hln, List.map_append, h2, <- hi]; rfl
   ·rcases List.mem_append.1 hx with hx | hx
    ·exact h3 x hx
    ·rw [List.mem_singleton] at hx; subst hx; exact hr
   ·simp only [go_sem, hln, List.replicate, List.map_append, List.map_cons, List.map_nil]
    exact ⟨leV_int rfl, by rw [hnm]; exact leV_refl _⟩
 ·simp only [go_sem, hw3, h]
  refine CallU.boxes (i := 0) (is := []) (bx0 := [diceA l at2]) (con_intsF l at2 np 3 hs h5 (by omega) (by omega)) (by simp only [go_sem]) (by simp only [go_sem]) (by simp only [go_sem]) (by simp only [go_sem]) (by simp only [go_sem]) ?_
  rintro r b ⟨rfl, rfl⟩
  simp only [go_sem]
  have hcf : Con Tryz.prog 25 [vi 0, vs 0 (rollV l at2 3 np)] [] fun r _ => r = cfgN 2 0 (rollV l at2 3 np) := con_config28 0 (rollV l at2 3 np) (by rw [rollV_len]; omega)
  refine CallU.free hcf (by simp only [go_sem]) (by simp only [go_sem]) ?_
  rintro r b rfl
  simp only [go_sem]
  have hge : 1 <= rules.length := by omega
  exact ⟨ns, np, rules, rollV l at2 3 np, rollA l at2 np, ⟨⟨hns1, hns2⟩, ⟨hnp1, hnp2⟩, ⟨hge, h1⟩, h2, h3, ⟨rollV_len np, rollV_low (by omega) np⟩⟩, rollA_le h5 np, rfl, rfl⟩
theorem deal_names {ns np k : Nat} (h1 : 1 <= ns /\ ns <= 2) (h2 : 1 <= np /\ np <= 2) (h3 : 1 <= k /\ k <= 3) : namesB (statesL.take ns ++ placesL.take np ++ [] ++ ruleNames.take k) = true := by
 obtain rfl | rfl : ns = 1 \/ ns = 2 := by omega
 all_goals obtain rfl | rfl : np = 1 \/ np = 2 := by omega
 all_goals obtain rfl | rfl | rfl : k = 1 \/ k = 2 \/ k = 3 := by omega
 all_goals decide +kernel
theorem states_len {ns : Nat} (h : ns <= 2) : (statesL.take ns).length = ns := by rw [List.length_take]; simp only [statesL, List.length_cons, List.length_nil]; omega
theorem places_len {np : Nat} (h : np <= 2) : (placesL.take np).length = np := by rw [List.length_take]; simp only [placesL, List.length_cons, List.length_nil]; omega
theorem deal_rule {ns np : Nat} {r : RD} (h : DealR ns np r) : ruleB ns np r = true /\ bareB r = true /\ stillB r = true := by
 have h0 := h.thin
 unfold ThinR at h0
 have hmv : r.move = [] := by rw [h0]
 refine ⟨?_, by rw [h0]; rfl, by rw [h0]; rfl⟩
 unfold ruleB changesB movesB smallB indexB betweenB
 rw [hmv]
 simp only [Bool.and_eq_true, decide_eq_true_eq, List.all_eq_true, Bool.or_eq_true]
 have hs := h.src; have hd := h.dst
 refine ⟨⟨⟨⟨hd.1, hd.2⟩, ⟨hs.1, hs.2⟩⟩, ⟨⟨⟨h.need.1, h.give.1⟩, fun x hx => ?_⟩, fun x hx => ?_⟩⟩, .inl rfl⟩
 ·have := h.need.2 x hx; omega
 ·have := h.give.2 x hx; omega
theorem deal_conf {ns np : Nat} {rules : List RD} {v0 : List Int} (h : DealM ns np rules v0) {s : Nat} {v : List Int} (hs : s < ns) (hl : v.length = np) (hv : ∀ x ∈ v, 0 <= x /\ x <= 1048576) : GoodC (dealM ns np rules v0) s v :=
 ⟨by show s < (statesL.take ns).length; rw [states_len h.hns.2]; exact hs, by show v.length = (placesL.take np).length; rw [places_len h.hnp.2]; exact hl, hv⟩
theorem deal_plain {ns np : Nat} {rules : List RD} {v0 : List Int} (h : DealM ns np rules v0) : PlainM (dealM ns np rules v0) 0 v0 := by
 have l1 : (dealM ns np rules v0).states.length = ns := states_len h.hns.2
 have l2 : (dealM ns np rules v0).places.length = np := places_len h.hnp.2
 have h1 := h.hns; have h2 := h.hnp; have h3 := h.len
 have hc : GoodC (dealM ns np rules v0) 0 v0 := deal_conf h (by omega) h.start.1 fun x hx => by have := h.start.2 x hx; omega
 refine ⟨⟨rfl, by rw [l1]; omega, by rw [l2]; omega, by show rules.length <= 12; omega, rfl, rfl, rfl, rfl, ?_, fun r hr => ?_, ?_⟩, ?_, rfl, hc⟩
 ·show namesB (statesL.take ns ++ placesL.take np ++ [] ++ rules.map RD.name) = true
  rw [h.names]; exact deal_names h1 h2 h3
 ·rw [l1, l2]
  have := deal_rule (h.rules r hr)
  exact ⟨this.1, this.2.1⟩
 ·exact hc.conf
 ·show rules.all stillB = true
  rw [List.all_eq_true]
  exact fun r hr => (deal_rule (h.rules r hr)).2.2
theorem deal_thin {ns np : Nat} {rules : List RD} {v0 : List Int} (h : DealM ns np rules v0) : ∀ r ∈ (dealM ns np rules v0).rules, ThinR r := fun r hr => (h.rules r hr).thin
theorem con_Counter (l : List Int) (at_ : Nat) (hs : Seeds l) (ha : at_ <= l.length) :
  Con Tryz.prog 9 [.pb 0 0, vb false] [diceA l at_]
  fun r b => ∃ (ns np : Nat) (rules : List RD) (v0 : List Int) (at' : Nat), DealM ns np rules v0 /\ at' <= l.length /\ b = [diceA l at'] /\ r = vM (dealM ns np rules v0) :=
 ((con_counter l at_ hs ha).freezeB fun _ => true).weak fun r b ⟨r1, b1, ⟨ns, np, rules, v0, at1, hd, h1, h2, h3⟩, h4, h5⟩ => by
  subst h2; subst h3; subst h4; subst h5
  exact ⟨_, ⟨ns, np, rules, v0, at1, hd, h1, rfl, rfl⟩, model_le (m := dealM ns np rules v0) (deal_plain hd).good (deal_thin hd) rfl⟩
def vStep (x : StD) : AV := .ag [vi x.rule, vi 0, .sl 0 2 ((cfgC x.state x.v).kids.map vV)]
attribute [go_sem] vStep
end Go.AM
namespace Go.AM
def coverB (L : List SV) (s : Int) (v : List Int) : Bool := L.any fun y => y.1 == s && leqV v y.2
def closedB (rules : List RD) (L : List SV) : Bool := L.all fun x => rules.all fun r => !fitsB r x.1 x.2 || L.any fun y => y.1 == r.dst && atB (fireO r x.2) y.2
def holdsL (rules : List RD) (L : List SV) (s0 : Int) (v0 : List Int) : Int := if coverB L s0 v0 then if closedB rules L then 0 else 41 else 42
def boundB (L : List SV) (k : Int) : Bool := L.all fun y => decide (0 <= k) && decide (k < y.2.length) && (y.2[k.toNat]! != Om)
def mostF (L : List SV) (k : Nat) : Int := L.foldl (fun a y => max a y.2[k]!) 0
def hasOm (L : List SV) : Bool := L.any fun y => y.2.contains Om
end Go.AM
namespace Go.AM
open Go Go.Proofs Go.RowKit
def SmallR (np : Nat) (r : RD) : Prop := r.need.length = np /\ r.give.length = np /\ (∀ x ∈ r.need, 0 <= x /\ x <= 16) /\ ∀ x ∈ r.give, 0 <= x /\ x <= 16
theorem good_small {m : MD} (h : GoodM m) : ∀ r ∈ m.rules, SmallR m.places.length r := fun r hr => by
 have h3 := (h.rules r hr).1
 unfold ruleB changesB smallB betweenB at h3
 simp only [Bool.and_eq_true, decide_eq_true_eq, List.all_eq_true] at h3
 exact ⟨h3.1.2.1.1.1, h3.1.2.1.1.2, h3.1.2.1.2, h3.1.2.2⟩
end Go.AM
namespace Go.AM
end Go.AM
namespace Go.AM
open Go Go.Proofs Go.RowKit
set_option maxRecDepth 100000
theorem con_rcopy (l : List Int) (h2 : l.length <= 1000000) : Con Tryz.prog 31 [vs 0 l] [] fun r _ => r = vs 2 l := by
 refine Con.intro Tryz.func31 rfl Tryz.ntmps31 Tryz.results31 (by kernel_rfl) (by simp) 0 (by simp) ?_
 have hr : roomFor l.length 8 := by simp only [roomFor]; omega
 simp only [go_sem, List.length_map, hr]
set_option maxHeartbeats 8000000
def cR (r : RD) : List AV := [vStr r.name, vi r.src, vi r.dst, vs 0 r.need, vs 0 r.give, vs 0 r.move, vi r.channel, vi r.act, vi r.letter, vs 0 r.path, vs 0 r.next, .sl 0 3 (r.takes.map vTake), vs 0 r.makes, vi r.second]
attribute [go_sem] cR
structure SlimR (np : Nat) (r : RD) : Prop where
 need : r.need.length = np
 give : r.give.length = np
 low : ∀ i : Nat, i < np -> 0 <= r.need[i]! /\ r.need[i]! <= 16 /\ 0 <= r.give[i]! /\ r.give[i]! <= 16
theorem okV.small {np : Nat} {v : List Int} (h : okV np v) {i : Nat} (hi : i < np) : 0 <= v[i]! /\ v[i]! <= 1099511627776 := by
 have h1 := h.at hi
 exact ⟨h1.nonneg, h1.le⟩
theorem can_stop {r : RD} {v : List Int} {i : Nat} (hi : i < v.length) (h : v[i]! < r.need[i]!) : canV r v = false := by
 cases e : canV r v
 ·rfl
 ·have := canV_iff.1 e i hi
  omega
theorem fire_take {r : RD} {v : List Int} {i : Nat} (h : i < v.length) : (fireO r v).take (i + 1) = (fireO r v).take i ++ [if v[i]! = Om then Om else v[i]! + (r.give[i]! - r.need[i]!)] := by
 have hl : i < (fireO r v).length := by rw [fireO_len]; exact h
 rw [List.take_add_one, List.getElem?_eq_getElem hl, <- fireO_at h, getElem!_pos (fireO r v) i hl]; rfl
def overN (r : RD) (v : List Int) (n : Nat) : Bool := (List.range n).any fun i => decide (v[i]! ≠ Om) && decide (1048576 < v[i]! + (r.give[i]! - r.need[i]!))
theorem overN_succ {r : RD} {v : List Int} {n : Nat} : overN r v (n + 1) = (overN r v n || (decide (v[n]! ≠ Om) && decide (1048576 < v[n]! + (r.give[n]! - r.need[n]!)))) := by
 unfold overN
 rw [List.range_succ, List.any_append, List.any_cons, List.any_nil, Bool.or_false]
theorem overN_all {r : RD} {v : List Int} : overN r v v.length = overO r v := rfl
def fireR (r : RD) (v : List Int) (t : Nat) : AV := if canV r v then .tup [vs t (fireO r v), vb true, vb (overO r v)] else .tup [.nil, vb false, vb false]
theorem con_rfire (r : RD) (v : List Int) (np : Nat) (hr : SlimR np r) (hv : okV np v) (h6 : np <= 6) : Con Tryz.prog 77 [vRule r, vs 0 v] [] fun x _ => x = fireR r v 2 := by
 refine Con.intro Tryz.func77 rfl Tryz.ntmps77 Tryz.results77 (by kernel_rfl) (by simp) 0 (by simp) ?_
 have h1 := hv.1
 have h2 := hr.need
 have h3 := hr.give
 have a1 : ((r.need.length : Int) != (v.length : Int)) = false := by rw [h2, h1]; simp
 have a2 : ((r.give.length : Int) != (v.length : Int)) = false := by rw [h3, h1]; simp
 unfold fireR
 simp only [go_sem, a1, a2]
 refine LoopK.intro (fun i : Nat => ⟨76, [(1, vs 0 v), (2, .pb 0 0), (4, .nil), (6, vb false), (7, vi i)], [cR r]⟩) (fun i => v.length - i) (fun i => i <= v.length /\ ∀ j, j < i -> r.need[j]! <= v[j]!) 0 ⟨by omega, fun j hj => by omega⟩ ?_ ?_
 ·simp only [go_sem]
  all_goals exact leB_self _
 rintro i ⟨hi, hb⟩
 by_cases h : i < v.length
 ·have hn : i < r.need.length := by omega
  have hg := getv h
  have hg' := getv hn
  have hw : IntKind.i64.wrap (i + 1) = i + 1 := wrap_in (by omega) (by omega)
  simp only [go_sem, h]
  refine DrawK.walk 9 mixed (by kernel_rfl) ?_
  simp only [go_sem, h, hn, hg, hg']
  by_cases hlt : v[i]! < r.need[i]!
  ·simp only [go_sem, hlt, can_stop h hlt]
  ·simp only [go_sem, hlt, hw]
   refine roundK.intro (i + 1) ⟨by omega, fun j hj => ?_⟩ (by omega) ?_
   ·by_cases hji : j = i
    ·subst hji; omega
    ·exact hb j (by omega)
   ·simp only [go_sem]
 have hcan : canV r v = true := canV_iff.2 fun j hj => hb j (by omega)
 simp only [go_sem, h, hcan]
 refine LoopK.intro (fun i : Nat => ⟨76, [(1, vs 0 v), (2, .pb 0 0), (4, .sl 320 1 (((fireO r v).take i).map vi)), (6, vb (overN r v i)), (8, vi i)], [cR r]⟩) (fun i => v.length - i) (fun i => i <= v.length) 0 (by omega) ?_ ?_
 ·simp only [go_sem, List.take_zero, List.map_nil, overN, List.range_zero, List.any_nil]
  all_goals exact leB_self _
 rintro i hi
 by_cases h : i < v.length
 case neg =>
  obtain rfl : i = v.length := by omega
  have e : (fireO r v).take v.length = fireO r v := List.take_of_length_le (by rw [fireO_len]; exact Nat.le_refl _)
  simp only [go_sem, h, e, overN_all]
 have hn : i < r.need.length := by omega
 have hgl : i < r.give.length := by omega
 have hg := getv h
 have hg' := getv hn
 have hg2 := getv hgl
 have hs := hv.small (i := i) (by omega)
 have hl := hr.low i (by omega)
 have hw : IntKind.i64.wrap (i + 1) = i + 1 := wrap_in (by omega) (by omega)
 have hw2 : IntKind.i64.wrap (r.give[i]! - r.need[i]!) = r.give[i]! - r.need[i]! := wrap_in (by omega) (by omega)
 have hw3 : IntKind.i64.wrap (v[i]! + (r.give[i]! - r.need[i]!)) = v[i]! + (r.give[i]! - r.need[i]!) := wrap_in (by omega) (by omega)
 have hro : roomFor (((fireO r v).take i).length + 1) 8 := by simp only [roomFor, List.length_take, fireO_len]; omega
 have e1 := fire_take (r := r) h
 have e2 := overN_succ (r := r) (v := v) (n := i)
 by_cases ho : v[i]! = 1099511627776
 ·have ho' : (v[i]! != 1099511627776) = false := by rw [ho]; rfl
  rw [if_pos ho] at e1
  rw [show decide (v[i]! ≠ Om) = false from decide_eq_false (by rw [ho]; simp), Bool.false_and, Bool.or_false] at e2
  simp only [go_sem, h, hg, ho', hro, List.length_map]
  refine roundK.intro (i + 1) (by omega) (by omega) ?_
  simp only [go_sem, e1, e2, List.map_append, List.map_cons, List.map_nil, hw, ho]
 ·have ho' : (v[i]! != 1099511627776) = true := bne_iff_ne.2 ho
  rw [if_neg ho] at e1
  rw [show decide (v[i]! ≠ Om) = true from decide_eq_true ho, Bool.true_and] at e2
  simp only [go_sem, h, hg, ho']
  refine DrawK.walk 14 mixed (by kernel_rfl) ?_
  simp only [go_sem, hn, hgl, hg', hg2, hw2]
  cases hov : overN r v i
  ·rw [hov, Bool.false_or] at e2
   by_cases hb : 1048576 < v[i]! + (r.give[i]! - r.need[i]!)
   ·rw [decide_eq_true hb] at e2
    simp only [go_sem, hro, List.length_map]
    refine roundK.intro (i + 1) (by omega) (by omega) ?_
    simp only [go_sem, e1, e2, List.map_append, List.map_cons, List.map_nil, hw, hw3, hb, decide_true]
   ·rw [decide_eq_false hb] at e2
    simp only [go_sem, hro, List.length_map]
    refine roundK.intro (i + 1) (by omega) (by omega) ?_
    simp only [go_sem, e1, e2, List.map_append, List.map_cons, List.map_nil, hw, hw3, hb, decide_false]
  ·rw [hov, Bool.true_or] at e2
   simp only [go_sem, hro, List.length_map]
   refine roundK.intro (i + 1) (by omega) (by omega) ?_
   simp only [go_sem, e1, e2, List.map_append, List.map_cons, List.map_nil, hw, hw3]
theorem con_rless (a b : List Int) (h : a.length = b.length) (h6 : a.length <= 1000000) : Con Tryz.prog 131 [vs 0 a, vs 0 b] [] fun x _ => x = vb (lessO a b) := by
 refine Con.intro Tryz.func131 rfl Tryz.ntmps131 Tryz.results131 (by kernel_rfl) (by simp) 0 (by simp) ?_
 simp only [go_sem]
 refine LoopK.intro (fun i : Nat => ⟨34, [(0, vs 0 a), (1, vs 0 b), (5, vi i)], []⟩) (fun i => a.length - i) (fun i => i <= a.length /\ ∀ j, j < i -> ¬ (a[j]! < b[j]! /\ b[j]! ≠ Om)) 0 ⟨by omega, fun j hj => by omega⟩ ?_ ?_
 ·simp only [go_sem]
 rintro i ⟨hi, hb⟩
 by_cases hlt : i < a.length
 case neg => simp only [go_sem, hlt, less_none fun j hj => hb j (by omega)]
 have hlt2 : i < b.length := by omega
 have hg := getv hlt
 have hg' := getv hlt2
 have hw : IntKind.i64.wrap (i + 1) = i + 1 := wrap_in (by omega) (by omega)
 simp only [go_sem, hlt, hlt2]
 refine DrawK.walk 16 mixed (by kernel_rfl) ?_
 by_cases h1 : a[i]! < b[i]!
 ·by_cases h2 : b[i]! = 1099511627776
  ·have h2' : (b[i]! != 1099511627776) = false := by rw [h2]; rfl
   simp only [go_sem, hlt, hlt2, hg, hg', h1, h2', hw]
   refine roundK.intro (i + 1) ⟨by omega, fun j hj => ?_⟩ (by omega) ?_
   ·by_cases hji : j = i
    ·subst hji; exact fun hh => hh.2 h2
    ·exact hb j (by omega)
   ·simp only [go_sem]
  ·have h2' : (b[i]! != 1099511627776) = true := bne_iff_ne.2 h2
   simp only [go_sem, hlt, hlt2, hg, hg', h1, h2', less_hit hlt h1 h2]
 ·simp only [go_sem, hlt, hlt2, hg, hg', h1, hw]
  refine roundK.intro (i + 1) ⟨by omega, fun j hj => ?_⟩ (by omega) ?_
  ·by_cases hji : j = i
   ·subst hji; exact fun hh => h1 hh.1
   ·exact hb j (by omega)
  ·simp only [go_sem]
def ordL (a b : Int) : Int := if a < b then -1 else if b < a then 1 else 0
def lexI : List Int -> List Int -> Int
 | x :: xs, y :: ys => if x = y then lexI xs ys else ordL x y
 | _, _ => 0
def cmpI (a b : List Int) : Int := if a.length = b.length then lexI a b else ordL a.length b.length
theorem ord_zero {a b : Int} : ordL a b = 0 ↔ a = b := by unfold ordL; split <;> (try split) <;> omega
theorem lex_zero : ∀ {a b : List Int}, a.length = b.length -> (lexI a b = 0 ↔ a = b)
 | [], [], _ => by simp [lexI]
 | x :: xs, y :: ys, h => by
  unfold lexI
  have hl : xs.length = ys.length := by simpa using h
  split
  ·rename_i e; rw [lex_zero hl, e]; simp
  ·rename_i e; rw [ord_zero]; simp [e]
 | [], _ :: _, h => by simp at h
 | _ :: _, [], h => by simp at h
theorem cmp_zero {a b : List Int} : cmpI a b = 0 ↔ a = b := by
 unfold cmpI
 split
 ·rename_i h; exact lex_zero h
 ·rename_i h
  rw [ord_zero]
  exact ⟨fun e => by omega, fun e => by rw [e]⟩
theorem lex_drop {a b : List Int} (hl : a.length = b.length) : ∀ i, i <= a.length -> (∀ j, j < i -> a[j]! = b[j]!) -> lexI a b = lexI (a.drop i) (b.drop i)
 | 0, _, _ => rfl
 | i + 1, hi, h => by
  rw [lex_drop hl i (by omega) fun j hj => h j (by omega)]
  have h1 : i < a.length := by omega
  have h2 : i < b.length := by omega
  have e := h i (by omega)
  rw [getElem!_pos a i h1, getElem!_pos b i h2] at e
  rw [List.drop_eq_getElem_cons h1, List.drop_eq_getElem_cons h2, lexI, if_pos e]
theorem lex_stop {a b : List Int} (hl : a.length = b.length) {i : Nat} (hi : i < a.length) (h : ∀ j, j < i -> a[j]! = b[j]!) (hn : a[i]! ≠ b[i]!) : lexI a b = ordL a[i]! b[i]! := by
 have h2 : i < b.length := by omega
 rw [lex_drop hl i (by omega) h]
 rw [getElem!_pos a i hi, getElem!_pos b i h2] at *
 rw [List.drop_eq_getElem_cons hi, List.drop_eq_getElem_cons h2, lexI, if_neg hn]
theorem lex_same {a b : List Int} (hl : a.length = b.length) (h : ∀ j, j < a.length -> a[j]! = b[j]!) : lexI a b = 0 := by
 rw [lex_drop hl a.length (Nat.le_refl _) h, List.drop_eq_nil_of_le (Nat.le_refl _)]
 unfold lexI; rfl
theorem con_rorder (a b : Int) : Con Tryz.prog 56 [vi a, vi b] [] fun r _ => r = vi (ordL a b) := by
 refine Con.intro Tryz.func56 rfl Tryz.ntmps56 Tryz.results56 (by kernel_rfl) (by simp) 0 (by simp) ?_
 unfold ordL
 by_cases h1 : a < b
 ·simp only [go_sem, h1, if_true]
 ·by_cases h2 : b < a
  ·simp only [go_sem, h1, h2, if_true, if_false]
  ·simp only [go_sem, h1, h2, if_true, if_false]
theorem con_rcompareI (a b : List Int) (ha : a.length <= 1000000) : Con Tryz.prog 30 [vs 0 a, vs 0 b] [] fun r _ => r = vi (cmpI a b) := by
 refine Con.intro Tryz.func30 rfl Tryz.ntmps30 Tryz.results30 (by kernel_rfl) (by simp) 0 (by simp) ?_
 by_cases hl : a.length = b.length
 case neg =>
  have hl' : ((a.length : Int) != (b.length : Int)) = true := bne_iff_ne.2 (by omega)
  have e : cmpI a b = ordL a.length b.length := by unfold cmpI; rw [if_neg hl]
  simp only [go_sem, hl', List.length_map]
  refine CallU.free (con_rorder a.length b.length) (by simp only [go_sem]) (by simp only [go_sem]) ?_
  rintro x bx rfl
  simp only [go_sem, e]
 have e : cmpI a b = lexI a b := by unfold cmpI; rw [if_pos hl]
 have hl' : ((a.length : Int) != (b.length : Int)) = false := by rw [hl]; simp
 rw [e]
 simp only [go_sem, hl', List.length_map]
 refine LoopK.intro (fun i : Nat => ⟨40, [(0, vs 0 a), (1, vs 0 b), (5, vi i)], []⟩)
  (fun i => a.length - i) (fun i => i <= a.length /\ ∀ j, j < i -> a[j]! = b[j]!) 0 ⟨by omega, fun j hj => by omega⟩ ?_ ?_
 ·simp only [go_sem]
  all_goals exact leV_refl _
 rintro i ⟨hi, hb⟩
 by_cases h : i < a.length
 ·have h2 : i < b.length := by omega
  have g1 := getv h
  have g2 := getv h2
  have hw : IntKind.i64.wrap (i + 1) = i + 1 := wrap_in (by omega) (by omega)
  simp only [go_sem, h]
  refine DrawK.walk 9 mixed (by kernel_rfl) ?_
  by_cases hp : a[i]! = b[i]!
  ·have hp' : (a[i]! != b[i]!) = false := by rw [hp]; simp
   simp only [go_sem, h, h2, g1, g2, hp', hw]
   refine roundK.intro (i + 1) ⟨by omega, fun j hj => ?_⟩ (by omega) ?_
   ·by_cases hji : j = i
    ·subst hji; exact hp
    ·exact hb j (by omega)
   ·simp only [go_sem]
  ·have hp' : (a[i]! != b[i]!) = true := bne_iff_ne.2 hp
   have e2 := lex_stop hl h hb hp
   simp only [go_sem, h, h2, g1, g2, hp']
   refine DrawK.walk 10 mixed (by kernel_rfl) ?_
   simp only [go_sem, h, h2, g1, g2]
   refine CallY.mk (con_rorder a[i]! b[i]!) (by simp only [go_sem]) (by simp only [go_sem]) (.inl (by simp only [go_sem])) ?_
   simp only [go_sem, e2]
 ·have e2 := lex_same hl fun j hj => hb j (by omega)
  simp only [go_sem, h, e2]
theorem con_rsameI (a b : List Int) (ha : a.length <= 1000000) : Con Tryz.prog 99 [vs 0 a, vs 0 b] [] fun r _ => r = vb (a == b) := by
 refine Con.intro Tryz.func99 rfl Tryz.ntmps99 Tryz.results99 (by kernel_rfl) (by simp) 0 (by simp) ?_
 simp only [go_sem]
 refine CallU.free (con_rcompareI a b ha) (by simp only [go_sem]) (by simp only [go_sem]) ?_
 rintro x bx rfl
 have e : (cmpI a b == 0) = (a == b) := by rw [Bool.eq_iff_iff, beq_iff_eq, beq_iff_eq]; exact cmp_zero
 simp only [go_sem, e]
theorem con_smaller (l : List ND) (n : Int) (s : Int) (v : List Int) (ns np : Nat) (hok : NodesOk ns np l) (hv : okV np v) (h6 : np <= 6) (hn : -1 <= n /\ n < l.length) :
  Con Tryz.prog 100 [.sl 0 4 (l.map vND), vi n, vi s, vs 0 v] [] fun x _ => x = vi (smallerF l s v 257 n) := by
 refine Con.intro Tryz.func100 rfl Tryz.ntmps100 Tryz.results100 (by kernel_rfl) (by simp) 0 (by simp) ?_
 have hlen := hok.len
 have hvl := hv.1
 obtain ⟨R, hR⟩ : ∃ R, smallerF l s v 257 n = R := ⟨_, rfl⟩
 rw [hR]
 simp only [go_sem]
 refine LoopK.intro (fun p : Int × Nat => ⟨41, [(0, .sl 0 4 (l.map vND)), (1, vi p.1), (2, vi s), (3, vs 0 v)], Rk 4 p.2⟩) (fun p => (p.1 + 1).toNat) (fun p => -1 <= p.1 /\ p.1 < l.length /\ ∃ k : Nat, p.1 + 1 <= k /\ smallerF l s v k p.1 = R) (n, 0) ⟨hn.1, hn.2, 257, by show n + 1 <= ((257 : Nat) : Int); omega, hR⟩ ?_ ?_
 ·simp only [go_sem, Rk, List.replicate_zero]
 rintro ⟨m, k⟩ ⟨h1, h2, q, hq0, hqe⟩
 simp only at h1 h2 hq0 hqe
 by_cases h0 : 0 <= m
 case neg =>
  rw [smaller_neg (by omega)] at hqe
  simp only [go_sem, h0, <- hqe]
 obtain ⟨j, rfl⟩ : ∃ j : Nat, m = j := ⟨m.toNat, by omega⟩
 have hj : j < l.length := by omega
 have hg := getND hj
 have hx := hok.node j hj
 obtain ⟨q, rfl⟩ : ∃ q', q = q' + 1 := ⟨q - 1, by omega⟩
 rw [smallerF, if_pos ⟨by omega, by omega⟩, show ((j : Int)).toNat = j from rfl] at hqe
 obtain ⟨x, ex⟩ : ∃ x, x = l[j]! := ⟨_, rfl⟩
 rw [<- ex] at hg hx hqe
 have hxl := hx.vec.1
 have hxp := hx.par
 have hle := con_rvecLeq x.vec v (by omega) (by omega)
 have hls := con_rless x.vec v (by omega) (by omega)
 have hB' := Rk_len 4 k
 have n0 := fun L : List (List AV) => app_at0 (L := L) hB'
 have s0' := fun (L : List (List AV)) z => app_set0 (L := L) (z := z) hB'
 have fin : ∀ σ : St, σ.le ⟨41, [(0, .sl 0 4 (l.map vND)), (1, vi x.par), (2, vi s), (3, vs 0 v)], Rk 4 (k + 1)⟩ -> (x.st == s && (leqV x.vec v && lessO x.vec v)) = false -> roundK (fun p : Int × Nat => ⟨41, [(0, .sl 0 4 (l.map vND)), (1, vi p.1), (2, vi s), (3, vs 0 v)], Rk 4 p.2⟩) (fun p => (p.1 + 1).toNat) (fun p => -1 <= p.1 /\ p.1 < l.length /\ ∃ k : Nat, p.1 + 1 <= k /\ smallerF l s v k p.1 = R) ((j : Int), k) σ :=
  fun σ hσ hno => roundK.intro (x.par, k + 1) ⟨by show -1 <= x.par; omega, by show x.par < l.length; omega, q, by show x.par + 1 <= q; omega, by rw [hno, if_neg (by simp)] at hqe; exact hqe⟩ (by show (x.par + 1).toNat < ((j : Int) + 1).toNat; omega) hσ
 by_cases hs : x.st = s
 case neg =>
  have hs' : (x.st == s) = false := beq_eq_false_iff_ne.2 hs
  simp only [go_sem, h0, h2, hg, hB', n0, s0', List.length_map, hs']
  refine fin _ ?_ (by rw [hs']; rfl)
  simp only [go_sem, Rk_succ]
  all_goals exact leB_RkA (x := [[_, _, _, _]]) ⟨⟨leV_any _, leV_any _, leV_any _, leV_any _, trivial⟩, trivial⟩
 have hs' : (x.st == s) = true := beq_iff_eq.2 hs
 simp only [go_sem, h0, h2, hg, hB', n0, s0', List.length_map, hs']
 refine CallU.free hle (by simp only [go_sem]) (by simp only [go_sem]) ?_
 rintro r bx rfl
 cases hq : leqV x.vec v
 ·simp only [go_sem, n0]
  refine fin _ ?_ (by rw [hq, Bool.false_and, Bool.and_false])
  simp only [go_sem, Rk_succ]
  all_goals exact leB_RkA (x := [[_, _, _, _]]) ⟨⟨leV_any _, leV_any _, leV_any _, leV_any _, trivial⟩, trivial⟩
 simp only [go_sem, n0]
 refine CallU.free hls (by simp only [go_sem]) (by simp only [go_sem]) ?_
 rintro r bx rfl
 cases hq2 : lessO x.vec v
 ·simp only [go_sem, n0]
  refine fin _ ?_ (by rw [hq2, Bool.and_false, Bool.and_false])
  simp only [go_sem, Rk_succ]
  all_goals exact leB_RkA (x := [[_, _, _, _]]) ⟨⟨leV_any _, leV_any _, leV_any _, leV_any _, trivial⟩, trivial⟩
 rw [hs', hq, hq2, if_pos (by simp)] at hqe
 simp only [go_sem, <- hqe]
theorem con_raise (l : List ND) (n : Nat) (s : Int) (v : List Int) (ns np : Nat) (hok : NodesOk ns np l) (hv : okV np v) (h6 : np <= 6) (hn : n < l.length) :
  Con Tryz.prog 78 [.sl 0 4 (l.map vND), vi n, vi s, vs 0 v] [] fun x _ => x = vs 0 (raiseT l n s v) := by
 refine Con.intro Tryz.func78 rfl Tryz.ntmps78 Tryz.results78 (by kernel_rfl) (by simp) 0 (by simp) ?_
 have hlen := hok.len
 have hvl := hv.1
 simp only [go_sem]
 refine LoopK.intro (fun w : List Int => ⟨45, [(0, .sl 0 4 (l.map vND)), (1, vi n), (2, vi s), (3, vs 0 w)], []⟩) (fun w => finN w) (fun w => okV np w /\ ∃ k, finN w < k /\ raiseF l n s k w = raiseT l n s v) v ⟨hv, _, Nat.lt_succ_self _, rfl⟩ ?_ ?_
 ·simp only [go_sem]
 rintro w ⟨h1, q, hq0, hqe⟩
 have hwl := h1.1
 obtain ⟨q, rfl⟩ : ∃ q', q = q' + 1 := ⟨q - 1, by omega⟩
 rw [raiseF] at hqe
 have hk := smaller_spec (l := l) (s := s) (v := w) 257 n
 simp only [go_sem]
 refine CallU.free (con_smaller l n s w ns np hok h1 h6 ⟨by omega, by omega⟩) (by simp only [go_sem]) (by simp only [go_sem]) ?_
 rintro r bx rfl
 generalize smallerF l s w 257 n = k at hk hqe
 rcases hk with rfl | ⟨j, rfl, hj, hle, hls⟩
 ·rw [if_pos (by omega)] at hqe
  rw [<- hqe]
  simp only [go_sem]
 rw [if_neg (by omega), show ((j : Int)).toNat = j from rfl] at hqe
 have hj0 : ¬ (j : Int) < 0 := by omega
 have hg := getND hj
 have hx := hok.node j hj
 have hxl := hx.vec.1
 generalize l[j]! = x at *
 simp only [go_sem, hj0]
 refine CallU.free (con_rcopy w (by omega)) (by simp only [go_sem]) (by simp only [go_sem]) ?_
 rintro r bx rfl
 simp only [go_sem]
 refine LoopK.intro (fun i : Nat => ⟨45, [(0, .sl 0 4 (l.map vND)), (1, vi n), (2, vi s), (3, vs 0 w), (9, vi j), (10, .sl 1410 1 ((raiseV x.vec w i).map vi)), (11, vi i)], []⟩) (fun i => w.length - i) (fun i => i <= w.length) 0 (by omega) ?_ ?_
 ·simp only [go_sem, raiseV_zero]
  all_goals exact leV_refl _
 rintro i hi
 by_cases h : i < w.length
 case neg =>
  obtain rfl : i = w.length := by omega
  simp only [go_sem, h]
  refine roundK.freeze (fun _ => true) (raiseV x.vec w w.length) ⟨raise_ok h1, q, by have := raise_fin (x := x.vec) (w := w) (by omega) hls; omega, hqe⟩ (raise_fin (by omega) hls) ?_
  simp only [go_sem]
 have hxi : i < x.vec.length := by omega
 have hri : i < (raiseV x.vec w i).length := by rw [raiseV_len]; exact h
 have g1 := getv h
 have g2 := getv hxi
 have hw : IntKind.i64.wrap (i + 1) = i + 1 := wrap_in (by omega) (by omega)
 simp only [go_sem, h]
 refine DrawK.walk 12 mixed (by kernel_rfl) ?_
 by_cases hlt : x.vec[i]! < w[i]!
 ·have hset : (List.map vi (raiseV x.vec w i)).modify i (updElem 0 [AV.sc (.int .i64 1099511627776)]) = (raiseV x.vec w (i + 1)).map vi := by rw [<- raiseV_set h hlt]; exact modify_vi
  simp only [go_sem, h, hj, hxi, hg, g1, g2, hlt, hri, hset, hw, List.length_map]
  refine roundK.intro (i + 1) (by omega) (by omega) ?_
  simp only [go_sem]
 ·simp only [go_sem, h, hj, hxi, hg, g1, g2, hlt, hw, List.length_map]
  refine roundK.intro (i + 1) (by omega) (by omega) ?_
  simp only [go_sem, raiseV_keep hlt]
theorem con_again (l : List ND) (n : Nat) (ns np : Nat) (hok : NodesOk ns np l) (h6 : np <= 6) (hn : n < l.length) :
  Con Tryz.prog 76 [.sl 0 4 (l.map vND), vi n] [] fun x _ => ∃ b, x = vb b /\ (b = true -> ∃ k, k < n /\ l[k]!.st = l[n]!.st /\ l[k]!.vec = l[n]!.vec) := by
 refine Con.intro Tryz.func76 rfl Tryz.ntmps76 Tryz.results76 (by kernel_rfl) (by simp) 0 (by simp) ?_
 have hlen := hok.len
 have gn := getND hn
 have hN := hok.node n hn
 have hNp := hN.par
 have hNl := hN.vec.1
 obtain ⟨y, ey⟩ : ∃ y, y = l[n]! := ⟨_, rfl⟩
 rw [<- ey] at gn hN hNp hNl ⊢
 simp only [go_sem, hn, gn, List.length_map]
 refine LoopK.intro (fun p : Int => ⟨42, [(0, .sl 0 4 (l.map vND)), (1, vi n), (5, vi p)], []⟩) (fun p => (p + 1).toNat) (fun p => -1 <= p /\ p < n) y.par hNp ?_ ?_
 ·simp only [go_sem]
 rintro m ⟨h1, h2⟩
 by_cases h0 : 0 <= m
 case neg =>
  simp only [go_sem, h0]
  exact ⟨false, rfl, fun h => by cases h⟩
 obtain ⟨j, rfl⟩ : ∃ j : Nat, m = j := ⟨m.toNat, by omega⟩
 have hj : j < l.length := by omega
 have hg := getND hj
 have hx := hok.node j hj
 have hxp := hx.par
 have hxl := hx.vec.1
 obtain ⟨x, ex⟩ : ∃ x, x = l[j]! := ⟨_, rfl⟩
 rw [<- ex] at hg hx hxp hxl
 have hsm := con_rsameI x.vec y.vec (by omega)
 simp only [go_sem, h0]
 refine DrawK.walk 22 mixed (by kernel_rfl) ?_
 by_cases hs : x.st = y.st
 case neg =>
  have hs' : (x.st == y.st) = false := beq_eq_false_iff_ne.2 hs
  simp only [go_sem, hj, hn, hg, gn, hs', List.length_map]
  refine roundK.intro x.par ⟨by omega, by omega⟩ (by omega) ?_
  simp only [go_sem]
 have hs' : (x.st == y.st) = true := beq_iff_eq.2 hs
 simp only [go_sem, hj, hn, hg, gn, hs', List.length_map]
 refine CallU.free hsm (by simp only [go_sem]) (by simp only [go_sem]) ?_
 rintro r bx rfl
 cases hq : (x.vec == y.vec)
 ·simp only [go_sem, hj, hg, List.length_map]
  refine roundK.intro x.par ⟨by omega, by omega⟩ (by omega) ?_
  simp only [go_sem]
 ·simp only [go_sem]
  exact ⟨true, rfl, fun _ => ⟨j, by omega, by rw [<- ex]; exact hs, by rw [<- ex]; exact beq_iff_eq.1 hq⟩⟩
end Go.AM
