/- CrN CrO CmX0 CnA CnB CrP -/
import Derived.Test.YtapjfgddbfneaaaGreatg20
import Derived.Test.YtapjfgddbfneaaaGreatg17
namespace Go.AM
open Go Go.Proofs Go.RowKit
set_option maxRecDepth 100000
set_option maxHeartbeats 8000000
theorem con_r22quiet (m : MD) (s : Nat) (v : List Int) (h : GoodM m) (hc : GoodC m s v) : Con Tryz.prog 67 [vM m, vi (-1), vV (cfgC s v)] [] fun x _ => x = .tup [.nil, vi 0] := by
 have e0 := vV_eq (cfgC s v)
 rw [e0]
 refine Con.intro Tryz.func67 rfl Tryz.ntmps67 Tryz.results67 (by kernel_rfl) (by simp) 0 (by simp) ?_
 have hk := h.kind
 have h3 := h.few
 have a2 : ¬ ((m.rules.length : Int) <= -1) := by omega
 simp only [go_sem, vM, cM, vss, hk]
 refine CallU.free (con_rkind m h) (by simp only [go_sem]) (by simp only [go_sem, vM, cM, vss, hk]) ?_
 rintro x bx rfl
 simp only [go_sem, a2, List.length_map]
 refine CallU.free (con_rmvalid m (cfgC s v) h hc.conf) (by simp only [go_sem]) (by simp only [go_sem, vM, cM, vss, hk, e0]) ?_
 rintro x bx rfl
 simp only [go_sem]
 refine CallU.free (con_rquiet m (cfgC s v) h hc.conf) (by simp only [go_sem]) (by simp only [go_sem, vM, cM, vss, hk, e0]) ?_
 rintro x bx rfl
 simp only [go_sem]
theorem con_r22no (m : MD) (i s : Nat) (v : List Int) (h : GoodM m) (hi : i < m.rules.length) (hc : GoodC m s v) (he : enF m.rules[i]! s v = false) : Con Tryz.prog 67 [vM m, vi i, vV (cfgC s v)] [] fun x _ => x = .tup [.nil, vi 0] := by
 have e0 := vV_eq (cfgC s v)
 have hA := con_rapplyNo m i s v h hi hc he
 rw [e0] at hA ⊢
 refine Con.intro Tryz.func67 rfl Tryz.ntmps67 Tryz.results67 (by kernel_rfl) (by simp) 0 (by simp) ?_
 have hk := h.kind
 have a1 : ¬ ((i : Int) < -1) := by omega
 have a2 : ¬ ((m.rules.length : Int) <= (i : Int)) := by omega
 have a3 : ((i : Int) == -1) = false := beq_eq_false_iff_ne.2 (by omega)
 simp only [go_sem, vM, cM, vss, hk]
 refine CallU.free (con_rkind m h) (by simp only [go_sem]) (by simp only [go_sem, vM, cM, vss, hk]) ?_
 rintro x bx rfl
 simp only [go_sem, a1, a2, List.length_map]
 refine CallU.free (con_rmvalid m (cfgC s v) h hc.conf) (by simp only [go_sem]) (by simp only [go_sem, vM, cM, vss, hk, e0]) ?_
 rintro x bx rfl
 simp only [go_sem, a3]
 refine CallU.free hA (by simp only [go_sem]) (by simp only [go_sem, vM, cM, vss, hk]) ?_
 rintro x bx rfl
 simp only [go_sem]
theorem con_r22yes (m : MD) (i s : Nat) (v : List Int) (h : GoodM m) (hst : m.rules.all stillB = true) (hi : i < m.rules.length) (hc : GoodC m s v) (hb : ∀ x ∈ v, x <= 1000000) (he : enF m.rules[i]! s v = true) : Con Tryz.prog 67 [vM m, vi i, vV (cfgC s v)] [] fun x _ => x = .tup [.sl 2 2 [cfgN 0 m.rules[i]!.dst.toNat (fireF m.rules[i]! v)], vi 0] := by
 have e0 := vV_eq (cfgC s v)
 have hA := con_rapply m i s v h hst hi hc hb he
 rw [e0] at hA ⊢
 refine Con.intro Tryz.func67 rfl Tryz.ntmps67 Tryz.results67 (by kernel_rfl) (by simp) 0 (by simp) ?_
 have hk := h.kind
 have a1 : ¬ ((i : Int) < -1) := by omega
 have a2 : ¬ ((m.rules.length : Int) <= (i : Int)) := by omega
 have a3 : ((i : Int) == -1) = false := beq_eq_false_iff_ne.2 (by omega)
 simp only [go_sem, vM, cM, vss, hk]
 refine CallU.free (con_rkind m h) (by simp only [go_sem]) (by simp only [go_sem, vM, cM, vss, hk]) ?_
 rintro x bx rfl
 simp only [go_sem, a1, a2, List.length_map]
 refine CallU.free (con_rmvalid m (cfgC s v) h hc.conf) (by simp only [go_sem]) (by simp only [go_sem, vM, cM, vss, hk, e0]) ?_
 rintro x bx rfl
 simp only [go_sem, a3]
 refine CallU.free hA (by simp only [go_sem]) (by simp only [go_sem, vM, cM, vss, hk]) ?_
 rintro x bx rfl
 simp only [go_sem]
structure StD where
 rule : Nat
 state : Nat
 v : List Int
 deriving Inhabited
def vSt (x : StD) : AV := .ag [vi x.rule, vi 0, .sl 0 2 (((x.state : Int) :: x.v).map kidN)]
attribute [go_sem] vSt
def stepsF (rules : List RD) (s : Nat) (v : List Int) : Nat -> List StD
 | 0 => []
 | n + 1 => if enF rules[n]! s v then stepsF rules s v n ++ [⟨n, rules[n]!.dst.toNat, fireF rules[n]! v⟩] else stepsF rules s v n
theorem steps_len (rules : List RD) (s : Nat) (v : List Int) : ∀ n, (stepsF rules s v n).length <= n
 | 0 => by simp [stepsF]
 | n + 1 => by
  have := steps_len rules s v n
  unfold stepsF
  split
  ·rw [List.length_append]; simp; omega
  ·omega
theorem con_rAll (m : MD) (s : Nat) (v : List Int) (h : GoodM m) (hst : m.rules.all stillB = true) (hc : GoodC m s v) (hb : ∀ x ∈ v, x <= 1000000) : Con Tryz.prog 41 [vM m, vV (cfgC s v)] [] fun x _ => x = .tup [.sl 2 3 ((stepsF m.rules s v m.rules.length).map vSt), vi 0] := by
 have e0 := vV_eq (cfgC s v)
 rw [e0]
 refine Con.intro Tryz.func41 rfl Tryz.ntmps41 Tryz.results41 (by kernel_rfl) (by simp) 0 (by simp) ?_
 have h3 := h.few
 simp only [go_sem, vM, cM, vss]
 refine CallU.free (con_rkind m h) (by simp only [go_sem]) (by simp only [go_sem, vM, cM, vss]) ?_
 rintro x bx rfl
 simp only [go_sem]
 refine CallU.free (con_rmvalid m (cfgC s v) h hc.conf) (by simp only [go_sem]) (by simp only [go_sem, vM, cM, vss, e0]) ?_
 rintro x bx rfl
 simp only [go_sem]
 refine LoopK.intro (fun j : Nat => ⟨57, [(2, .pb 0 0), (3, .pb 1 0), (7, .sl 3392 3 ((stepsF m.rules s v (j - 1)).map vSt)), (8, vi ((j : Int) - 1))], [cM m, [vi (cfgC s v).n, .sl 0 2 ((cfgC s v).kids.map vV)]]⟩)
  (fun j => m.rules.length + 1 - j) (fun j => j <= m.rules.length + 1) 0 (by omega) ?_ ?_
 ·simp only [go_sem, cM, vss, stepsF, Nat.zero_sub, List.map_nil]
 rintro j hj
 have hsl := steps_len m.rules s v (j - 1)
 by_cases hjl : (j : Int) - 1 < (m.rules.length : Int)
 case neg =>
  have hje : j - 1 = m.rules.length := by omega
  have hle := steps_len m.rules s v m.rules.length
  have h256 : ¬ (256 : Int) < ((stepsF m.rules s v m.rules.length).length : Int) := by omega
  rw [hje]
  simp only [go_sem, cM, vss, List.length_map, hjl, h256]
 have hw : IntKind.i64.wrap ((j : Int) - 1 + 1) = ((j + 1 : Nat) : Int) - 1 := by rw [wrap_in (by omega) (by omega)]; omega
 cases j with
 | zero =>
  have hq := con_r22quiet m s v h hc
  rw [e0] at hq
  have e1 : (((0 : Nat) : Int) - 1) = -1 := by omega
  rw [e1] at hjl hw ⊢
  have hw0 : IntKind.i64.wrap (-1 + 1) = ((1 : Nat) : Int) - 1 := rfl
  simp only [go_sem, cM, vss, List.length_map, hjl]
  refine CallU.free hq (by simp only [go_sem]) (by simp only [go_sem, vM, cM, vss]) ?_
  rintro x bx rfl
  simp only [go_sem]
  refine LoopK.intro (fun _ : Nat => ⟨57, [(2, .pb 0 0), (3, .pb 1 0), (7, .sl 3392 3 []), (8, vi (-1)), (9, .nil), (11, vi 0)], [cM m, [vi (cfgC s v).n, .sl 0 2 ((cfgC s v).kids.map vV)]]⟩) (fun i => i) (fun _ => True) 0 trivial ?_ ?_
  ·simp only [go_sem, cM, vss, stepsF, List.map_nil]
  rintro q _
  simp only [go_sem, cM, vss]
  refine roundK.intro 1 (by omega) (by omega) ?_
  simp only [go_sem, stepsF, List.map_nil]
  all_goals exact leV_int rfl
 | succ i =>
  have hil : i < m.rules.length := by omega
  have e1 : (((i + 1 : Nat) : Int) - 1) = (i : Int) := by omega
  rw [e1] at hjl hw ⊢
  cases he : enF m.rules[i]! s v
  ·have hq := con_r22no m i s v h hil hc he
   rw [e0] at hq
   simp only [go_sem, cM, vss, List.length_map, hjl]
   refine CallU.free hq (by simp only [go_sem]) (by simp only [go_sem, vM, cM, vss]) ?_
   rintro x bx rfl
   simp only [go_sem]
   refine LoopK.intro (fun _ : Nat => ⟨57, [(2, .pb 0 0), (3, .pb 1 0), (7, .sl 3392 3 ((stepsF m.rules s v i).map vSt)), (8, vi i), (9, .nil), (11, vi 0)], [cM m, [vi (cfgC s v).n, .sl 0 2 ((cfgC s v).kids.map vV)]]⟩) (fun i => i) (fun _ => True) 0 trivial ?_ ?_
   ·simp only [go_sem, cM, vss, Nat.add_sub_cancel]
   rintro q _
   have hwi : IntKind.i64.wrap ((i : Int) + 1) = i + 1 := wrap_in (by omega) (by omega)
   have es : stepsF m.rules s v (i + 1) = stepsF m.rules s v i := by rw [stepsF, he]; rfl
   simp only [go_sem, cM, vss, hwi]
   refine roundK.intro (i + 1 + 1) (by omega) (by omega) ?_
   simp only [go_sem, Nat.add_sub_cancel, es]
   all_goals exact leV_int (by omega)
  ·have hq := con_r22yes m i s v h hst hil hc hb he
   rw [e0] at hq
   simp only [go_sem, cM, vss, List.length_map, hjl]
   refine CallU.free hq (by simp only [go_sem]) (by simp only [go_sem, vM, cM, vss]) ?_
   rintro x bx rfl
   have es : stepsF m.rules s v (i + 1) = stepsF m.rules s v i ++ [⟨i, m.rules[i]!.dst.toNat, fireF m.rules[i]! v⟩] := by rw [stepsF, he]; rfl
   have hwi : IntKind.i64.wrap ((i : Int) + 1) = i + 1 := wrap_in (by omega) (by omega)
   have hlen := steps_len m.rules s v i
   have hro : roomFor ((stepsF m.rules s v i).length + 1) 40 := by simp only [roomFor]; omega
   simp only [go_sem]
   refine LoopK.intro (fun k : Nat => ⟨57, [(2, .pb 0 0), (3, .pb 1 0), (7, .sl 3392 3 ((stepsF m.rules s v (i + k)).map vSt)), (8, vi i), (9, .sl 2114 2 [cfgN 0 m.rules[i]!.dst.toNat (fireF m.rules[i]! v)]), (11, vi k)], [cM m, [vi (cfgC s v).n, .sl 0 2 ((cfgC s v).kids.map vV)]]⟩) (fun k => 1 - k) (fun k => k <= 1) 0 (by omega) ?_ ?_
   ·simp only [go_sem, cM, vss, Nat.add_sub_cancel, Nat.add_zero]
    all_goals exact leV_refl _
   rintro k hk
   obtain rfl | rfl : k = 0 \/ k = 1 := by omega
   ·simp only [go_sem, cM, vss, Nat.add_zero, List.length_cons, List.length_nil, hro]
    refine roundK.intro 1 (by omega) (by omega) ?_
    simp only [go_sem, es, List.map_append, List.map_cons, List.map_nil]
    all_goals exact leV_int rfl
   ·simp only [go_sem, cM, vss, List.length_cons, List.length_nil, hwi]
    refine roundK.intro (i + 1 + 1) (by omega) (by omega) ?_
    simp only [go_sem, Nat.add_sub_cancel]
    all_goals exact leV_int (by omega)
theorem flat_cons (x : AV) (l : List AV) : flat (x :: l) = x.cells ++ flat l := by simp [flat]
theorem kids_pw : ∀ l : List Int, PW Sub (flat (l.map kidN)) (flat ((l.map fun n => CV.mk n []).map vV))
 | [] => PW.nil _
 | n :: l => by
  rw [List.map_cons, List.map_cons, List.map_cons, flat_cons, flat_cons, vV_eq]
  exact PW.append (PW.cons (Sub.refl _) (PW.cons (Sub.nil 2) (PW.nil _))) (kids_pw l)
theorem cfg_le (s : Nat) (v : List Int) : leV (cfgN 0 s v) (vV (cfgC s v)) := by
 rw [vV_eq]
 refine leV_ag ⟨leV_refl _, ?_, trivial⟩
 show leV (.sl 0 2 (((s : Int) :: v).map kidN)) (.sl 0 2 ((((s : Int) :: v).map fun n => CV.mk n []).map vV))
 exact leV_slE (by simp) (fun y hy => by
  obtain ⟨x, _, rfl⟩ := List.mem_map.1 hy
  rw [vV_eq]; rfl) (kids_pw _)
def ruleN (r : RD) : AV := .ag [vStr r.name, vi r.src, vi r.dst, vs 0 r.need, vs 0 r.give, .nil, vi 0, vi 0, vi 0, .nil, .nil, .nil, .nil, vi 0]
attribute [go_sem] ruleN
def ThinR (r : RD) : Prop := r = bareR r.name r.src r.dst r.need r.give []
theorem rules_pw : ∀ l : List RD, (∀ r ∈ l, ThinR r) -> PW Sub (flat (l.map ruleN)) (flat (l.map vRule))
 | [], _ => PW.nil _
 | r :: l, h => by
  rw [List.map_cons, List.map_cons, flat_cons, flat_cons]
  refine PW.append ?_ (rules_pw l fun x hx => h x (List.mem_cons_of_mem _ hx))
  rw [h r (List.mem_cons_self ..)]
  have e1 : Sub .nil (vs 0 []) := Sub.nil 1
  have e3 : Sub .nil (.sl 0 3 (([] : List (Int × Int × Int)).map vTake)) := Sub.nil 3
  exact PW.cons (Sub.refl _) (PW.cons (Sub.refl _) (PW.cons (Sub.refl _) (PW.cons (Sub.refl _) (PW.cons (Sub.refl _) (PW.cons e1 (PW.cons (Sub.refl _) (PW.cons (Sub.refl _) (PW.cons (Sub.refl _) (PW.cons e1 (PW.cons e1 (PW.cons e3 (PW.cons e1 (PW.cons (Sub.refl _) (PW.nil _))))))))))))))
def modelN (m : MD) (t s0 : Nat) (v0 : List Int) : AV := .ag [vi 1, vss m.states, vss m.places, .nil, .nil, vi 0, vi 0, .sl t 14 (m.rules.map ruleN), vi 0, .sl t 2 (((s0 : Int) :: v0).map kidN)]
attribute [go_sem] modelN
theorem model_le {m : MD} {s0 : Nat} {v0 : List Int} (h : GoodM m) (hr : ∀ r ∈ m.rules, ThinR r) (hs : m.start = cfgC s0 v0) : leV (modelN m 0 s0 v0) (vM m) := by
 have hc := cfg_le s0 v0
 rw [vV_eq] at hc
 unfold modelN vM cM
 rw [h.kind, h.letters, h.ranks, h.levels, h.age, hs]
 refine leV_ag ⟨leV_refl _, leV_refl _, leV_refl _, leV_nil 0 1, leV_nil 0 1, leV_refl _, leV_refl _, ?_, leV_refl _, ?_, trivial⟩
 ·exact leV_slE (by simp) (fun y hy => by obtain ⟨x, _, rfl⟩ := List.mem_map.1 hy; rfl) (rules_pw _ hr)
 ·show leV (.sl 0 2 (((s0 : Int) :: v0).map kidN)) (.sl 0 2 ((((s0 : Int) :: v0).map fun n => CV.mk n []).map vV))
  exact leV_slE (by simp) (fun y hy => by
   obtain ⟨x, _, rfl⟩ := List.mem_map.1 hy
   rw [vV_eq]; rfl) (kids_pw _)
def statesL : List ByteArray := [⟨#[97]⟩, ⟨#[98]⟩]
def placesL : List ByteArray := [⟨#[120]⟩, ⟨#[121]⟩]
def ruleNames : List ByteArray := [⟨#[114]⟩, ⟨#[115]⟩, ⟨#[116]⟩]
structure DealR (ns np : Nat) (r : RD) : Prop where
 thin : ThinR r
 src : 0 <= r.src /\ r.src < ns
 dst : 0 <= r.dst /\ r.dst < ns
 need : r.need.length = np /\ ∀ x ∈ r.need, 0 <= x /\ x <= 2
 give : r.give.length = np /\ ∀ x ∈ r.give, 0 <= x /\ x <= 2
def dealM (ns np : Nat) (rules : List RD) (v0 : List Int) : MD := { kind := 1, states := statesL.take ns, places := placesL.take np, rules := rules, start := cfgC 0 v0 }
structure DealM (ns np : Nat) (rules : List RD) (v0 : List Int) : Prop where
 hns : 1 <= ns /\ ns <= 2
 hnp : 1 <= np /\ np <= 2
 len : 1 <= rules.length /\ rules.length <= 3
 names : rules.map RD.name = ruleNames.take rules.length
 rules : ∀ r ∈ rules, DealR ns np r
 start : v0.length = np /\ ∀ x ∈ v0, 0 <= x /\ x <= 3
theorem con_counter (l : List Int) (at_ : Nat) (hs : Seeds l) (ha : at_ <= l.length) :
  Con Tryz.prog 9 [.pb 0 0, vb false] [diceA l at_]
  fun r b => ∃ (ns np : Nat) (rules : List RD) (v0 : List Int) (at' : Nat), DealM ns np rules v0 /\ at' <= l.length /\ b = [diceA l at'] /\ r = .ag [vi 1, .sl 2 1 ((statesL.take ns).map vStr), .sl 3 1 ((placesL.take np).map vStr), .nil, .nil, vi 0, vi 0, .sl 4 14 (rules.map ruleN), vi 0, .sl 5 2 (((0 : Int) :: v0).map kidN)] := by
 refine Con.intro Tryz.func9 rfl Tryz.ntmps9 Tryz.results9 (by kernel_rfl) (by simp) 1 (by simp) ?_
 have hp1 := pickA_le ha
 simp only [go_sem]
 refine DrawK.news0 [(11, 2)] [10] [(10, 14), (10, 20), (15, 19), (15, 20)] 0 [2, 7] [] 12 (.one 12 .done) none (diceA l at_) mixed (by kernel_rfl) (by kernel_rfl) (by kernel_rfl) (by simp only [go_sem]) (by simp only [go_sem]) ⟨by simp only [go_sem], by simp only [go_sem]⟩ ⟨by simp only [go_sem], by simp only [go_sem]⟩ ?_
 simp only [go_sem]
 refine EffK.mk (con_pickF l at_ 2 hs ha (by omega)) (by simp only [go_sem]) (by simp only [go_sem]) (by simp only [go_sem]) (by simp only [go_sem]) ?_
 obtain ⟨ns, ens, hns1, hns2⟩ : ∃ ns : Nat, 1 + pickV l at_ 2 = ns /\ 1 <= ns /\ ns <= 2 := by
  have := pickV_lt (l := l) (at_ := at_) (show (1 : Int) <= 2 by omega)
  exact ⟨(1 + pickV l at_ 2).toNat, by omega, by omega, by omega⟩
 obtain ⟨np, enp, hnp1, hnp2⟩ : ∃ np : Nat, 1 + pickV l (pickA l at_) 2 = np /\ 1 <= np /\ np <= 2 := by
  have := pickV_lt (l := l) (at_ := pickA l at_) (show (1 : Int) <= 2 by omega)
  exact ⟨(1 + pickV l (pickA l at_) 2).toNat, by omega, by omega, by omega⟩
 have hw1 : IntKind.i64.wrap (1 + pickV l at_ 2) = ns := by rw [wrap_in (by omega) (by omega), ens]
 have hw2 : IntKind.i64.wrap (1 + pickV l (pickA l at_) 2) = np := by rw [wrap_in (by omega) (by omega), enp]
 simp only [go_sem, hw1, hns2]
 refine EffK.mk (con_pickF l (pickA l at_) 2 hs hp1 (by omega)) (by simp only [go_sem]) (by simp only [go_sem]) (by simp only [go_sem]) (by simp only [go_sem]) ?_
 have hp2 := pickA_le hp1
 have hrep : List.replicate 10 AV.any = [.any, .any, .any, .any, .any, .any, .any, .any, .any, .any] := rfl
 have est : List.take ns [AV.sc (Value.string { data := #[97] }), AV.sc (Value.string { data := #[98] })] = (statesL.take ns).map vStr := by rw [List.map_take]; rfl
 have epl : List.take np [AV.sc (Value.string { data := #[120] }), AV.sc (Value.string { data := #[121] })] = (placesL.take np).map vStr := by rw [List.map_take]; rfl
 have lst : (statesL.take ns).length = ns := by rw [List.length_take]; simp only [statesL, List.length_cons, List.length_nil]; omega
 have lpl : (placesL.take np).length = np := by rw [List.length_take]; simp only [placesL, List.length_cons, List.length_nil]; omega
 simp only [go_sem, hw2, hnp2, hrep, est, epl, lpl]
 refine ⟨?_, trivial⟩
 refine LoopK.intro (fun p : List RD × Nat => ⟨85, [(0, .pb 0 0), (1, vb false), (4, .pb 1 0), (5, .pb 2 0), (6, vi np), (7, vi p.1.length)], [diceA l p.2, [.any, .any, .any, .any, .any, .any, .any, .any, .any, .any], [vi 1, .sl 704 1 ((statesL.take ns).map vStr), .sl 1024 1 ((placesL.take np).map vStr), .nil, .nil, vi 0, vi 0, .sl 4992 14 (p.1.map ruleN), vi 0, .nil]] ++ Rk 14 p.1.length⟩)
  (fun p => 3 - p.1.length) (fun p => p.1.length <= 3 /\ p.1.map RD.name = ruleNames.take p.1.length /\ (∀ r ∈ p.1, DealR ns np r) /\ p.2 <= l.length) ([], pickA l (pickA l at_)) ⟨by simp, rfl, by simp, hp2⟩ ?_ ?_
 ·simp only [go_sem, List.length_nil, Rk, List.replicate_zero, List.append_nil, List.map_nil]
 rintro ⟨rules, at1⟩ ⟨h1, h2, h3, h4⟩
 simp only at h1 h2 h3 h4
 have hpk := pickV_lt (l := l) (at_ := at1) (show (1 : Int) <= 3 by omega)
 obtain ⟨k, ek, hk1, hk2⟩ : ∃ k : Nat, 1 + pickV l at1 3 = k /\ 1 <= k /\ k <= 3 := ⟨(1 + pickV l at1 3).toNat, by omega, by omega, by omega⟩
 have hw3 : IntKind.i64.wrap (1 + pickV l at1 3) = k := by rw [wrap_in (by omega) (by omega), ek]
 simp only [go_sem, List.cons_append, List.nil_append]
 refine CallU.boxes (i := 0) (is := []) (bx0 := [diceA l at1]) (con_pickF l at1 3 hs h4 (by omega)) (by simp only [go_sem]) (by simp only [go_sem]) (by simp only [go_sem]) (by simp only [go_sem]) (by simp only [go_sem]) ?_
 rintro r b ⟨rfl, rfl⟩
 have h5 := pickA_le h4
 generalize pickA l at1 = at2 at h5
 by_cases h : rules.length < k
 ·simp only [go_sem, hw3, h]
  obtain ⟨i, hi⟩ : ∃ i, i = rules.length := ⟨_, rfl⟩
  rw [<- hi]
  have : i = 0 \/ i = 1 \/ i = 2 := by omega
  have hp3 := pickA_le h5
  have hp4 := pickA_le hp3
  have hp5 := rollA_le hp4 np
  have hs1 := rollS_lt (l := l) (at_ := at2) hns1
  have hs2 := rollS_lt (l := l) (at_ := pickA l at2) hns1
  have e1 := con_intsF l (pickA l (pickA l at2)) np 2 hs hp4 (by omega) (by omega)
  have e2 := con_intsF l (rollA l (pickA l (pickA l at2)) np) np 2 hs hp5 (by omega) (by omega)
  have hrep : List.replicate 14 AV.any = [.any, .any, .any, .any, .any, .any, .any, .any, .any, .any, .any, .any, .any, .any] := rfl
  rcases this with rfl | rfl | rfl
  ·have hr : DealR ns np (bareR ruleNames[0]! (rollS l at2 ns) (rollS l (pickA l at2) ns) (rollV l (pickA l (pickA l at2)) 2 np) (rollV l (rollA l (pickA l (pickA l at2)) np) 2 np) []) :=
    ⟨rfl, ⟨by show (0 : Int) <= (rollS l at2 ns : Int); omega, by show (rollS l at2 ns : Int) < ns; omega⟩, ⟨by show (0 : Int) <= (rollS l (pickA l at2) ns : Int); omega, by show (rollS l (pickA l at2) ns : Int) < ns; omega⟩, ⟨rollV_len np, rollV_low (by omega) np⟩, ⟨rollV_len np, rollV_low (by omega) np⟩⟩
   have hln : (rules ++ [bareR ruleNames[0]! (rollS l at2 ns) (rollS l (pickA l at2) ns) (rollV l (pickA l (pickA l at2)) 2 np) (rollV l (rollA l (pickA l (pickA l at2)) np) 2 np) []]).length = 1 := by rw [List.length_append, <- hi]; rfl
   have hnm : ruleNames[0]! = ⟨#[114]⟩ := rfl
   simp only [Rk, List.replicate]
   refine DrawK.news0 [(21, 3)] [14] [(31, 33)] 0 [8, 13, 16, 19] [] 22 (.one 22 .done) none (diceA l at2) mixed (by kernel_rfl) (by kernel_rfl) (by kernel_rfl) (by simp only [go_sem]) (by simp only [go_sem]) ⟨by simp only [go_sem], by simp only [go_sem]⟩ ⟨by simp only [go_sem], by simp only [go_sem]⟩ ?_
   simp only [go_sem, List.length_map, lst]
   refine EffK.mk (con_pickF l at2 ns hs h5 (by omega)) (by simp only [go_sem]) (by simp only [go_sem]) (by simp only [go_sem]) (by simp only [go_sem]) ?_
   simp only [go_sem, List.length_map, lst, hs1.2]
   refine EffK.mk (con_pickF l (pickA l at2) ns hs hp3 (by omega)) (by simp only [go_sem]) (by simp only [go_sem]) (by simp only [go_sem]) (by simp only [go_sem]) ?_
   simp only [go_sem, hs2.2]
   refine EffK.mk e1 (by simp only [go_sem]) (by simp only [go_sem]) (by simp only [go_sem]) (by simp only [go_sem]) ?_
   simp only [go_sem]
   refine EffK.mk e2 (by simp only [go_sem]) (by simp only [go_sem]) (by simp only [go_sem]) (by simp only [go_sem]) ?_
   simp only [go_sem, hrep, <- hi]
   refine ⟨⟨by unfold roomFor; omega, ?_⟩, trivial⟩
   refine roundK.intro (rules ++ [bareR ruleNames[0]! (rollS l at2 ns) (rollS l (pickA l at2) ns) (rollV l (pickA l (pickA l at2)) 2 np) (rollV l (rollA l (pickA l (pickA l at2)) np) 2 np) []], rollA l (rollA l (pickA l (pickA l at2)) np) np) ⟨by rw [hln]; omega, ?_, fun x hx => ?_, rollA_le hp5 np⟩ (by show 3 - (rules ++ [_]).length < 3 - rules.length; rw [hln]; omega) ?_
   ·rw [hln, List.map_append, h2, <- hi]; rfl
   ·rcases List.mem_append.1 hx with hx | hx
    ·exact h3 x hx
    ·rw [List.mem_singleton] at hx; subst hx; exact hr
   ·simp only [go_sem, hln, List.replicate, List.map_append, List.map_cons, List.map_nil]
    exact ⟨leV_int rfl, by rw [hnm]; exact leV_refl _⟩
  ·have hr : DealR ns np (bareR ruleNames[1]! (rollS l at2 ns) (rollS l (pickA l at2) ns) (rollV l (pickA l (pickA l at2)) 2 np) (rollV l (rollA l (pickA l (pickA l at2)) np) 2 np) []) :=
    ⟨rfl, ⟨by show (0 : Int) <= (rollS l at2 ns : Int); omega, by show (rollS l at2 ns : Int) < ns; omega⟩, ⟨by show (0 : Int) <= (rollS l (pickA l at2) ns : Int); omega, by show (rollS l (pickA l at2) ns : Int) < ns; omega⟩, ⟨rollV_len np, rollV_low (by omega) np⟩, ⟨rollV_len np, rollV_low (by omega) np⟩⟩
   have hln : (rules ++ [bareR ruleNames[1]! (rollS l at2 ns) (rollS l (pickA l at2) ns) (rollV l (pickA l (pickA l at2)) 2 np) (rollV l (rollA l (pickA l (pickA l at2)) np) 2 np) []]).length = 2 := by rw [List.length_append, <- hi]; rfl
   have hnm : ruleNames[1]! = ⟨#[115]⟩ := rfl
   simp only [Rk, List.replicate]
   refine DrawK.news0 [(21, 4)] [14] [(31, 33)] 0 [8, 13, 16, 19] [] 22 (.one 22 .done) none (diceA l at2) mixed (by kernel_rfl) (by kernel_rfl) (by kernel_rfl) (by simp only [go_sem]) (by simp only [go_sem]) ⟨by simp only [go_sem], by simp only [go_sem]⟩ ⟨by simp only [go_sem], by simp only [go_sem]⟩ ?_
   simp only [go_sem, List.length_map, lst]
   refine EffK.mk (con_pickF l at2 ns hs h5 (by omega)) (by simp only [go_sem]) (by simp only [go_sem]) (by simp only [go_sem]) (by simp only [go_sem]) ?_
   simp only [go_sem, List.length_map, lst, hs1.2]
   refine EffK.mk (con_pickF l (pickA l at2) ns hs hp3 (by omega)) (by simp only [go_sem]) (by simp only [go_sem]) (by simp only [go_sem]) (by simp only [go_sem]) ?_
   simp only [go_sem, hs2.2]
   refine EffK.mk e1 (by simp only [go_sem]) (by simp only [go_sem]) (by simp only [go_sem]) (by simp only [go_sem]) ?_
   simp only [go_sem]
   refine EffK.mk e2 (by simp only [go_sem]) (by simp only [go_sem]) (by simp only [go_sem]) (by simp only [go_sem]) ?_
   simp only [go_sem, hrep, <- hi]
   refine ⟨⟨by unfold roomFor; omega, ?_⟩, trivial⟩
   refine roundK.intro (rules ++ [bareR ruleNames[1]! (rollS l at2 ns) (rollS l (pickA l at2) ns) (rollV l (pickA l (pickA l at2)) 2 np) (rollV l (rollA l (pickA l (pickA l at2)) np) 2 np) []], rollA l (rollA l (pickA l (pickA l at2)) np) np) ⟨by rw [hln]; omega, ?_, fun x hx => ?_, rollA_le hp5 np⟩ (by show 3 - (rules ++ [_]).length < 3 - rules.length; rw [hln]; omega) ?_
   ·rw [hln, List.map_append, h2, <- hi]; rfl
   ·rcases List.mem_append.1 hx with hx | hx
    ·exact h3 x hx
    ·rw [List.mem_singleton] at hx; subst hx; exact hr
   ·simp only [go_sem, hln, List.replicate, List.map_append, List.map_cons, List.map_nil]
    exact ⟨leV_int rfl, by rw [hnm]; exact leV_refl _⟩
  ·have hr : DealR ns np (bareR ruleNames[2]! (rollS l at2 ns) (rollS l (pickA l at2) ns) (rollV l (pickA l (pickA l at2)) 2 np) (rollV l (rollA l (pickA l (pickA l at2)) np) 2 np) []) :=
    ⟨rfl, ⟨by show (0 : Int) <= (rollS l at2 ns : Int); omega, by show (rollS l at2 ns : Int) < ns; omega⟩, ⟨by show (0 : Int) <= (rollS l (pickA l at2) ns : Int); omega, by show (rollS l (pickA l at2) ns : Int) < ns; omega⟩, ⟨rollV_len np, rollV_low (by omega) np⟩, ⟨rollV_len np, rollV_low (by omega) np⟩⟩
   have hln : (rules ++ [bareR ruleNames[2]! (rollS l at2 ns) (rollS l (pickA l at2) ns) (rollV l (pickA l (pickA l at2)) 2 np) (rollV l (rollA l (pickA l (pickA l at2)) np) 2 np) []]).length = 3 := by rw [List.length_append, <- hi]; rfl
   have hnm : ruleNames[2]! = ⟨#[116]⟩ := rfl
   simp only [Rk, List.replicate]
   refine DrawK.news0 [(21, 5)] [14] [(31, 33)] 0 [8, 13, 16, 19] [] 22 (.one 22 .done) none (diceA l at2) mixed (by kernel_rfl) (by kernel_rfl) (by kernel_rfl) (by simp only [go_sem]) (by simp only [go_sem]) ⟨by simp only [go_sem], by simp only [go_sem]⟩ ⟨by simp only [go_sem], by simp only [go_sem]⟩ ?_
   simp only [go_sem, List.length_map, lst]
   refine EffK.mk (con_pickF l at2 ns hs h5 (by omega)) (by simp only [go_sem]) (by simp only [go_sem]) (by simp only [go_sem]) (by simp only [go_sem]) ?_
   simp only [go_sem, List.length_map, lst, hs1.2]
   refine EffK.mk (con_pickF l (pickA l at2) ns hs hp3 (by omega)) (by simp only [go_sem]) (by simp only [go_sem]) (by simp only [go_sem]) (by simp only [go_sem]) ?_
   simp only [go_sem, hs2.2]
   refine EffK.mk e1 (by simp only [go_sem]) (by simp only [go_sem]) (by simp only [go_sem]) (by simp only [go_sem]) ?_
   simp only [go_sem]
   refine EffK.mk e2 (by simp only [go_sem]) (by simp only [go_sem]) (by simp only [go_sem]) (by simp only [go_sem]) ?_
   simp only [go_sem, hrep, <- hi]
   refine ⟨⟨by unfold roomFor; omega, ?_⟩, trivial⟩
   refine roundK.intro (rules ++ [bareR ruleNames[2]! (rollS l at2 ns) (rollS l (pickA l at2) ns) (rollV l (pickA l (pickA l at2)) 2 np) (rollV l (rollA l (pickA l (pickA l at2)) np) 2 np) []], rollA l (rollA l (pickA l (pickA l at2)) np) np) ⟨by rw [hln]; omega, ?_, fun x hx => ?_, rollA_le hp5 np⟩ (by show 3 - (rules ++ [_]).length < 3 - rules.length; rw [hln]; omega) ?_
   ·rw [hln, List.map_append, h2, <- hi]; rfl
   ·rcases List.mem_append.1 hx with hx | hx
    ·exact h3 x hx
    ·rw [List.mem_singleton] at hx; subst hx; exact hr
   ·simp only [go_sem, hln, List.replicate, List.map_append, List.map_cons, List.map_nil]
    exact ⟨leV_int rfl, by rw [hnm]; exact leV_refl _⟩
 ·simp only [go_sem, hw3, h]
  refine CallU.boxes (i := 0) (is := []) (bx0 := [diceA l at2]) (con_intsF l at2 np 3 hs h5 (by omega) (by omega)) (by simp only [go_sem]) (by simp only [go_sem]) (by simp only [go_sem]) (by simp only [go_sem]) (by simp only [go_sem]) ?_
  rintro r b ⟨rfl, rfl⟩
  simp only [go_sem]
  have hcf : Con Tryz.prog 25 [vi 0, vs 0 (rollV l at2 3 np)] [] fun r _ => r = cfgN 2 0 (rollV l at2 3 np) := con_config28 0 (rollV l at2 3 np) (by rw [rollV_len]; omega)
  refine CallU.free hcf (by simp only [go_sem]) (by simp only [go_sem]) ?_
  rintro r b rfl
  simp only [go_sem]
  have hge : 1 <= rules.length := by omega
  exact ⟨ns, np, rules, rollV l at2 3 np, rollA l at2 np, ⟨⟨hns1, hns2⟩, ⟨hnp1, hnp2⟩, ⟨hge, h1⟩, h2, h3, ⟨rollV_len np, rollV_low (by omega) np⟩⟩, rollA_le h5 np, rfl, rfl⟩
theorem deal_names {ns np k : Nat} (h1 : 1 <= ns /\ ns <= 2) (h2 : 1 <= np /\ np <= 2) (h3 : 1 <= k /\ k <= 3) : namesB (statesL.take ns ++ placesL.take np ++ [] ++ ruleNames.take k) = true := by
 obtain rfl | rfl : ns = 1 \/ ns = 2 := by omega
 all_goals obtain rfl | rfl : np = 1 \/ np = 2 := by omega
 all_goals obtain rfl | rfl | rfl : k = 1 \/ k = 2 \/ k = 3 := by omega
 all_goals decide +kernel
theorem states_len {ns : Nat} (h : ns <= 2) : (statesL.take ns).length = ns := by rw [List.length_take]; simp only [statesL, List.length_cons, List.length_nil]; omega
theorem places_len {np : Nat} (h : np <= 2) : (placesL.take np).length = np := by rw [List.length_take]; simp only [placesL, List.length_cons, List.length_nil]; omega
theorem deal_rule {ns np : Nat} {r : RD} (h : DealR ns np r) : ruleB ns np r = true /\ bareB r = true /\ stillB r = true := by
 have h0 := h.thin
 unfold ThinR at h0
 have hmv : r.move = [] := by rw [h0]
 refine ⟨?_, by rw [h0]; rfl, by rw [h0]; rfl⟩
 unfold ruleB changesB movesB smallB indexB betweenB
 rw [hmv]
 simp only [Bool.and_eq_true, decide_eq_true_eq, List.all_eq_true, Bool.or_eq_true]
 have hs := h.src; have hd := h.dst
 refine ⟨⟨⟨⟨hd.1, hd.2⟩, ⟨hs.1, hs.2⟩⟩, ⟨⟨⟨h.need.1, h.give.1⟩, fun x hx => ?_⟩, fun x hx => ?_⟩⟩, .inl rfl⟩
 ·have := h.need.2 x hx; omega
 ·have := h.give.2 x hx; omega
theorem deal_conf {ns np : Nat} {rules : List RD} {v0 : List Int} (h : DealM ns np rules v0) {s : Nat} {v : List Int} (hs : s < ns) (hl : v.length = np) (hv : ∀ x ∈ v, 0 <= x /\ x <= 1048576) : GoodC (dealM ns np rules v0) s v :=
 ⟨by show s < (statesL.take ns).length; rw [states_len h.hns.2]; exact hs, by show v.length = (placesL.take np).length; rw [places_len h.hnp.2]; exact hl, hv⟩
theorem deal_plain {ns np : Nat} {rules : List RD} {v0 : List Int} (h : DealM ns np rules v0) : PlainM (dealM ns np rules v0) 0 v0 := by
 have l1 : (dealM ns np rules v0).states.length = ns := states_len h.hns.2
 have l2 : (dealM ns np rules v0).places.length = np := places_len h.hnp.2
 have h1 := h.hns; have h2 := h.hnp; have h3 := h.len
 have hc : GoodC (dealM ns np rules v0) 0 v0 := deal_conf h (by omega) h.start.1 fun x hx => by have := h.start.2 x hx; omega
 refine ⟨⟨rfl, by rw [l1]; omega, by rw [l2]; omega, by show rules.length <= 12; omega, rfl, rfl, rfl, rfl, ?_, fun r hr => ?_, ?_⟩, ?_, rfl, hc⟩
 ·show namesB (statesL.take ns ++ placesL.take np ++ [] ++ rules.map RD.name) = true
  rw [h.names]; exact deal_names h1 h2 h3
 ·rw [l1, l2]
  have := deal_rule (h.rules r hr)
  exact ⟨this.1, this.2.1⟩
 ·exact hc.conf
 ·show rules.all stillB = true
  rw [List.all_eq_true]
  exact fun r hr => (deal_rule (h.rules r hr)).2.2
theorem deal_thin {ns np : Nat} {rules : List RD} {v0 : List Int} (h : DealM ns np rules v0) : ∀ r ∈ (dealM ns np rules v0).rules, ThinR r := fun r hr => (h.rules r hr).thin
theorem con_Counter (l : List Int) (at_ : Nat) (hs : Seeds l) (ha : at_ <= l.length) :
  Con Tryz.prog 9 [.pb 0 0, vb false] [diceA l at_]
  fun r b => ∃ (ns np : Nat) (rules : List RD) (v0 : List Int) (at' : Nat), DealM ns np rules v0 /\ at' <= l.length /\ b = [diceA l at'] /\ r = vM (dealM ns np rules v0) :=
 ((con_counter l at_ hs ha).freezeB fun _ => true).weak fun r b ⟨r1, b1, ⟨ns, np, rules, v0, at1, hd, h1, h2, h3⟩, h4, h5⟩ => by
  subst h2; subst h3; subst h4; subst h5
  exact ⟨_, ⟨ns, np, rules, v0, at1, hd, h1, rfl, rfl⟩, model_le (m := dealM ns np rules v0) (deal_plain hd).good (deal_thin hd) rfl⟩
def vStep (x : StD) : AV := .ag [vi x.rule, vi 0, .sl 0 2 ((cfgC x.state x.v).kids.map vV)]
attribute [go_sem] vStep
theorem step_pw : ∀ l : List StD, PW Sub (flat (l.map vSt)) (flat (l.map vStep))
 | [] => PW.nil _
 | x :: l => by
  rw [List.map_cons, List.map_cons, flat_cons, flat_cons]
  refine PW.append ?_ (step_pw l)
  have e : Sub (.sl 0 2 (((x.state : Int) :: x.v).map kidN)) (.sl 0 2 ((((x.state : Int) :: x.v).map fun n => CV.mk n []).map vV)) :=
   Sub.slE (by simp) (fun y hy => by
    obtain ⟨x, _, rfl⟩ := List.mem_map.1 hy
    rw [vV_eq]; rfl) (kids_pw _)
  exact PW.cons (Sub.refl _) (PW.cons (Sub.refl _) (PW.cons e (PW.nil _)))
theorem con_rAllV (m : MD) (s : Nat) (v : List Int) (h : GoodM m) (hst : m.rules.all stillB = true) (hc : GoodC m s v) (hb : ∀ x ∈ v, x <= 1000000) : Con Tryz.prog 41 [vM m, vV (cfgC s v)] [] fun x _ => x = .tup [.sl 0 3 ((stepsF m.rules s v m.rules.length).map vStep), vi 0] :=
 ((con_rAll m s v h hst hc hb).freezeR fun _ => true).weak fun r b ⟨r1, h3, h5⟩ => by
  subst h3; subst h5
  refine ⟨_, rfl, leV_tup ⟨leV_slE (by simp) (fun y hy => ?_) (step_pw _), leV_refl _, trivial⟩⟩
  obtain ⟨x, _, rfl⟩ := List.mem_map.1 hy
  rfl
theorem steps_mem {rules : List RD} {s : Nat} {v : List Int} {x : StD} : ∀ n, x ∈ stepsF rules s v n -> ∃ i, i < n /\ enF rules[i]! s v = true /\ x = ⟨i, rules[i]!.dst.toNat, fireF rules[i]! v⟩
 | 0, h => by cases h
 | n + 1, h => by
  unfold stepsF at h
  split at h
  ·rename_i he
   rcases List.mem_append.1 h with h | h
   ·obtain ⟨i, h1, h2⟩ := steps_mem n h
    exact ⟨i, by omega, h2⟩
   ·rw [List.mem_singleton] at h
    exact ⟨n, by omega, he, h⟩
  ·obtain ⟨i, h1, h2⟩ := steps_mem n h
   exact ⟨i, by omega, h2⟩
inductive RunM (rules : List RD) (s0 : Nat) (v0 : List Int) : Nat -> List Int -> List StD -> Prop
 | nil : RunM rules s0 v0 s0 v0 []
 | step {s : Nat} {v : List Int} {l : List StD} (i : Nat) : RunM rules s0 v0 s v l -> i < rules.length -> enF rules[i]! s v = true -> RunM rules s0 v0 rules[i]!.dst.toNat (fireF rules[i]! v) (l ++ [⟨i, rules[i]!.dst.toNat, fireF rules[i]! v⟩])
theorem en_needs {r : RD} {s : Nat} {v : List Int} (h : enF r s v = true) : (s : Int) = r.src /\ ∀ i, i < r.need.length -> r.need[i]! <= v[i]! := by
 unfold enF at h
 rw [Bool.and_eq_true, beq_iff_eq, List.all_eq_true] at h
 exact ⟨h.1, fun i hi => by simpa using h.2 i (List.mem_range.2 hi)⟩
theorem mem_bang_of {l : List Int} {x : Int} (h : x ∈ l) : ∃ i, i < l.length /\ l[i]! = x := by
 obtain ⟨i, hi, e⟩ := List.mem_iff_getElem.1 h
 exact ⟨i, hi, by rw [getElem!_pos l i hi, e]⟩
theorem fire_good {m : MD} {i s : Nat} {v : List Int} {B : Int} (h : GoodM m) (hi : i < m.rules.length) (hc : GoodC m s v) (he : enF m.rules[i]! s v = true) (hb : ∀ x ∈ v, x <= B) (hB : B <= 1000000) :
  GoodC m m.rules[i]!.dst.toNat (fireF m.rules[i]! v) /\ ∀ x ∈ fireF m.rules[i]! v, x <= B + 16 := by
 have hr := h.rules _ (mem_bangI hi)
 have hf := rule_fine hr.1
 have h3 := hr.1
 unfold ruleB changesB smallB betweenB at h3
 simp only [Bool.and_eq_true, decide_eq_true_eq, List.all_eq_true] at h3
 have hgv := h3.1.2.2
 have hnd := h3.1.2.1.2
 obtain ⟨r1, r2, r3, r4, r5, r6⟩ := hf.right
 have hl := hc.len
 have hn := (en_needs he).2
 generalize m.rules[i]! = r at *
 have key : ∀ x ∈ fireF r v, 0 <= x /\ x <= B + 16 := fun x hx => by
  obtain ⟨j, hj, rfl⟩ := mem_bang_of hx
  have hlen : (fireF r v).length = v.length := fireL_len (by omega) (by omega)
  rw [hlen] at hj
  have e : (fireF r v)[j]! = v[j]! - r.need[j]! + r.give[j]! := fireL_at (by omega) (by omega) hj
  have h1 := hn j (by omega)
  have h2 := hb _ (mem_bangI hj)
  have h3 := hgv _ (mem_bangI (show j < r.give.length by omega))
  have h4 := hnd _ (mem_bangI (show j < r.need.length by omega))
  rw [e]; omega
 refine ⟨⟨by omega, ?_, fun x hx => ?_⟩, fun x hx => (key x hx).2⟩
 ·rw [<- hl]; exact fireL_len (by omega) (by omega)
 ·have := key x hx; omega
theorem run_good {m : MD} {s0 : Nat} {v0 : List Int} {B : Int} (h : GoodM m) (hc0 : GoodC m s0 v0) (hb0 : ∀ x ∈ v0, x <= B) {s : Nat} {v : List Int} {l : List StD} (hr : RunM m.rules s0 v0 s v l) (hB : B + 16 * l.length <= 1000000) :
  GoodC m s v /\ (∀ x ∈ v, x <= B + 16 * l.length) /\ ∀ x ∈ l, GoodC m x.state x.v := by
 induction hr with
 | nil => exact ⟨hc0, fun x hx => by have := hb0 x hx; simp only [List.length_nil]; omega, fun x hx => by cases hx⟩
 | step i hr hi he ih =>
  rw [List.length_append, List.length_singleton] at hB ⊢
  obtain ⟨h1, h2, h3⟩ := ih (by omega)
  obtain ⟨h4, h5⟩ := fire_good h hi h1 he h2 (by omega)
  refine ⟨h4, fun x hx => by have := h5 x hx; omega, fun x hx => ?_⟩
  rcases List.mem_append.1 hx with hx | hx
  ·exact h3 x hx
  ·rw [List.mem_singleton] at hx; subst hx; exact h4
def nearTree : Tr := .front 0 (.front 2 (.alt (.one 1 (.one 3 (.one 4 (.one 5 (.one 6 (.one 7 .done)))))) (.one 3 (.alt (.one 1 (.one 4 (.one 5 (.one 6 (.one 7 .done))))) (.one 4 (.alt (.one 1 (.one 5 (.one 6 (.one 7 .done)))) (.one 5 (.one 1 (.one 6 (.one 7 .done))))))))))
theorem con_near (l : List Int) (at_ : Nat) (m : MD) (s0 : Nat) (v0 : List Int) (most : Nat) (hs : Seeds l) (ha : at_ <= l.length) (hP : PlainM m s0 v0) (hv0 : ∀ x ∈ v0, x <= 900000) (hm : most <= 100) :
  Con Tryz.prog 14 [.pb 0 0, vM m, vi most] [diceA l at_]
  fun r b => ∃ s v run at', RunM m.rules s0 v0 s v run /\ run.length <= most /\ at' <= l.length /\ b = [diceA l at'] /\ r = .tup [vV (cfgC s v), .sl 2 3 (run.map vStep)] := by
 refine Con.intro Tryz.func14 rfl Tryz.ntmps14 Tryz.results14 (by kernel_rfl) (by simp) 1 (by simp) ?_
 have hp1 := pickA_le ha
 have hw1 : IntKind.i64.wrap ((most : Int) + 1) = (most : Int) + 1 := wrap_in (by omega) (by omega)
 have est := hP.start
 obtain ⟨N, eN, hN⟩ : ∃ N : Nat, pickV l at_ ((most : Int) + 1) = N /\ N <= most := by
  have := pickV_lt (l := l) (at_ := at_) (n := (most : Int) + 1) (by omega)
  exact ⟨(pickV l at_ ((most : Int) + 1)).toNat, by omega, by omega⟩
 simp only [go_sem, vM, cM, vss, hw1]
 refine CallU.boxes (i := 0) (is := []) (bx0 := [diceA l at_]) (con_pickF l at_ ((most : Int) + 1) hs ha (by omega)) (by simp only [go_sem]) (by simp only [go_sem]) (by simp only [go_sem]) (by simp only [go_sem]) (by simp only [go_sem]) ?_
 rintro r b ⟨rfl, rfl⟩
 simp only [go_sem, eN]
 generalize pickA l at_ = at1 at hp1
 refine LoopK.intro (fun p : List StD × Nat × List Int × Nat => ⟨52, [(0, .pb 0 0), (4, .pb 1 0), (6, .pb 2 0), (8, .pb 3 0), (9, .sl 3200 3 (p.1.map vStep)), (10, vi ((N : Int) - p.1.length))], [diceA l p.2.2.2, cM m, [.any, .any], [vi (cfgC p.2.1 p.2.2.1).n, .sl 0 2 ((cfgC p.2.1 p.2.2.1).kids.map vV)]] ++ Rk 3 p.1.length⟩)
  (fun p => N - p.1.length) (fun p => p.1.length <= N /\ RunM m.rules s0 v0 p.2.1 p.2.2.1 p.1 /\ p.2.2.2 <= l.length) ([], s0, v0, at1) ⟨by simp, .nil, hp1⟩ ?_ ?_
 ·simp only [go_sem, List.length_nil, Rk, List.replicate_zero, List.append_nil, List.map_nil, cM, vss, est]
  all_goals exact leV_int (by omega)
 rintro ⟨run, s, v, at2⟩ ⟨h1, h2, h3⟩
 simp only at h1 h2 h3
 have hk := run_good hP.good hP.conf hv0 h2 (by omega)
 have e0 := vV_eq (cfgC s v)
 have en : (cfgC s v).n = 0 := rfl
 by_cases h : (0 : Int) < (N : Int) - run.length
 case neg =>
  simp only [go_sem, cM, vss, h]
  exact ⟨s, v, run, at2, h2, by omega, h3, rfl, by rw [e0]; rfl⟩
 have hA := con_rAllV m s v hP.good hP.still hk.1 (fun x hx => by have := hk.2.1 x hx; omega)
 rw [e0] at hA
 have hsl := steps_len m.rules s v m.rules.length
 have hmem := fun x => steps_mem (rules := m.rules) (s := s) (v := v) (x := x) m.rules.length
 have hfew := hP.good.few
 generalize stepsF m.rules s v m.rules.length = L at hA hsl hmem
 simp only [go_sem, cM, vss, h]
 refine CallU.free hA (by simp only [go_sem]) (by simp only [go_sem, vM, cM, vss]) ?_
 rintro x bx rfl
 simp only [go_sem, List.length_map]
 by_cases hL : L.length = 0
 ·have hL' : ((L.length : Int) == 0) = true := by rw [hL]; rfl
  simp only [go_sem, hL']
  exact ⟨s, v, run, at2, h2, by omega, h3, rfl, by rw [e0]; rfl⟩
 have hL' : ((L.length : Int) == 0) = false := beq_eq_false_iff_ne.2 (by omega)
 have hpk := pickV_lt (l := l) (at_ := at2) (n := (L.length : Int)) (by omega)
 obtain ⟨k, ek, hk2⟩ : ∃ k : Nat, pickV l at2 (L.length : Int) = k /\ k < L.length := ⟨(pickV l at2 (L.length : Int)).toNat, by omega, by omega⟩
 simp only [go_sem, hL']
 refine CallU.boxes (i := 0) (is := []) (bx0 := [diceA l at2]) (con_pickF l at2 (L.length : Int) hs h3 (by omega)) (by simp only [go_sem]) (by simp only [go_sem]) (by simp only [go_sem]) (by simp only [go_sem]) (by simp only [go_sem]) ?_
 rintro r b ⟨rfl, rfl⟩
 obtain ⟨i, hi, he, hx⟩ := hmem L[k] (List.getElem_mem hk2)
 have hg : (L.map vStep)[k]? = some (vStep L[k]) := by rw [List.getElem?_map, List.getElem?_eq_getElem hk2]; rfl
 have ra : ∀ L : List (List AV), (Rk 3 run.length ++ L)[(Rk 3 run.length).length]? = L[0]? := fun L => app_at0 rfl
 have rs : ∀ (L : List (List AV)) z, (Rk 3 run.length ++ L).set (Rk 3 run.length).length z = Rk 3 run.length ++ L.set 0 z := fun L z => app_set0 rfl
 rw [hx] at hg
 simp only [go_sem, ek, hk2, hg, ra, rs]
 have hln : (run ++ [(⟨i, m.rules[i]!.dst.toNat, fireF m.rules[i]! v⟩ : StD)]).length = run.length + 1 := by rw [List.length_append]; rfl
 have hw2 : IntKind.i64.wrap ((N : Int) - run.length - 1) = (N : Int) - (run.length + 1 : Nat) := by rw [wrap_in (by omega) (by omega)]; omega
 have hro : roomFor (run.length + 1) 40 := by simp only [roomFor]; omega
 have en2 : ∀ s v, (cfgC s v).n = 0 := fun _ _ => rfl
 refine DrawK.meet ⟨52, [(0, .pb 0 0), (4, .pb 1 0), (6, .pb 2 0), (8, .pb 3 0), (9, .sl 3200 3 ((run ++ [(⟨i, m.rules[i]!.dst.toNat, fireF m.rules[i]! v⟩ : StD)]).map vStep)), (10, vi ((N : Int) - run.length))], [diceA l (pickA l at2), cM m, [.any, .any], [vi 0, .sl 0 2 ((cfgC m.rules[i]!.dst.toNat (fireF m.rules[i]! v)).kids.map vV)]] ++ Rk 3 (run.length + 1)⟩ ?_ ?_
 ·refine DrawK.tree nearTree mixed (by kernel_rfl) ?_
  unfold nearTree
  repeat' (first | with_reducible apply andK_mk | simp only [go_sem, cM, vss, ra, hro, Rk_succ, List.map_append, List.map_cons, List.map_nil])
  all_goals exact leB_RkA (x := [[_, _, _]]) ⟨⟨leV_any _, leV_any _, leV_any _, trivial⟩, trivial⟩
 ·simp only [go_sem, List.cons_append, List.nil_append, hw2]
  refine roundK.intro (run ++ [⟨i, m.rules[i]!.dst.toNat, fireF m.rules[i]! v⟩], m.rules[i]!.dst.toNat, fireF m.rules[i]! v, pickA l at2) ⟨?_, .step i h2 hi he, pickA_le h3⟩ ?_ ?_
  ·show (run ++ [_]).length <= N
   rw [hln]; omega
  ·show N - (run ++ [_]).length < N - run.length
   rw [hln]; omega
  ·simp only [go_sem, hln, en2]
end Go.AM
