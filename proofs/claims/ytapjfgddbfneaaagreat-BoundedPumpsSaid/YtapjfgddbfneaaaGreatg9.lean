/- CmQ CmR CmS CmT CrA CrB -/
import Derived.Test.YtapjfgddbfneaaaGreatg8
namespace Go.AM
open Go Go.Proofs Go.RowKit
set_option maxRecDepth 100000
set_option maxHeartbeats 8000000
theorem conf_flat (ns np : Nat) (c : CV) : flatOk (partsP ns np) c = confB ns np c := by
 obtain ⟨n, kids⟩ := c
 rw [Bool.eq_iff_iff]
 unfold flatOk
 rw [parts_len]
 simp only [CV.n, CV.kids, Bool.and_eq_true, beq_iff_eq, List.all_eq_true, List.mem_range]
 have hz : (partsP ns np)[0]! = (2, (ns : Int)) := rfl
 have hs : ∀ i, i < np -> (partsP ns np)[i + 1]! = (1, 0) := fun i hi => by
  unfold partsP
  rw [List.getElem!_cons_succ, getElem!_pos _ i (by simpa using hi), List.getElem_replicate]
 have l0 : ∀ x : CV, leafOk (2, (ns : Int)) x = true ↔ 0 <= x.n /\ x.n < ns /\ x.kids.length = 0 := fun x => by
  unfold leafOk; rw [if_neg (by simp)]
  simp only [Bool.and_eq_true, decide_eq_true_eq, beq_iff_eq, and_assoc]
 have l1 : ∀ x : CV, leafOk (1, 0) x = true ↔ 0 <= x.n /\ x.n <= 1048576 /\ x.kids.length = 0 := fun x => by
  unfold leafOk; rw [if_pos rfl]
  simp only [Bool.and_eq_true, decide_eq_true_eq, beq_iff_eq, and_assoc]
 cases kids with
 | nil => simp [confB]
 | cons x l =>
  unfold confB
  simp only [Bool.and_eq_true, beq_iff_eq, decide_eq_true_eq, List.all_eq_true, List.length_cons]
  constructor
  ·rintro ⟨⟨h0, hl⟩, h⟩
   have hl := of_decide_eq_true hl
   have hx := (l0 x).1 (by have := h 0 (by omega); rw [hz] at this; exact this)
   refine ⟨⟨⟨⟨⟨h0, hx.1⟩, hx.2.1⟩, hx.2.2⟩, by omega⟩, fun k hk => ?_⟩
   obtain ⟨j, hj⟩ := List.getElem?_of_mem hk
   have hjl := (List.getElem?_eq_some_iff.1 hj).1
   have hj2 := h (j + 1) (by omega)
   rw [hs j (by omega), List.getElem!_cons_succ, getElem!_pos l j hjl, (List.getElem?_eq_some_iff.1 hj).2] at hj2
   have := (l1 k).1 hj2
   exact ⟨⟨this.1, this.2.1⟩, this.2.2⟩
  ·rintro ⟨⟨⟨⟨⟨h0, h1⟩, h2⟩, h3⟩, hl⟩, h⟩
   refine ⟨⟨h0, decide_eq_true (by omega)⟩, fun i hi => ?_⟩
   cases i with
   | zero => rw [hz]; exact (l0 x).2 ⟨h1, h2, h3⟩
   | succ i =>
    rw [hs i (by omega), List.getElem!_cons_succ]
    have hm : l[i]! ∈ l := mem_bangI (by omega)
    have := h _ hm
    exact (l1 _).2 ⟨this.1.1, this.1.2, this.2⟩
theorem count_leaf {k : CV} (h : k.kids.length = 0) (most : Int) : countV k most = 1 := by
 obtain ⟨n, kids⟩ := k
 have : kids = [] := List.eq_nil_of_length_eq_zero h
 subst this
 rw [countV, countVs]
theorem count_leafs : ∀ (l : List CV) (most n : Int), (∀ k ∈ l, k.kids.length = 0) -> n + l.length <= most + 1 -> countVs l most n = n + l.length
 | [], most, n, _, _ => by rw [countVs]; simp
 | k :: l, most, n, h, hb => by
  simp only [List.length_cons] at hb ⊢
  rw [countVs, if_neg (by omega), count_leaf (h k (List.mem_cons_self ..)), count_leafs l most (n + 1) (fun x hx => h x (List.mem_cons_of_mem _ hx)) (by omega)]
  omega
theorem conf_count {ns np : Nat} {c : CV} (hp : np <= 100) (h : confB ns np c = true) : countV c 128 <= 128 := by
 obtain ⟨n, kids⟩ := c
 cases kids with
 | nil => simp [confB] at h
 | cons x l =>
  unfold confB at h
  simp only [Bool.and_eq_true, beq_iff_eq, decide_eq_true_eq, List.all_eq_true] at h
  obtain ⟨⟨⟨⟨⟨h0, h1⟩, h2⟩, h3⟩, hl⟩, h⟩ := h
  rw [countV, count_leafs (x :: l) 128 1 (fun k hk => ?_) (by simp only [List.length_cons]; omega)]
  ·simp only [List.length_cons]; omega
  ·rcases List.mem_cons.1 hk with rfl | hk
   ·exact h3
   ·exact (h k hk).2
theorem parts_leaf {ns np : Nat} (h1 : 1 <= ns) (h2 : ns <= 16) : ∀ p ∈ partsP ns np, LeafP p := fun p hp => by
 unfold partsP at hp
 rcases List.mem_cons.1 hp with rfl | hp
 ·exact .inr ⟨rfl, by show (1 : Int) <= ns; omega, by show (ns : Int) <= 16; omega⟩
 ·exact .inl (List.mem_replicate.1 hp).2
theorem con_ovalid (ns np : Nat) (v : CV) (h1 : 1 <= ns) (h2 : ns <= 16) (h3 : np <= 7) (hv : v.Ok) (hl : v.kids.length <= 9223372036854775806) : Con Tryz.prog 147 [flatT 0 (partsP ns np), vV v] [] fun r _ => r = vb (confB ns np v) := by
 have e0 := vV_eq v
 rw [e0]
 refine Con.intro Tryz.func147 rfl Tryz.ntmps147 Tryz.results147 (by kernel_rfl) (by simp) 2 (by simp) ?_
 simp only [go_sem]
 refine CallU.free (con_ocheck (partsP ns np) (by rw [parts_len]; omega) (by rw [parts_len]; omega) (parts_leaf h1 h2)) (by simp only [go_sem]) (by simp only [go_sem]) ?_
 rintro r bx rfl
 simp only [go_sem]
 refine CallU.free (con_size v hv) (by simp only [go_sem]) (by simp only [go_sem, vV_eq]) ?_
 rintro r bx rfl
 by_cases hc : countV v 128 <= 128
 ·simp only [go_sem, hc]
  refine CallU.free (con_oneFlat (partsP ns np) v (parts_leaf h1 h2) hl) (by simp only [go_sem]) (by simp only [go_sem, vV_eq]) ?_
  rintro r bx rfl
  simp only [go_sem, conf_flat]
 ·have e : confB ns np v = false := by
   cases hb : confB ns np v
   ·rfl
   ·exact absurd (conf_count (by omega) hb) hc
  simp only [go_sem, hc, e]
theorem rule_len {ns np : Nat} {r : RD} (hp : np <= 1000000) (hr : ruleB ns np r = true) (hb : bareB r = true) : r.Len := by
 unfold ruleB changesB movesB at hr
 unfold bareB at hb
 simp only [Bool.and_eq_true, Bool.or_eq_true, decide_eq_true_eq, beq_iff_eq] at hr hb
 refine ⟨by omega, by omega, ?_, by omega, by omega, by omega, by omega⟩
 rcases hr.2 with h | h <;> omega
theorem conf_ok {ns np : Nat} {c : CV} (hp : np <= 1000000) (h : confB ns np c = true) : c.Ok /\ c.kids.length = np + 1 := by
 obtain ⟨n, kids⟩ := c
 cases kids with
 | nil => simp [confB] at h
 | cons x l =>
  unfold confB at h
  simp only [Bool.and_eq_true, beq_iff_eq, decide_eq_true_eq, List.all_eq_true] at h
  obtain ⟨⟨⟨⟨⟨h0, h1⟩, h2⟩, h3⟩, hl⟩, h⟩ := h
  have leaf : ∀ k : CV, k.kids.length = 0 -> k.Ok := fun k hk => by
   obtain ⟨m, ks⟩ := k
   have : ks = [] := List.eq_nil_of_length_eq_zero hk
   subst this
   exact .mk m [] (by simp) (fun _ hx => by simp at hx)
  refine ⟨.mk n _ (by simp only [List.length_cons]; omega) fun k hk => ?_, by simp only [CV.kids, List.length_cons]; omega⟩
  rcases List.mem_cons.1 hk with rfl | hk
  ·exact leaf _ h3
  ·exact leaf _ (h k hk).2
theorem names_size {l : List ByteArray} (h : namesB l = true) : ∀ s ∈ l, s.size <= 9223372036854775806 := fun s hs => by
 unfold namesB at h
 rw [List.all_eq_true] at h
 obtain ⟨i, hi⟩ := List.getElem?_of_mem hs
 have hil := (List.getElem?_eq_some_iff.1 hi).1
 have := h i (List.mem_range.2 hil)
 unfold okN wordB at this
 rw [getElem!_pos l i hil, (List.getElem?_eq_some_iff.1 hi).2] at this
 simp only [Bool.and_eq_true, decide_eq_true_eq] at this
 omega
theorem good_sized {m : MD} (h : GoodM m) : sizedB m = true := by
 have e : limF m.kind = [1, 6, 0, 0, 0, 0, 0, 0] := by rw [h.kind]; rfl
 have h1 := h.states
 have h2 := h.places
 have h3 := h.few
 unfold sizedB lim betweenB
 rw [e, h.letters, h.levels, h.age]
 simp only [List.getD_cons_zero, List.getD_cons_succ, Bool.and_eq_true, decide_eq_true_eq, List.length_nil]
 refine ⟨⟨⟨⟨⟨⟨?_, ?_⟩, ?_⟩, ?_, ?_⟩, ?_⟩, ?_⟩, ?_⟩ <;> first | omega | simp
theorem good_ranked {m : MD} (h : GoodM m) : rankedB m = true := by
 unfold rankedB
 rw [h.kind, h.ranks]; rfl
theorem good_named {m : MD} (h : GoodM m) : (namesOf m).length <= 1000000 := by
 have h1 := h.states
 have h2 := h.places
 have h3 := h.few
 unfold namesOf
 simp only [List.length_append, List.length_map, h.letters, List.length_nil]
 omega
theorem con_begins (m : MD) (h : GoodM m) : Con Tryz.prog 108 [vM m] [] fun r _ => r = vb true := by
 refine Con.intro Tryz.func108 rfl Tryz.ntmps108 Tryz.results108 (by kernel_rfl) (by simp) 1 (by simp) ?_
 have h1 := h.states
 have h2 := h.places
 have hk := h.kind
 have hc := conf_ok (by omega) h.start
 simp only [go_sem, hk]
 refine DrawK.walk 6 mixed (by kernel_rfl) ?_
 simp only [go_sem]
 refine CallY.mk (con_typed m hk (by omega)) (by simp only [go_sem, hk]) (by simp only [go_sem]) (.inl (by simp only [go_sem])) ?_
 simp only [go_sem]
 refine CallY.mk (con_ovalid m.states.length m.places.length m.start (by omega) (by omega) (by omega) hc.1 (by omega)) (by simp only [go_sem, vV_eq]) (by simp only [go_sem]) (.inr (by simp only [go_sem])) ?_
 simp only [go_sem, h.start]
theorem con_check (m : MD) (h : GoodM m) : Con Tryz.prog 80 [vM m] [] fun r _ => r = vi 0 := by
 refine Con.intro Tryz.func80 rfl Tryz.ntmps80 Tryz.results80 (by kernel_rfl) (by simp) 1 (by simp) ?_
 have h1 := h.states
 have h2 := h.places
 have h3 := h.few
 have hk := h.kind
 have hr0 : m.ranks.length <= 9223372036854775806 := by rw [h.ranks]; simp
 simp only [go_sem, hk]
 refine CallU.free (con_between 1 1 6) (by simp only [go_sem]) (by simp only [go_sem]) ?_
 rintro r bx rfl
 have e1 : betweenB 1 1 6 = true := by decide
 simp only [go_sem, e1]
 refine CallU.free (con_sized m) (by simp only [go_sem]) (by simp only [go_sem, hk]) ?_
 rintro r bx rfl
 simp only [go_sem, good_sized h]
 refine CallU.free (con_ranked m hr0) (by simp only [go_sem]) (by simp only [go_sem, hk]) ?_
 rintro r bx rfl
 simp only [go_sem, good_ranked h]
 refine CallU.free (con_named m h1.1 (good_named h) (names_size h.names)) (by simp only [go_sem]) (by simp only [go_sem, hk]) ?_
 rintro r bx rfl
 simp only [go_sem, h.names]
 refine CallU.look (con_containsRule m.rules 106 [.fp (cM m) 0] (fun _ => false) (by simp only [go_sem]) (fun r hr => con_check1 m r hk (by omega) (by omega) (rule_len (by omega) (h.rules r hr).1 (h.rules r hr).2) (h.rules r hr).1 (h.rules r hr).2) (by omega)) (by simp only [go_sem]) (by simp only [go_sem, hk]) ?_
 rintro r bx rfl
 simp only [go_sem, any_false]
 refine CallU.free (con_begins m h) (by simp only [go_sem]) (by simp only [go_sem, hk]) ?_
 rintro r bx rfl
 simp only [go_sem]
def stillB (r : RD) : Bool := r.move.length == 0
theorem con_plain1 (r : RD) : Con Tryz.prog 109 [vRule r] [] fun x _ => x = .sc (.bool (!stillB r)) := by
 refine Con.intro Tryz.func109 rfl Tryz.ntmps109 Tryz.results109 (by kernel_rfl) (by simp) 1 (by simp) ?_
 unfold stillB
 simp only [go_sem]
 cases r.move <;> simp
theorem con_plain (m : MD) (hk : m.kind = 1) (hl : m.rules.length <= 9223372036854775806) : Con Tryz.prog 81 [vM m] [] fun x _ => x = vb (m.rules.all stillB) := by
 refine Con.intro Tryz.func81 rfl Tryz.ntmps81 Tryz.results81 (by kernel_rfl) (by simp) 1 (by simp) ?_
 simp only [go_sem, hk]
 refine CallU.free (con_containsRule m.rules 109 [] (fun r => !stillB r) rfl (fun r _ => con_plain1 r) hl) (by simp only [go_sem]) (by simp only [go_sem]) ?_
 rintro r bx rfl
 simp only [go_sem, any_not]
theorem con_counts (m : MD) (h : GoodM m) (hs : m.rules.all stillB = true) : Con Tryz.prog 57 [vM m] [] fun r _ => r = vi 0 := by
 refine Con.intro Tryz.func57 rfl Tryz.ntmps57 Tryz.results57 (by kernel_rfl) (by simp) 1 (by simp) ?_
 have h3 := h.few
 simp only [go_sem]
 refine CallU.free (con_check m h) (by simp only [go_sem]) (by simp only [go_sem]) ?_
 rintro r bx rfl
 simp only [go_sem]
 refine CallU.free (con_plain m h.kind (by omega)) (by simp only [go_sem]) (by simp only [go_sem]) ?_
 rintro r bx rfl
 simp only [go_sem, hs]
def cfgC (s : Nat) (v : List Int) : CV := .mk 0 (.mk s [] :: v.map fun n => .mk n [])
theorem cfg_nums (v : List Int) : (v.map fun n => CV.mk n []).map CV.n = v := by rw [List.map_map]; exact List.map_id v
structure FineR (ns np : Nat) (r : RD) : Prop where
 right : RightR ns np r
 need : SmallI 1048576 r.need
 give : SmallI 1048576 r.give
theorem rule_fine {ns np : Nat} {r : RD} (h : ruleB ns np r = true) : FineR ns np r := by
 unfold ruleB changesB indexB smallB betweenB at h
 simp only [Bool.and_eq_true, decide_eq_true_eq, List.all_eq_true] at h
 obtain ⟨⟨⟨⟨h1, h2⟩, ⟨h3, h4⟩⟩, ⟨⟨⟨h5, h6⟩, h7⟩, h8⟩⟩, _⟩ := h
 refine ⟨⟨by omega, by omega, by omega, by omega, h5, h6⟩, fun x hx => ?_, fun x hx => ?_⟩
 ·have := h7 x hx; omega
 ·have := h8 x hx; omega
structure GoodC (m : MD) (s : Nat) (v : List Int) : Prop where
 state : s < m.states.length
 len : v.length = m.places.length
 low : ∀ x ∈ v, 0 <= x /\ x <= 1048576
theorem GoodC.conf {m : MD} {s : Nat} {v : List Int} (h : GoodC m s v) : confB m.states.length m.places.length (cfgC s v) = true := by
 have h1 := h.state
 have a1 : (v.map fun n => CV.mk n []).all (fun k => decide (0 <= k.n) && decide (k.n <= 1048576) && k.kids.length == 0) = true := by
  rw [List.all_map, List.all_eq_true]
  intro n hn
  have := h.low n hn
  show (decide (0 <= n) && decide (n <= 1048576) && true) = true
  rw [decide_eq_true this.1, decide_eq_true this.2]; rfl
 have a2 : decide ((0 : Int) <= (s : Int)) = true := decide_eq_true (by omega)
 have a3 : decide ((s : Int) < (m.states.length : Int)) = true := decide_eq_true (by omega)
 have a4 : ((v.map fun n => CV.mk n []).length == m.places.length) = true := by rw [List.length_map, h.len]; simp
 show (((((((0 : Int) == 0) && decide ((0 : Int) <= (s : Int))) && decide ((s : Int) < (m.states.length : Int))) && true) && ((v.map fun n => CV.mk n []).length == m.places.length)) && (v.map fun n => CV.mk n []).all (fun k => decide (0 <= k.n) && decide (k.n <= 1048576) && k.kids.length == 0)) = true
 rw [a1, a2, a3, a4]; rfl
structure PlainM (m : MD) (s0 : Nat) (v0 : List Int) : Prop where
 good : GoodM m
 still : m.rules.all stillB = true
 start : m.start = cfgC s0 v0
 conf : GoodC m s0 v0
theorem PlainM.fine {m : MD} {s0 : Nat} {v0 : List Int} (h : PlainM m s0 v0) : ∀ r ∈ m.rules, FineR m.states.length m.places.length r := fun r hr => rule_fine (h.good.rules r hr).1
theorem con_rbetween (x lo hi : Int) : Con Tryz.prog 94 [vi x, vi lo, vi hi] [] fun r _ => r = vb (betweenB x lo hi) := by
 refine Con.intro Tryz.func94 rfl Tryz.ntmps94 Tryz.results94 (by kernel_rfl) (by simp) 0 (by simp) ?_
 unfold betweenB
 by_cases h1 : lo <= x
 ·by_cases h2 : x <= hi
  ·simp only [go_sem, h1, h2, decide_true, Bool.and_true]
  ·simp only [go_sem, h1, h2, decide_true, decide_false, Bool.and_false]
 ·simp only [go_sem, h1, decide_false, Bool.false_and]
theorem between_true {x lo hi : Int} (h1 : lo <= x) (h2 : x <= hi) : betweenB x lo hi = true := by
 unfold betweenB; rw [decide_eq_true h1, decide_eq_true h2]; rfl
theorem con_rnumbersP (m : MD) (h : PreM m) : Con Tryz.prog 95 [vM m] [] fun r _ => r = vb true := by
 refine Con.intro Tryz.func95 rfl Tryz.ntmps95 Tryz.results95 (by kernel_rfl) (by simp) 0 (by simp) ?_
 have h1 := h.states; have h2 := h.places; have h3 := h.few
 have b1 := con_rbetween m.states.length 1 8
 have b2 := con_rbetween m.places.length 1 6
 have b3 := con_rbetween 0 0 0
 rw [between_true (by omega) (by omega)] at b1 b2
 rw [between_true (by omega) (by omega)] at b3
 have h4 : ¬ ((12 : Int) < m.rules.length) := by omega
 unfold vM cM
 rw [h.kind, h.letters, h.levels, h.age]
 simp only [go_sem, vss, List.length_map]
 refine CallU.free b1 (by simp only [go_sem]) (by simp only [go_sem]) ?_
 rintro r bx rfl
 simp only [go_sem, List.length_map]
 refine CallU.free b2 (by simp only [go_sem]) (by simp only [go_sem]) ?_
 rintro r bx rfl
 simp only [go_sem, List.length_map, h4, List.length_nil]
 refine CallU.free b3 (by simp only [go_sem]) (by simp only [go_sem]) ?_
 rintro r bx rfl
 simp only [go_sem]
 refine CallU.free b3 (by simp only [go_sem]) (by simp only [go_sem]) ?_
 rintro r bx rfl
 simp only [go_sem]
theorem con_rnumbers (m : MD) (h : GoodM m) : Con Tryz.prog 95 [vM m] [] fun r _ => r = vb true :=
 con_rnumbersP m h.pre
theorem con_rranksP (m : MD) (h : PreM m) : Con Tryz.prog 96 [vM m] [] fun r _ => r = vb true := by
 refine Con.intro Tryz.func96 rfl Tryz.ntmps96 Tryz.results96 (by kernel_rfl) (by simp) 0 (by simp) ?_
 unfold vM cM
 rw [h.kind, h.ranks]
 simp only [go_sem, List.map_nil, List.length_nil]
theorem con_rranks (m : MD) (h : GoodM m) : Con Tryz.prog 96 [vM m] [] fun r _ => r = vb true :=
 con_rranksP m h.pre
theorem con_rletter (c : UInt8) : Con Tryz.prog 165 [u8v c] [] fun r _ => r = vb (partB c) := by
 refine Con.intro Tryz.func165 rfl Tryz.ntmps165 Tryz.results165 (by kernel_rfl) (by simp) 0 (by simp) ?_
 unfold partB
 rw [u8_eq (k := 95) (c := c) (n := 95) rfl, letterB_eq, digitB_eq]
 by_cases h1 : (97 : Int) <= (c.toNat : Int) <;> by_cases h2 : (c.toNat : Int) <= 122 <;> by_cases h3 : (48 : Int) <= (c.toNat : Int) <;> by_cases h4 : (c.toNat : Int) <= 57 <;>
  (simp only [go_sem, h1, h2, h3, h4, decide_true, decide_false, Bool.and_true, Bool.and_false, Bool.true_or, Bool.or_true, Bool.false_or, Bool.or_false]; all_goals simp)
theorem con_rword (s : ByteArray) (hw : wordB s = true) : Con Tryz.prog 125 [vStr s] [] fun r _ => r = vb true := by
 refine Con.intro Tryz.func125 rfl Tryz.ntmps125 Tryz.results125 (by kernel_rfl) (by simp) 0 (by simp) ?_
 unfold wordB at hw
 rw [ByteArray.toList_eq] at hw
 simp only [Bool.and_eq_true, decide_eq_true_eq, List.all_eq_true] at hw
 obtain ⟨⟨⟨h1, h2⟩, h3⟩, h4⟩ := hw
 have hp : ∀ j, j < s.size -> partB s.data.toList[j]! = true := fun j hj => h4 _ (by
  have h5 : j < s.data.toList.length := by rw [ba_len]; exact hj
  rw [getElem!_pos _ j h5]; exact List.getElem_mem h5)
 have e0 : s.get! 0 = s.data.toList[0]! := by
  have h5 : 0 < s.data.toList.length := by rw [ba_len]; exact h1
  rw [getElem!_pos s.data.toList 0 h5, Array.getElem_toList]
  show s.data[0]! = _
  rw [getElem!_pos s.data 0 h1]
 rw [e0, letterB_eq, Bool.and_eq_true, decide_eq_true_eq, decide_eq_true_eq] at h3
 simp only [go_sem]
 refine LoopK.intro (fun i : Nat => ⟨33, [(0, vStr s), (3, vi i)], []⟩) (fun i => s.size - i) (fun i => i <= s.size) 0 (by omega) ?_ ?_
 ·simp only [go_sem]
 rintro i hi
 by_cases h : i < s.size
 ·have hg := ba_get h
  have hw : IntKind.i64.wrap (i + 1) = i + 1 := wrap_in (by omega) (by omega)
  have hl := con_rletter s.data.toList[i]!
  rw [hp i h] at hl
  simp only [go_sem, h, hg]
  refine CallU.free hl (by simp only [go_sem]) (by simp only [go_sem]) ?_
  rintro r bx rfl
  simp only [go_sem, hw]
  refine roundK.intro (i + 1) (by omega) (by omega) ?_
  simp only [go_sem]
 ·have hg := ba_get h1
  have g1 : (1 : Int) <= (s.size : Int) := by omega
  have g2 : (s.size : Int) <= 12 := by omega
  simp only [go_sem, h, hg, g1, g2, h3.1, h3.2]
theorem ba_eq {a b : ByteArray} : (a.toList == b.toList) = (a.data.toList == b.data.toList) := by rw [ByteArray.toList_eq, ByteArray.toList_eq]
theorem keyword_no {s : ByteArray} (h : keywordB s = false) {i : Nat} (hi : i < kwL.length) : (kwL[i]!.toList == s.toList) = false := by
 unfold keywordB at h
 rw [List.any_eq_false] at h
 have := h kwL[i]! (mem_bangI hi)
 rw [Bool.not_eq_true] at this
 rw [beq_eq_false_iff_ne] at this ⊢
 exact fun e => this e.symm
theorem kwL_len : kwL.length = 18 := rfl
theorem con_rkeyword (s : ByteArray) (hk : keywordB s = false) : Con Tryz.prog 126 [vStr s] [] fun r _ => r = vb false := by
 refine Con.intro Tryz.func126 rfl Tryz.ntmps126 Tryz.results126 (by kernel_rfl) (by simp) 0 (by simp) ?_
 simp only [go_sem]
 refine LoopK.intro (fun i : Nat => ⟨18, [(0, vStr s), (3, .sl 384 1 (kwL.map vStr)), (4, vi i)], []⟩) (fun i => 18 - i) (fun i => i <= 18) 0 (by omega) ?_ ?_
 ·simp only [go_sem, kwL, List.map_cons, List.map_nil]
 rintro i hi
 by_cases h : i < 18
 ·have hl : i < kwL.length := by rw [kwL_len]; exact h
  have hg := getStr hl
  have hw : IntKind.i64.wrap (i + 1) = i + 1 := wrap_in (by omega) (by omega)
  have hn := keyword_no hk hl
  simp only [go_sem, kwL_len, h, hg, hn, hw]
  refine roundK.intro (i + 1) (by omega) (by omega) ?_
  simp only [go_sem]
 ·simp only [go_sem, kwL_len, h]
theorem con_rlist (l : List Int) (n : Nat) (lo hi : Int) (hn : l.length = n) (h6 : n <= 1000000) (hb : ∀ x ∈ l, betweenB x lo hi = true) : Con Tryz.prog 127 [vs 0 l, vi n, vi lo, vi hi] [] fun r _ => r = vb true := by
 refine Con.intro Tryz.func127 rfl Tryz.ntmps127 Tryz.results127 (by kernel_rfl) (by simp) 0 (by simp) ?_
 simp only [go_sem]
 refine LoopK.intro (fun i : Nat => ⟨28, [(0, vs 0 l), (1, vi n), (2, vi lo), (3, vi hi), (9, vi i)], []⟩) (fun i => l.length - i) (fun i => i <= l.length) 0 (by omega) ?_ ?_
 ·simp only [go_sem]
 rintro i hi2
 by_cases h : i < l.length
 ·have hg := getv h
  have hw : IntKind.i64.wrap (i + 1) = i + 1 := wrap_in (by omega) (by omega)
  have hc := con_rbetween l[i]! lo hi
  rw [hb _ (mem_bangI h)] at hc
  simp only [go_sem, h, hg]
  refine CallU.free hc (by simp only [go_sem]) (by simp only [go_sem]) ?_
  rintro r bx rfl
  simp only [go_sem, hw]
  refine roundK.intro (i + 1) (by omega) (by omega) ?_
  simp only [go_sem]
 ·subst hn
  simp only [go_sem, h]
def namesTree : Tr := .front 0 (.front 3 (.front 6 (.alt (.one 1 (.alt (.one 2 (.alt (.one 4 (.alt (.one 5 (.one 7 (.one 8 (.one 9 .done)))) (.one 7 (.one 5 (.one 8 (.one 9 .done)))))) (.one 7 (.one 4 (.one 5 (.one 8 (.one 9 .done))))))) (.alt (.one 4 (.alt (.one 2 (.alt (.one 5 (.one 7 (.one 8 (.one 9 .done)))) (.one 7 (.one 5 (.one 8 (.one 9 .done)))))) (.one 7 (.one 2 (.one 5 (.one 8 (.one 9 .done))))))) (.one 7 (.alt (.one 2 (.one 4 (.one 5 (.one 8 (.one 9 .done))))) (.one 4 (.one 2 (.one 5 (.one 8 (.one 9 .done)))))))))) (.alt (.one 4 (.alt (.one 1 (.alt (.one 2 (.alt (.one 5 (.one 7 (.one 8 (.one 9 .done)))) (.one 7 (.one 5 (.one 8 (.one 9 .done)))))) (.one 7 (.one 2 (.one 5 (.one 8 (.one 9 .done))))))) (.one 7 (.one 1 (.one 2 (.one 5 (.one 8 (.one 9 .done)))))))) (.one 7 (.alt (.one 1 (.alt (.one 2 (.one 4 (.one 5 (.one 8 (.one 9 .done))))) (.one 4 (.one 2 (.one 5 (.one 8 (.one 9 .done))))))) (.one 4 (.one 1 (.one 2 (.one 5 (.one 8 (.one 9 .done))))))))))))
theorem names_at {l : List ByteArray} (h : namesB l = true) {i : Nat} (hi : i < l.length) : wordB l[i]! = true /\ keywordB l[i]! = false /\ ∀ k, k < i -> (l[k]!.toList == l[i]!.toList) = false := by
 unfold namesB at h
 have h1 := List.all_eq_true.1 h i (List.mem_range.2 hi)
 unfold okN at h1
 simp only [Bool.and_eq_true, Bool.not_eq_true'] at h1
 refine ⟨h1.1.1, h1.1.2, fun k hk => ?_⟩
 have h2 := h1.2
 rw [ba_eq, beq_eq_false_iff_ne]
 intro e
 have h3 : l[i]!.data.toList ∈ (l.take i).map fun s => s.data.toList := by
  refine List.mem_map.2 ⟨l[k]!, ?_, e⟩
  rw [getElem!_pos l k (by omega)]
  exact List.mem_of_getElem? (i := k) (by rw [List.getElem?_take, if_pos hk]; simp)
 rw [List.contains_iff_mem.2 h3] at h2
 cases h2
theorem con_rnamesP (m : MD) (h : PreM m) : Con Tryz.prog 97 [vM m] [] fun r _ => r = vb true := by
 refine Con.intro Tryz.func97 rfl Tryz.ntmps97 Tryz.results97 (by kernel_rfl) (by simp) 0 (by simp) ?_
 have h1 := h.states; have h2 := h.places; have h3 := h.few
 have r1 : roomFor m.states.length 16 := by simp only [roomFor]; omega
 have r2 : roomFor (m.states.length + m.places.length) 16 := by simp only [roomFor]; omega
 have e0 : namesTo m 0 = m.states ++ m.places := by rw [namesTo_zero, h.letters]; simp
 unfold vM cM
 simp only [go_sem, vss, h.letters, List.map_nil]
 refine DrawK.meet ⟨65, [(1, .pb 0 0), (2, vb false), (3, .sl 640 1 ((namesTo m 0).map vStr))], [[vi m.kind, .sl 0 1 (m.states.map vStr), .sl 0 1 (m.places.map vStr), .sl 0 1 [], vs 0 m.ranks, vi m.levels, vi m.age, .sl 0 14 (m.rules.map vRule), vi m.start.n, .sl 0 2 (m.start.kids.map vV)]]⟩ ?_ ?_
 ·refine DrawK.tree namesTree mixed (by kernel_rfl) ?_
  unfold namesTree
  rw [e0, List.map_append]
  repeat' (first | with_reducible apply andK_mk | simp only [go_sem, List.length_map, List.length_append, List.append_nil, r1, r2])
 ·simp only [go_sem]
  refine LoopK.intro (fun i : Nat => ⟨65, [(1, .pb 0 0), (2, vb false), (3, .sl 640 1 ((namesTo m i).map vStr)), (4, vi i)], [[vi m.kind, .sl 0 1 (m.states.map vStr), .sl 0 1 (m.places.map vStr), .sl 0 1 [], vs 0 m.ranks, vi m.levels, vi m.age, .sl 0 14 (m.rules.map vRule), vi m.start.n, .sl 0 2 (m.start.kids.map vV)]]⟩)
   (fun i => m.rules.length - i) (fun i => i <= m.rules.length) 0 (by omega) ?_ ?_
  ·simp only [go_sem]
  rintro i hi
  have hn := namesTo_len (m := m) (i := i)
  have hL : (namesOf m).length <= 1000 := by unfold namesOf; simp only [List.length_append, List.length_map, h.letters, List.length_nil]; omega
  by_cases hlt : i < m.rules.length
  ·have hg := getRule hlt
   have hw : IntKind.i64.wrap (i + 1) = i + 1 := wrap_in (by omega) (by omega)
   have e := namesTo_succ hlt
   have hr : roomFor ((namesTo m i).length + 1) 16 := by simp only [roomFor]; omega
   simp only [go_sem, hlt, hg, hw, hr]
   refine roundK.intro (i + 1) (by omega) (by omega) ?_
   simp only [go_sem, e, List.map_append, List.map_cons, List.map_nil]
  obtain rfl : i = m.rules.length := by omega
  rw [namesTo_all]
  simp only [go_sem, hlt]
  have hnm := h.names
  generalize namesOf m = l at *
  refine LoopK.intro (fun i : Nat => ⟨65, [(1, .pb 0 0), (2, vb false), (3, .sl 640 1 (l.map vStr)), (5, vi i)], [[vi m.kind, .sl 0 1 (m.states.map vStr), .sl 0 1 (m.places.map vStr), .sl 0 1 [], vs 0 m.ranks, vi m.levels, vi m.age, .sl 0 14 (m.rules.map vRule), vi m.start.n, .sl 0 2 (m.start.kids.map vV)]]⟩)
   (fun i => l.length - i) (fun i => i <= l.length) 0 (by omega) ?_ ?_
  ·simp only [go_sem]
  rintro i hi
  by_cases hlt2 : i < l.length
  ·obtain ⟨a1, a2, a3⟩ := names_at hnm hlt2
   have hg := getStr hlt2
   have hw : IntKind.i64.wrap (i + 1) = i + 1 := wrap_in (by omega) (by omega)
   simp only [go_sem, hlt2, hg]
   refine CallU.free (con_rword l[i]! a1) (by simp only [go_sem]) (by simp only [go_sem]) ?_
   rintro r bx rfl
   simp only [go_sem, hlt2, hg]
   refine CallU.free (con_rkeyword l[i]! a2) (by simp only [go_sem]) (by simp only [go_sem]) ?_
   rintro r bx rfl
   simp only [go_sem]
   refine LoopK.intro (fun k : Nat => ⟨65, [(1, .pb 0 0), (2, vb false), (3, .sl 640 1 (l.map vStr)), (5, vi i), (6, vi k)], [[vi m.kind, .sl 0 1 (m.states.map vStr), .sl 0 1 (m.places.map vStr), .sl 0 1 [], vs 0 m.ranks, vi m.levels, vi m.age, .sl 0 14 (m.rules.map vRule), vi m.start.n, .sl 0 2 (m.start.kids.map vV)]]⟩)
    (fun k => i - k) (fun k => k <= i) 0 (by omega) ?_ ?_
   ·simp only [go_sem]
   rintro k hk
   by_cases hki : k < i
   ·have hkl : k < l.length := by omega
    have hgk := getStr hkl
    have hwk : IntKind.i64.wrap (k + 1) = k + 1 := wrap_in (by omega) (by omega)
    have hne := a3 k hki
    simp only [go_sem, hki]
    refine DrawK.walk 9 mixed (by kernel_rfl) ?_
    simp only [go_sem, hlt2, hkl, hg, hgk, hne, hwk]
    refine roundK.intro (k + 1) (by omega) (by omega) ?_
    simp only [go_sem]
   ·simp only [go_sem, hki, hw]
    refine roundK.intro (i + 1) (by omega) (by omega) ?_
    simp only [go_sem]
  ·simp only [go_sem, hlt2]
theorem con_rnames (m : MD) (h : GoodM m) : Con Tryz.prog 97 [vM m] [] fun r _ => r = vb true :=
 con_rnamesP m h.pre
end Go.AM
