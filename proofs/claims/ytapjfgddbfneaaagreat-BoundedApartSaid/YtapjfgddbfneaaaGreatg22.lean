/- LGrow LEff LFlat FA LCyc FG TC FK TD -/
import Derived.Test.YtapjfgddbfneaaaGreatg14
import Derived.Test.YtapjfgddbfneaaaGreatg21
import Derived.Test.YtapjfgddbfneaaaGreatg11
import Derived.Test.YtapjfgddbfneaaaGreatg17
import Derived.Test.YtapjfgddbfneaaaGreatg19
import Derived.Test.YtapjfgddbfneaaaGreatg15
namespace Go.AM
theorem okN_el {x : Int} (h : okN1 x) : elB x = true := by
 unfold okN1 at h
 have h8 : Om = 1099511627776 := rfl
 unfold elB
 simp only [Bool.or_eq_true, Bool.and_eq_true, decide_eq_true_eq, beq_iff_eq]
 omega
theorem ok_vec {np : Nat} {v : List Int} (h : okV np v) (h6 : np <= 6) : vecB v = true := by
 have := h.1
 unfold vecB
 rw [Bool.and_eq_true, List.all_eq_true, decide_eq_true_eq]
 exact ⟨fun x hx => okN_el (h.2 x hx), by omega⟩
theorem leq_iff {np : Nat} {a b : List Int} (ha : okV np a) (hb : okV np b) (h6 : np <= 6) : leqV a b = true ↔ ∀ j, j < np -> a[j]! <= b[j]! := by
 have h1 := ha.1
 have h2 := hb.1
 unfold leqV
 rw [ok_vec ha h6, ok_vec hb h6, h1, h2]
 simp
def coverB (L : List SV) (s : Int) (v : List Int) : Bool := L.any fun y => y.1 == s && leqV v y.2
def fitsB (r : RD) (s : Int) (v : List Int) : Bool := r.src == s && canV r v
def atB (a b : List Int) : Bool := (List.range a.length).all fun i => decide (a[i]! <= b[i]!)
def closedB (rules : List RD) (L : List SV) : Bool := L.all fun x => rules.all fun r => !fitsB r x.1 x.2 || L.any fun y => y.1 == r.dst && atB (fireO r x.2) y.2
def holdsL (rules : List RD) (L : List SV) (s0 : Int) (v0 : List Int) : Int := if coverB L s0 v0 then if closedB rules L then 0 else 41 else 42
theorem at_iff {a b : List Int} : atB a b = true ↔ ∀ i, i < a.length -> a[i]! <= b[i]! := by
 unfold atB
 simp only [List.all_eq_true, List.mem_range, decide_eq_true_eq]
theorem closed_b {rules : List RD} {L : List SV} (h : ClosedL rules L) : closedB rules L = true := by
 unfold closedB
 rw [List.all_eq_true]
 intro x hx
 rw [List.all_eq_true]
 intro r hr
 cases hf : fitsB r x.1 x.2
 ·rfl
 rw [Bool.not_true, Bool.false_or, List.any_eq_true]
 unfold fitsB at hf
 rw [Bool.and_eq_true, beq_iff_eq] at hf
 obtain ⟨y, hy, e1, _, e3⟩ := h x hx r hr hf.1 hf.2
 refine ⟨y, hy, ?_⟩
 rw [Bool.and_eq_true, beq_iff_eq]
 exact ⟨e1, at_iff.2 fun i hi => e3 i (by rw [fireO_len] at hi; exact hi)⟩
theorem cover_b {np : Nat} {L : List SV} {s : Int} {v : List Int} (hv : okV np v) (h6 : np <= 6) (h : ∃ y ∈ L, y.1 = s /\ okV np y.2 /\ ∀ j, j < np -> v[j]! <= y.2[j]!) : coverB L s v = true := by
 obtain ⟨y, hy, e1, e2, e3⟩ := h
 unfold coverB
 rw [List.any_eq_true]
 refine ⟨y, hy, ?_⟩
 rw [Bool.and_eq_true, beq_iff_eq]
 exact ⟨e1, (leq_iff hv e2 h6).2 e3⟩
theorem holds_zero {rules : List RD} {np : Nat} {L : List SV} {s0 : Int} {v0 : List Int} (hc : ClosedL rules L) (hv : okV np v0) (h6 : np <= 6) (h : ∃ y ∈ L, y.1 = s0 /\ okV np y.2 /\ ∀ j, j < np -> v0[j]! <= y.2[j]!) : holdsL rules L s0 v0 = 0 := by
 unfold holdsL
 rw [cover_b hv h6 h, closed_b hc]; rfl
def boundB (L : List SV) (k : Int) : Bool := L.all fun y => decide (0 <= k) && decide (k < y.2.length) && (y.2[k.toNat]! != Om)
def mostF (L : List SV) (k : Nat) : Int := L.foldl (fun a y => max a y.2[k]!) 0
def hasOm (L : List SV) : Bool := L.any fun y => y.2.contains Om
theorem fold_ge {k : Nat} : ∀ {L : List SV} {a : Int}, a <= L.foldl (fun a y => max a y.2[k]!) a /\ ∀ y ∈ L, y.2[k]! <= L.foldl (fun a y => max a y.2[k]!) a
 | [], a => ⟨Int.le_refl _, fun y hy => by cases hy⟩
 | x :: L, a => by
  rw [List.foldl_cons]
  have ih := fold_ge (k := k) (L := L) (a := max a x.2[k]!)
  have h1 : a <= (max a x.2[k]!) := by omega
  have h2 : x.2[k]! <= (max a x.2[k]!) := by omega
  refine ⟨by omega, fun y hy => ?_⟩
  rcases List.mem_cons.1 hy with rfl | hy
  ·omega
  ·exact ih.2 y hy
theorem most_ge {L : List SV} {k : Nat} {y : SV} (hy : y ∈ L) : y.2[k]! <= mostF L k := (fold_ge (a := 0)).2 y hy
theorem reach_bound {L : List SV} {s : Int} {v : List Int} {k : Nat} (h : Covered L (s, v)) (hk : k < v.length) (hb : boundB L k = true) : v[k]! <= mostF L k := by
 obtain ⟨x, hx, _, e2, e3⟩ := h
 have e3 := e3 k hk
 unfold boundB at hb
 rw [List.all_eq_true] at hb
 have h1 := hb x hx
 rw [Bool.and_eq_true, bne_iff_ne] at h1
 have h2 := most_ge (k := k) hx
 rcases e3 with e | e
 ·exact (h1.2 e).elim
 ·have e : v[k]! <= x.2[k]! := e
  omega
theorem no_bound {L : List SV} {x : SV} {k : Nat} (hx : x ∈ L) (h : x.2[k]! = Om) : boundB L k = false := by
 unfold boundB
 rw [List.all_eq_false]
 refine ⟨x, hx, ?_⟩
 rw [Bool.and_eq_true, bne_iff_ne]
 exact fun g => g.2 h
theorem has_om {L : List SV} {x : SV} {k : Nat} (hx : x ∈ L) (hk : k < x.2.length) (h : x.2[k]! = Om) : hasOm L = true := by
 unfold hasOm
 rw [List.any_eq_true]
 refine ⟨x, hx, ?_⟩
 rw [List.contains_iff_mem, <- h, getElem!_pos x.2 k hk]
 exact List.getElem_mem hk
theorem runM_cover {m : MD} {L : List SV} {v0 : List Int} (hP : PlainM m 0 v0) (hv0 : ∀ x ∈ v0, x <= 900000) (hc : ClosedL m.rules L) (hl : ∀ x ∈ L, lowV x.2) (hn : ∀ r ∈ m.rules, ∀ i : Nat, r.need[i]! <= 16) (h0 : Covered L (0, v0)) {s : Nat} {v : List Int} {run : List StD} (hr : RunM m.rules 0 v0 s v run) (hlen : run.length <= 100) :
  Covered L ((s : Int), v) /\ ∀ x ∈ run, Covered L ((x.state : Int), x.v) := by
 induction hr with
 | nil => exact ⟨h0, fun x hx => by cases hx⟩
 | @step s v l i hr hi he ih =>
  have hll : l.length <= 99 := by rw [List.length_append] at hlen; simp at hlen; omega
  obtain ⟨h1, h2⟩ := ih (by omega)
  have hg := run_good hP.good hP.conf hv0 hr (by omega)
  have hf := hP.fine _ (mem_bangI hi)
  obtain ⟨r1, r2, r3, r4, r5, r6⟩ := hf.right
  have hne := en_needs he
  have hlv := hg.1.len
  have key : Covered L ((m.rules[i]!.dst.toNat : Int), fireF m.rules[i]! v) := by
   have e : ((m.rules[i]!.dst.toNat : Nat) : Int) = m.rules[i]!.dst := by omega
   rw [e]
   refine cover_step hc hl h1 (mem_bangI hi) hne.1.symm (fun j hj => ?_) (hn _ (mem_bangI hi)) (fireL_len (by omega) (by omega)) fun j hj => ?_
   ·have hj : j < v.length := hj
    exact hne.2 j (by omega)
   ·have hj : j < v.length := hj
    have : (fireF m.rules[i]! v)[j]! = v[j]! - m.rules[i]!.need[j]! + m.rules[i]!.give[j]! := fireL_at (by omega) (by omega) hj
    show (fireF m.rules[i]! v)[j]! = v[j]! + _
    omega
  refine ⟨key, fun x hx => ?_⟩
  rcases List.mem_append.1 hx with hx | hx
  ·exact h2 x hx
  ·rw [List.mem_singleton] at hx; subst hx; exact key
def wideL (ns np : Nat) : List SV := (List.range ns).map fun q : Nat => ((q : Int), List.replicate np Om)
theorem rep_at {np j : Nat} (h : j < np) : (List.replicate np Om)[j]! = Om := by
 rw [getElem!_pos _ j (by rw [List.length_replicate]; exact h), List.getElem_replicate]
theorem wide_mem {ns np : Nat} {s : Int} (h : 0 <= s /\ s < ns) : (s, List.replicate np Om) ∈ wideL ns np := by
 unfold wideL
 rw [List.mem_map]
 exact ⟨s.toNat, List.mem_range.2 (by omega), by rw [show ((s.toNat : Nat) : Int) = s by omega]⟩
theorem wide_ok {ns np : Nat} : ∀ x ∈ wideL ns np, 0 <= x.1 /\ x.1 < ns /\ okV np x.2 := fun x hx => by
 obtain ⟨q, hq, rfl⟩ := List.mem_map.1 hx
 rw [List.mem_range] at hq
 refine ⟨by show (0 : Int) <= q; omega, by show (q : Int) < ns; omega, List.length_replicate, fun y hy => ?_⟩
 rw [List.eq_of_mem_replicate hy]; exact .inr rfl
theorem wide_closed {rules : List RD} {ns np : Nat} {L : List SV} (hw : ∀ x ∈ wideL ns np, x ∈ L) (hL : ∀ x ∈ L, okV np x.2) (hr : ∀ r ∈ rules, 0 <= r.dst /\ r.dst < ns /\ ∀ j, j < np -> r.give[j]! <= 16 /\ 0 <= r.need[j]!) : ClosedL rules L := by
 intro x hx r hrr _ _
 have h1 := hr r hrr
 have h2 := hL x hx
 refine ⟨_, hw _ (wide_mem ⟨h1.1, h1.2.1⟩), rfl, by rw [h2.1]; exact List.length_replicate, fun j hj => ?_⟩
 have hj' : j < np := by have := h2.1; omega
 rw [fireO_at hj]
 show _ <= (List.replicate np Om)[j]!
 rw [rep_at hj']
 have h3 := h1.2.2 j hj'
 have h4 := h2.at hj'
 unfold okN1 at h4
 have h8 : Om = 1099511627776 := rfl
 split <;> omega
def walkF (rules : List RD) : SV -> List Int -> Int × SV × List StD
 | x, [] => (0, x, [])
 | x, k :: ks => if fitsB rules[k.toNat]! x.1 x.2 then if overO rules[k.toNat]! x.2 then (1, x, []) else
   let r := walkF rules (rules[k.toNat]!.dst, fireO rules[k.toNat]! x.2) ks
   (r.1, r.2.1, ⟨k.toNat, rules[k.toNat]!.dst.toNat, fireO rules[k.toNat]! x.2⟩ :: r.2.2) else (18, x, [])
def growL (v w : List Int) : List Int := ((List.range w.length).filter fun i => decide (v[i]! < w[i]!)).map Int.ofNat
def growsF (rules : List RD) (x0 : SV) (b a : List Int) : Int × List Int :=
 let p := walkF rules x0 b
 if p.1 ≠ 0 then (p.1, []) else
 let q := walkF rules p.2.1 a
 if q.1 ≠ 0 then (q.1, []) else
 if q.2.1.1 ≠ p.2.1.1 \/ atB p.2.1.2 q.2.1.2 = false then (43, []) else
 if (growL p.2.1.2 q.2.1.2).length = 0 then (11, []) else (0, growL p.2.1.2 q.2.1.2)
def finV (np : Nat) (v : List Int) : Prop := v.length = np /\ ∀ x ∈ v, 0 <= x /\ x <= 1048576
theorem finV.ok {np : Nat} {v : List Int} (h : finV np v) : okV np v := ⟨h.1, fun x hx => .inl (h.2 x hx)⟩
theorem finV.at {np : Nat} {v : List Int} (h : finV np v) {i : Nat} (hi : i < np) : 0 <= v[i]! /\ v[i]! <= 1048576 := by
 have := h.1
 rw [getElem!_pos v i (by omega)]; exact h.2 _ (List.getElem_mem _)
theorem fire_fin {np : Nat} {r : RD} {v : List Int} (h : finV np v) : fireO r v = (List.range v.length).map fun i => v[i]! + (r.give[i]! - r.need[i]!) := by
 unfold fireO
 apply List.map_congr_left
 intro i hi
 rw [List.mem_range] at hi
 have := h.at (i := i) (by have := h.1; omega)
 have h8 : Om = 1099511627776 := rfl
 rw [if_neg (by omega)]
theorem fire_finV {np : Nat} {r : RD} {v : List Int} (h : finV np v) (hc : canV r v = true) (hg : ∀ i, i < np -> 0 <= r.give[i]!) (ho : overO r v = false) : finV np (fireO r v) := by
 have h1 := fire_ok h.ok hc hg ho
 refine ⟨h1.1, fun x hx => ?_⟩
 have h2 := h1.2 x hx
 unfold okN1 at h2
 rcases h2 with h2 | h2
 ·exact h2
 exfalso
 obtain ⟨i, hi, rfl⟩ := List.mem_iff_getElem.1 hx
 have hi' : i < v.length := by rw [fireO_len] at hi; exact hi
 rw [<- getElem!_pos (fireO r v) i hi, fireO_at hi'] at h2
 have h3 := h.at (i := i) (by have := h.1; omega)
 have h8 : Om = 1099511627776 := rfl
 unfold overO at ho
 rw [List.any_eq_false] at ho
 have h4 := ho i (List.mem_range.2 hi')
 simp only [Bool.and_eq_true, decide_eq_true_eq, not_and, Int.not_lt] at h4
 have h5 := h4 (by omega)
 split at h2 <;> omega
theorem walk_run {rules : List RD} {ns np : Nat} (hg : ∀ r ∈ rules, 0 <= r.dst /\ r.dst < ns /\ ∀ i, i < np -> 0 <= r.give[i]!) : ∀ {ks : List Int} {x y : SV} {st : List StD}, (∀ k ∈ ks, 0 <= k /\ k < rules.length) -> 0 <= x.1 /\ x.1 < ns -> finV np x.2 -> walkF rules x ks = (0, y, st) -> runV rules x (ks.map Int.toNat) = some y /\ finV np y.2 /\ 0 <= y.1 /\ y.1 < ns
 | [], x, y, st, _, hs, hx, h => by
  simp only [walkF, Prod.mk.injEq, true_and] at h
  rw [<- h.1]
  exact ⟨rfl, hx, hs⟩
 | k :: ks, x, y, st, hk, hs, hx, h => by
  have hk0 := hk k (List.mem_cons_self ..)
  have hlt : k.toNat < rules.length := by omega
  have hr := hg _ (mem_bangI hlt)
  unfold walkF at h
  split at h
  ·rename_i hf
   unfold fitsB at hf
   rw [Bool.and_eq_true, beq_iff_eq] at hf
   split at h
   ·simp at h
   ·rename_i ho
    simp only [Prod.mk.injEq] at h
    have hfin := fire_finV hx hf.2 hr.2.2 (Bool.not_eq_true _ ▸ ho)
    have ih := walk_run hg (ks := ks) (x := (rules[k.toNat]!.dst, fireO rules[k.toNat]! x.2)) (y := y) (st := (walkF rules (rules[k.toNat]!.dst, fireO rules[k.toNat]! x.2) ks).2.2) (fun j hj => hk j (List.mem_cons_of_mem _ hj)) ⟨hr.1, hr.2.1⟩ hfin (Prod.ext h.1 (Prod.ext h.2.1 rfl))
    refine ⟨?_, ih.2⟩
    rw [List.map_cons]
    unfold runV
    rw [if_pos ⟨hlt, hf.1, fun i hi => canV_iff.1 hf.2 i hi⟩, <- fire_fin hx]
    exact ih.1
  ·simp at h
theorem mem_growL {v w : List Int} {k : Int} (h : k ∈ growL v w) : ∃ i : Nat, k = i /\ i < w.length /\ v[i]! < w[i]! := by
 unfold growL at h
 rw [List.mem_map] at h
 obtain ⟨i, hi, rfl⟩ := h
 rw [List.mem_filter, List.mem_range, decide_eq_true_eq] at hi
 exact ⟨i, rfl, hi⟩
theorem grows_om {rules : List RD} {ns np : Nat} {L : List SV} {v0 : List Int} {b a : List Int} {out : List Int} (hg : ∀ r ∈ rules, 0 <= r.dst /\ r.dst < ns /\ ∀ i, i < np -> 0 <= r.give[i]!) (hn : ∀ r ∈ rules, ∀ i : Nat, r.need[i]! <= 16)
  (hb : ∀ k ∈ b, 0 <= k /\ k < rules.length) (ha : ∀ k ∈ a, 0 <= k /\ k < rules.length) (hns : 0 < ns) (hv : finV np v0) (hc : ClosedL rules L) (hl : ∀ x ∈ L, lowV x.2) (h0 : Covered L (0, v0)) (h : growsF rules (0, v0) b a = (0, out)) :
  out.length ≠ 0 /\ ∀ k ∈ out, ∃ i : Nat, k = i /\ ∃ x ∈ L, i < x.2.length /\ x.2[i]! = Om := by
 unfold growsF at h
 simp only at h
 split at h
 ·rename_i g
  simp only [Prod.mk.injEq] at h
  exact (g h.1).elim
 rename_i g1
 split at h
 ·rename_i g
  simp only [Prod.mk.injEq] at h
  exact (g h.1).elim
 rename_i g2
 split at h
 ·simp at h
 rename_i g3
 split at h
 ·simp at h
 rename_i g4
 simp only [Prod.mk.injEq, true_and] at h
 subst h
 refine ⟨g4, fun k hk => ?_⟩
 obtain ⟨i, rfl, hi, hlt⟩ := mem_growL hk
 refine ⟨i, rfl, ?_⟩
 simp only [Decidable.not_not, not_or, Bool.not_eq_false] at g1 g2 g3
 have w1 := walk_run hg (ks := b) (x := (0, v0)) (y := (walkF rules (0, v0) b).2.1) (st := (walkF rules (0, v0) b).2.2) hb ⟨Int.le_refl _, by show (0 : Int) < ns; omega⟩ hv (Prod.ext g1 (Prod.ext rfl rfl))
 generalize (walkF rules (0, v0) b).2.1 = y at *
 have w2 := walk_run hg (ks := a) (x := y) (y := (walkF rules y a).2.1) (st := (walkF rules y a).2.2) ha w1.2.2 w1.2.1 (Prod.ext g2 (Prod.ext rfl rfl))
 generalize (walkF rules y a).2.1 = z at *
 have hcov := run_cover hc hl hn h0 w1.1
 obtain ⟨s, v⟩ := y
 obtain ⟨s2, w⟩ := z
 obtain ⟨e1, e2⟩ := g3
 have e1 : s2 = s := e1
 subst e1
 have hlv : w.length = v.length := by have := w1.2.1.1; have := w2.2.1.1; simp only at *; omega
 obtain ⟨x, hx, f1, f2⟩ := pump_omega hc hl hn hcov (fun x hx => (w1.2.1.2 x hx).1) w2.1 (fun j hj => at_iff.1 e2 j hj) (k := i) (by show i < v.length; have : i < w.length := hi; omega) hlt
 exact ⟨x, hx, by have : i < w.length := hi; omega, f2⟩
end Go.AM
namespace Go.AM
open Go Go.Proofs Go.RowKit
def SmallR (np : Nat) (r : RD) : Prop := r.need.length = np /\ r.give.length = np /\ (∀ x ∈ r.need, 0 <= x /\ x <= 16) /\ ∀ x ∈ r.give, 0 <= x /\ x <= 16
theorem good_small {m : MD} (h : GoodM m) : ∀ r ∈ m.rules, SmallR m.places.length r := fun r hr => by
 have h3 := (h.rules r hr).1
 unfold ruleB changesB smallB betweenB at h3
 simp only [Bool.and_eq_true, decide_eq_true_eq, List.all_eq_true] at h3
 exact ⟨h3.1.2.1.1.1, h3.1.2.1.1.2, h3.1.2.1.2, h3.1.2.2⟩
end Go.AM
namespace Go.AM
end Go.AM
namespace Go.AM
open Go Go.Proofs Go.RowKit
set_option maxRecDepth 100000
theorem con_rcopy (l : List Int) (h2 : l.length <= 1000000) : Con Tryz.prog 31 [vs 0 l] [] fun r _ => r = vs 2 l := by
 refine Con.intro Tryz.func31 rfl Tryz.ntmps31 Tryz.results31 (by kernel_rfl) (by simp) 0 (by simp) ?_
 have hr : roomFor l.length 8 := by simp only [roomFor]; omega
 simp only [go_sem, List.length_map, hr]
set_option maxHeartbeats 8000000
def cR (r : RD) : List AV := [vStr r.name, vi r.src, vi r.dst, vs 0 r.need, vs 0 r.give, vs 0 r.move, vi r.channel, vi r.act, vi r.letter, vs 0 r.path, vs 0 r.next, .sl 0 3 (r.takes.map vTake), vs 0 r.makes, vi r.second]
attribute [go_sem] cR
structure SlimR (np : Nat) (r : RD) : Prop where
 need : r.need.length = np
 give : r.give.length = np
 low : ∀ i : Nat, i < np -> 0 <= r.need[i]! /\ r.need[i]! <= 16 /\ 0 <= r.give[i]! /\ r.give[i]! <= 16
theorem okV.small {np : Nat} {v : List Int} (h : okV np v) {i : Nat} (hi : i < np) : 0 <= v[i]! /\ v[i]! <= 1099511627776 := by
 have h1 := h.at hi
 exact ⟨h1.nonneg, h1.le⟩
theorem can_stop {r : RD} {v : List Int} {i : Nat} (hi : i < v.length) (h : v[i]! < r.need[i]!) : canV r v = false := by
 cases e : canV r v
 ·rfl
 ·have := canV_iff.1 e i hi
  omega
theorem fire_take {r : RD} {v : List Int} {i : Nat} (h : i < v.length) : (fireO r v).take (i + 1) = (fireO r v).take i ++ [if v[i]! = Om then Om else v[i]! + (r.give[i]! - r.need[i]!)] := by
 have hl : i < (fireO r v).length := by rw [fireO_len]; exact h
 rw [List.take_add_one, List.getElem?_eq_getElem hl, <- fireO_at h, getElem!_pos (fireO r v) i hl]; rfl
def overN (r : RD) (v : List Int) (n : Nat) : Bool := (List.range n).any fun i => decide (v[i]! ≠ Om) && decide (1048576 < v[i]! + (r.give[i]! - r.need[i]!))
theorem overN_succ {r : RD} {v : List Int} {n : Nat} : overN r v (n + 1) = (overN r v n || (decide (v[n]! ≠ Om) && decide (1048576 < v[n]! + (r.give[n]! - r.need[n]!)))) := by
 unfold overN
 rw [List.range_succ, List.any_append, List.any_cons, List.any_nil, Bool.or_false]
theorem overN_all {r : RD} {v : List Int} : overN r v v.length = overO r v := rfl
def fireR (r : RD) (v : List Int) (t : Nat) : AV := if canV r v then .tup [vs t (fireO r v), vb true, vb (overO r v)] else .tup [.nil, vb false, vb false]
theorem con_rfire (r : RD) (v : List Int) (np : Nat) (hr : SlimR np r) (hv : okV np v) (h6 : np <= 6) : Con Tryz.prog 77 [vRule r, vs 0 v] [] fun x _ => x = fireR r v 2 := by
 refine Con.intro Tryz.func77 rfl Tryz.ntmps77 Tryz.results77 (by kernel_rfl) (by simp) 0 (by simp) ?_
 have h1 := hv.1
 have h2 := hr.need
 have h3 := hr.give
 have a1 : ((r.need.length : Int) != (v.length : Int)) = false := by rw [h2, h1]; simp
 have a2 : ((r.give.length : Int) != (v.length : Int)) = false := by rw [h3, h1]; simp
 unfold fireR
 simp only [go_sem, a1, a2]
 refine LoopK.intro (fun i : Nat => ⟨76, [(1, vs 0 v), (2, .pb 0 0), (4, .nil), (6, vb false), (7, vi i)], [cR r]⟩) (fun i => v.length - i) (fun i => i <= v.length /\ ∀ j, j < i -> r.need[j]! <= v[j]!) 0 ⟨by omega, fun j hj => by omega⟩ ?_ ?_
 ·simp only [go_sem]
  all_goals exact leB_self _
 rintro i ⟨hi, hb⟩
 by_cases h : i < v.length
 ·have hn : i < r.need.length := by omega
  have hg := getv h
  have hg' := getv hn
  have hw : IntKind.i64.wrap (i + 1) = i + 1 := wrap_in (by omega) (by omega)
  simp only [go_sem, h]
  refine DrawK.walk 9 mixed (by kernel_rfl) ?_
  simp only [go_sem, h, hn, hg, hg']
  by_cases hlt : v[i]! < r.need[i]!
  ·simp only [go_sem, hlt, can_stop h hlt]
  ·simp only [go_sem, hlt, hw]
   refine roundK.intro (i + 1) ⟨by omega, fun j hj => ?_⟩ (by omega) ?_
   ·by_cases hji : j = i
    ·subst hji; omega
    ·exact hb j (by omega)
   ·simp only [go_sem]
 have hcan : canV r v = true := canV_iff.2 fun j hj => hb j (by omega)
 simp only [go_sem, h, hcan]
 refine LoopK.intro (fun i : Nat => ⟨76, [(1, vs 0 v), (2, .pb 0 0), (4, .sl 320 1 (((fireO r v).take i).map vi)), (6, vb (overN r v i)), (8, vi i)], [cR r]⟩) (fun i => v.length - i) (fun i => i <= v.length) 0 (by omega) ?_ ?_
 ·simp only [go_sem, List.take_zero, List.map_nil, overN, List.range_zero, List.any_nil]
  all_goals exact leB_self _
 rintro i hi
 by_cases h : i < v.length
 case neg =>
  obtain rfl : i = v.length := by omega
  have e : (fireO r v).take v.length = fireO r v := List.take_of_length_le (by rw [fireO_len]; exact Nat.le_refl _)
  simp only [go_sem, h, e, overN_all]
 have hn : i < r.need.length := by omega
 have hgl : i < r.give.length := by omega
 have hg := getv h
 have hg' := getv hn
 have hg2 := getv hgl
 have hs := hv.small (i := i) (by omega)
 have hl := hr.low i (by omega)
 have hw : IntKind.i64.wrap (i + 1) = i + 1 := wrap_in (by omega) (by omega)
 have hw2 : IntKind.i64.wrap (r.give[i]! - r.need[i]!) = r.give[i]! - r.need[i]! := wrap_in (by omega) (by omega)
 have hw3 : IntKind.i64.wrap (v[i]! + (r.give[i]! - r.need[i]!)) = v[i]! + (r.give[i]! - r.need[i]!) := wrap_in (by omega) (by omega)
 have hro : roomFor (((fireO r v).take i).length + 1) 8 := by simp only [roomFor, List.length_take, fireO_len]; omega
 have e1 := fire_take (r := r) h
 have e2 := overN_succ (r := r) (v := v) (n := i)
 by_cases ho : v[i]! = 1099511627776
 ·have ho' : (v[i]! != 1099511627776) = false := by rw [ho]; rfl
  rw [if_pos ho] at e1
  rw [show decide (v[i]! ≠ Om) = false from decide_eq_false (by rw [ho]; simp), Bool.false_and, Bool.or_false] at e2
  simp only [go_sem, h, hg, ho', hro, List.length_map]
  refine roundK.intro (i + 1) (by omega) (by omega) ?_
  simp only [go_sem, e1, e2, List.map_append, List.map_cons, List.map_nil, hw, ho]
 ·have ho' : (v[i]! != 1099511627776) = true := bne_iff_ne.2 ho
  rw [if_neg ho] at e1
  rw [show decide (v[i]! ≠ Om) = true from decide_eq_true ho, Bool.true_and] at e2
  simp only [go_sem, h, hg, ho']
  refine DrawK.walk 14 mixed (by kernel_rfl) ?_
  simp only [go_sem, hn, hgl, hg', hg2, hw2]
  cases hov : overN r v i
  ·rw [hov, Bool.false_or] at e2
   by_cases hb : 1048576 < v[i]! + (r.give[i]! - r.need[i]!)
   ·rw [decide_eq_true hb] at e2
    simp only [go_sem, hro, List.length_map]
    refine roundK.intro (i + 1) (by omega) (by omega) ?_
    simp only [go_sem, e1, e2, List.map_append, List.map_cons, List.map_nil, hw, hw3, hb, decide_true]
   ·rw [decide_eq_false hb] at e2
    simp only [go_sem, hro, List.length_map]
    refine roundK.intro (i + 1) (by omega) (by omega) ?_
    simp only [go_sem, e1, e2, List.map_append, List.map_cons, List.map_nil, hw, hw3, hb, decide_false]
  ·rw [hov, Bool.true_or] at e2
   simp only [go_sem, hro, List.length_map]
   refine roundK.intro (i + 1) (by omega) (by omega) ?_
   simp only [go_sem, e1, e2, List.map_append, List.map_cons, List.map_nil, hw, hw3]
def lessO (a b : List Int) : Bool := (List.range a.length).any fun i => decide (a[i]! < b[i]!) && decide (b[i]! ≠ Om)
theorem less_hit {a b : List Int} {i : Nat} (h : i < a.length) (h1 : a[i]! < b[i]!) (h2 : b[i]! ≠ Om) : lessO a b = true := by
 unfold lessO
 rw [List.any_eq_true]
 exact ⟨i, List.mem_range.2 h, by rw [decide_eq_true h1, decide_eq_true h2]; rfl⟩
theorem less_none {a b : List Int} (h : ∀ i, i < a.length -> ¬ (a[i]! < b[i]! /\ b[i]! ≠ Om)) : lessO a b = false := by
 unfold lessO
 rw [List.any_eq_false]
 intro i hi
 have := h i (List.mem_range.1 hi)
 rw [Bool.and_eq_true, decide_eq_true_eq, decide_eq_true_eq]
 exact this
theorem con_rless (a b : List Int) (h : a.length = b.length) (h6 : a.length <= 1000000) : Con Tryz.prog 131 [vs 0 a, vs 0 b] [] fun x _ => x = vb (lessO a b) := by
 refine Con.intro Tryz.func131 rfl Tryz.ntmps131 Tryz.results131 (by kernel_rfl) (by simp) 0 (by simp) ?_
 simp only [go_sem]
 refine LoopK.intro (fun i : Nat => ⟨34, [(0, vs 0 a), (1, vs 0 b), (5, vi i)], []⟩) (fun i => a.length - i) (fun i => i <= a.length /\ ∀ j, j < i -> ¬ (a[j]! < b[j]! /\ b[j]! ≠ Om)) 0 ⟨by omega, fun j hj => by omega⟩ ?_ ?_
 ·simp only [go_sem]
 rintro i ⟨hi, hb⟩
 by_cases hlt : i < a.length
 case neg => simp only [go_sem, hlt, less_none fun j hj => hb j (by omega)]
 have hlt2 : i < b.length := by omega
 have hg := getv hlt
 have hg' := getv hlt2
 have hw : IntKind.i64.wrap (i + 1) = i + 1 := wrap_in (by omega) (by omega)
 simp only [go_sem, hlt, hlt2]
 refine DrawK.walk 16 mixed (by kernel_rfl) ?_
 by_cases h1 : a[i]! < b[i]!
 ·by_cases h2 : b[i]! = 1099511627776
  ·have h2' : (b[i]! != 1099511627776) = false := by rw [h2]; rfl
   simp only [go_sem, hlt, hlt2, hg, hg', h1, h2', hw]
   refine roundK.intro (i + 1) ⟨by omega, fun j hj => ?_⟩ (by omega) ?_
   ·by_cases hji : j = i
    ·subst hji; exact fun hh => hh.2 h2
    ·exact hb j (by omega)
   ·simp only [go_sem]
  ·have h2' : (b[i]! != 1099511627776) = true := bne_iff_ne.2 h2
   simp only [go_sem, hlt, hlt2, hg, hg', h1, h2', less_hit hlt h1 h2]
 ·simp only [go_sem, hlt, hlt2, hg, hg', h1, hw]
  refine roundK.intro (i + 1) ⟨by omega, fun j hj => ?_⟩ (by omega) ?_
  ·by_cases hji : j = i
   ·subst hji; exact fun hh => h1 hh.1
   ·exact hb j (by omega)
  ·simp only [go_sem]
def ordL (a b : Int) : Int := if a < b then -1 else if b < a then 1 else 0
def lexI : List Int -> List Int -> Int
 | x :: xs, y :: ys => if x = y then lexI xs ys else ordL x y
 | _, _ => 0
def cmpI (a b : List Int) : Int := if a.length = b.length then lexI a b else ordL a.length b.length
theorem ord_zero {a b : Int} : ordL a b = 0 ↔ a = b := by unfold ordL; split <;> (try split) <;> omega
theorem lex_zero : ∀ {a b : List Int}, a.length = b.length -> (lexI a b = 0 ↔ a = b)
 | [], [], _ => by simp [lexI]
 | x :: xs, y :: ys, h => by
  unfold lexI
  have hl : xs.length = ys.length := by simpa using h
  split
  ·rename_i e; rw [lex_zero hl, e]; simp
  ·rename_i e; rw [ord_zero]; simp [e]
 | [], _ :: _, h => by simp at h
 | _ :: _, [], h => by simp at h
theorem cmp_zero {a b : List Int} : cmpI a b = 0 ↔ a = b := by
 unfold cmpI
 split
 ·rename_i h; exact lex_zero h
 ·rename_i h
  rw [ord_zero]
  exact ⟨fun e => by omega, fun e => by rw [e]⟩
theorem lex_drop {a b : List Int} (hl : a.length = b.length) : ∀ i, i <= a.length -> (∀ j, j < i -> a[j]! = b[j]!) -> lexI a b = lexI (a.drop i) (b.drop i)
 | 0, _, _ => rfl
 | i + 1, hi, h => by
  rw [lex_drop hl i (by omega) fun j hj => h j (by omega)]
  have h1 : i < a.length := by omega
  have h2 : i < b.length := by omega
  have e := h i (by omega)
  rw [getElem!_pos a i h1, getElem!_pos b i h2] at e
  rw [List.drop_eq_getElem_cons h1, List.drop_eq_getElem_cons h2, lexI, if_pos e]
theorem lex_stop {a b : List Int} (hl : a.length = b.length) {i : Nat} (hi : i < a.length) (h : ∀ j, j < i -> a[j]! = b[j]!) (hn : a[i]! ≠ b[i]!) : lexI a b = ordL a[i]! b[i]! := by
 have h2 : i < b.length := by omega
 rw [lex_drop hl i (by omega) h]
 rw [getElem!_pos a i hi, getElem!_pos b i h2] at *
 rw [List.drop_eq_getElem_cons hi, List.drop_eq_getElem_cons h2, lexI, if_neg hn]
theorem lex_same {a b : List Int} (hl : a.length = b.length) (h : ∀ j, j < a.length -> a[j]! = b[j]!) : lexI a b = 0 := by
 rw [lex_drop hl a.length (Nat.le_refl _) h, List.drop_eq_nil_of_le (Nat.le_refl _)]
 unfold lexI; rfl
theorem con_rorder (a b : Int) : Con Tryz.prog 56 [vi a, vi b] [] fun r _ => r = vi (ordL a b) := by
 refine Con.intro Tryz.func56 rfl Tryz.ntmps56 Tryz.results56 (by kernel_rfl) (by simp) 0 (by simp) ?_
 unfold ordL
 by_cases h1 : a < b
 ·simp only [go_sem, h1, if_true]
 ·by_cases h2 : b < a
  ·simp only [go_sem, h1, h2, if_true, if_false]
  ·simp only [go_sem, h1, h2, if_true, if_false]
theorem con_rcompareI (a b : List Int) (ha : a.length <= 1000000) : Con Tryz.prog 30 [vs 0 a, vs 0 b] [] fun r _ => r = vi (cmpI a b) := by
 refine Con.intro Tryz.func30 rfl Tryz.ntmps30 Tryz.results30 (by kernel_rfl) (by simp) 0 (by simp) ?_
 by_cases hl : a.length = b.length
 case neg =>
  have hl' : ((a.length : Int) != (b.length : Int)) = true := bne_iff_ne.2 (by omega)
  have e : cmpI a b = ordL a.length b.length := by unfold cmpI; rw [if_neg hl]
  simp only [go_sem, hl', List.length_map]
  refine CallU.free (con_rorder a.length b.length) (by simp only [go_sem]) (by simp only [go_sem]) ?_
  rintro x bx rfl
  simp only [go_sem, e]
 have e : cmpI a b = lexI a b := by unfold cmpI; rw [if_pos hl]
 have hl' : ((a.length : Int) != (b.length : Int)) = false := by rw [hl]; simp
 rw [e]
 simp only [go_sem, hl', List.length_map]
 refine LoopK.intro (fun i : Nat => ⟨40, [(0, vs 0 a), (1, vs 0 b), (5, vi i)], []⟩)
  (fun i => a.length - i) (fun i => i <= a.length /\ ∀ j, j < i -> a[j]! = b[j]!) 0 ⟨by omega, fun j hj => by omega⟩ ?_ ?_
 ·simp only [go_sem]
  all_goals exact leV_refl _
 rintro i ⟨hi, hb⟩
 by_cases h : i < a.length
 ·have h2 : i < b.length := by omega
  have g1 := getv h
  have g2 := getv h2
  have hw : IntKind.i64.wrap (i + 1) = i + 1 := wrap_in (by omega) (by omega)
  simp only [go_sem, h]
  refine DrawK.walk 9 mixed (by kernel_rfl) ?_
  by_cases hp : a[i]! = b[i]!
  ·have hp' : (a[i]! != b[i]!) = false := by rw [hp]; simp
   simp only [go_sem, h, h2, g1, g2, hp', hw]
   refine roundK.intro (i + 1) ⟨by omega, fun j hj => ?_⟩ (by omega) ?_
   ·by_cases hji : j = i
    ·subst hji; exact hp
    ·exact hb j (by omega)
   ·simp only [go_sem]
  ·have hp' : (a[i]! != b[i]!) = true := bne_iff_ne.2 hp
   have e2 := lex_stop hl h hb hp
   simp only [go_sem, h, h2, g1, g2, hp']
   refine DrawK.walk 10 mixed (by kernel_rfl) ?_
   simp only [go_sem, h, h2, g1, g2]
   refine CallY.mk (con_rorder a[i]! b[i]!) (by simp only [go_sem]) (by simp only [go_sem]) (.inl (by simp only [go_sem])) ?_
   simp only [go_sem, e2]
 ·have e2 := lex_same hl fun j hj => hb j (by omega)
  simp only [go_sem, h, e2]
theorem con_rsameI (a b : List Int) (ha : a.length <= 1000000) : Con Tryz.prog 99 [vs 0 a, vs 0 b] [] fun r _ => r = vb (a == b) := by
 refine Con.intro Tryz.func99 rfl Tryz.ntmps99 Tryz.results99 (by kernel_rfl) (by simp) 0 (by simp) ?_
 simp only [go_sem]
 refine CallU.free (con_rcompareI a b ha) (by simp only [go_sem]) (by simp only [go_sem]) ?_
 rintro x bx rfl
 have e : (cmpI a b == 0) = (a == b) := by rw [Bool.eq_iff_iff, beq_iff_eq, beq_iff_eq]; exact cmp_zero
 simp only [go_sem, e]
structure NodesOk (ns np : Nat) (l : List ND) : Prop where
 len : l.length <= 256
 node : ∀ i, i < l.length -> NodeOk ns np i l[i]!
theorem Tree.nodes {rules : List RD} {ns np : Nat} {s0 : Int} {v0 : List Int} {l : List ND} {next : Nat} (h : Tree rules ns np s0 v0 l next) : NodesOk ns np l := ⟨h.len, h.node⟩
def smallerF (l : List ND) (s : Int) (v : List Int) : Nat -> Int -> Int
 | 0, _ => -1
 | k + 1, n => if 0 <= n /\ n < l.length then if l[n.toNat]!.st == s && (leqV l[n.toNat]!.vec v && lessO l[n.toNat]!.vec v) then n else smallerF l s v k l[n.toNat]!.par else -1
theorem smaller_neg {l : List ND} {s : Int} {v : List Int} {n : Int} (h : n < 0) : ∀ k, smallerF l s v k n = -1
 | 0 => rfl
 | k + 1 => by unfold smallerF; rw [if_neg (by omega)]
theorem smaller_spec {l : List ND} {s : Int} {v : List Int} : ∀ (k : Nat) (n : Int), smallerF l s v k n = -1 \/ ∃ j : Nat, smallerF l s v k n = j /\ j < l.length /\ leqV l[j]!.vec v = true /\ lessO l[j]!.vec v = true
 | 0, n => .inl rfl
 | k + 1, n => by
  unfold smallerF
  split
  ·rename_i h
   split
   ·rename_i hq
    rw [Bool.and_eq_true, Bool.and_eq_true] at hq
    exact .inr ⟨n.toNat, by omega, by omega, hq.2.1, hq.2.2⟩
   ·exact smaller_spec k _
  ·exact .inl rfl
theorem con_smaller (l : List ND) (n : Int) (s : Int) (v : List Int) (ns np : Nat) (hok : NodesOk ns np l) (hv : okV np v) (h6 : np <= 6) (hn : -1 <= n /\ n < l.length) :
  Con Tryz.prog 100 [.sl 0 4 (l.map vND), vi n, vi s, vs 0 v] [] fun x _ => x = vi (smallerF l s v 257 n) := by
 refine Con.intro Tryz.func100 rfl Tryz.ntmps100 Tryz.results100 (by kernel_rfl) (by simp) 0 (by simp) ?_
 have hlen := hok.len
 have hvl := hv.1
 obtain ⟨R, hR⟩ : ∃ R, smallerF l s v 257 n = R := ⟨_, rfl⟩
 rw [hR]
 simp only [go_sem]
 refine LoopK.intro (fun p : Int × Nat => ⟨41, [(0, .sl 0 4 (l.map vND)), (1, vi p.1), (2, vi s), (3, vs 0 v)], Rk 4 p.2⟩) (fun p => (p.1 + 1).toNat) (fun p => -1 <= p.1 /\ p.1 < l.length /\ ∃ k : Nat, p.1 + 1 <= k /\ smallerF l s v k p.1 = R) (n, 0) ⟨hn.1, hn.2, 257, by show n + 1 <= ((257 : Nat) : Int); omega, hR⟩ ?_ ?_
 ·simp only [go_sem, Rk, List.replicate_zero]
 rintro ⟨m, k⟩ ⟨h1, h2, q, hq0, hqe⟩
 simp only at h1 h2 hq0 hqe
 by_cases h0 : 0 <= m
 case neg =>
  rw [smaller_neg (by omega)] at hqe
  simp only [go_sem, h0, <- hqe]
 obtain ⟨j, rfl⟩ : ∃ j : Nat, m = j := ⟨m.toNat, by omega⟩
 have hj : j < l.length := by omega
 have hg := getND hj
 have hx := hok.node j hj
 obtain ⟨q, rfl⟩ : ∃ q', q = q' + 1 := ⟨q - 1, by omega⟩
 rw [smallerF, if_pos ⟨by omega, by omega⟩, show ((j : Int)).toNat = j from rfl] at hqe
 obtain ⟨x, ex⟩ : ∃ x, x = l[j]! := ⟨_, rfl⟩
 rw [<- ex] at hg hx hqe
 have hxl := hx.vec.1
 have hxp := hx.par
 have hle := con_rvecLeq x.vec v (by omega) (by omega)
 have hls := con_rless x.vec v (by omega) (by omega)
 have hB' := Rk_len 4 k
 have n0 := fun L : List (List AV) => app_at0 (L := L) hB'
 have s0' := fun (L : List (List AV)) z => app_set0 (L := L) (z := z) hB'
 have fin : ∀ σ : St, σ.le ⟨41, [(0, .sl 0 4 (l.map vND)), (1, vi x.par), (2, vi s), (3, vs 0 v)], Rk 4 (k + 1)⟩ -> (x.st == s && (leqV x.vec v && lessO x.vec v)) = false -> roundK (fun p : Int × Nat => ⟨41, [(0, .sl 0 4 (l.map vND)), (1, vi p.1), (2, vi s), (3, vs 0 v)], Rk 4 p.2⟩) (fun p => (p.1 + 1).toNat) (fun p => -1 <= p.1 /\ p.1 < l.length /\ ∃ k : Nat, p.1 + 1 <= k /\ smallerF l s v k p.1 = R) ((j : Int), k) σ :=
  fun σ hσ hno => roundK.intro (x.par, k + 1) ⟨by show -1 <= x.par; omega, by show x.par < l.length; omega, q, by show x.par + 1 <= q; omega, by rw [hno, if_neg (by simp)] at hqe; exact hqe⟩ (by show (x.par + 1).toNat < ((j : Int) + 1).toNat; omega) hσ
 by_cases hs : x.st = s
 case neg =>
  have hs' : (x.st == s) = false := beq_eq_false_iff_ne.2 hs
  simp only [go_sem, h0, h2, hg, hB', n0, s0', List.length_map, hs']
  refine fin _ ?_ (by rw [hs']; rfl)
  simp only [go_sem, Rk_succ]
  all_goals exact leB_RkA (x := [[_, _, _, _]]) ⟨⟨leV_any _, leV_any _, leV_any _, leV_any _, trivial⟩, trivial⟩
 have hs' : (x.st == s) = true := beq_iff_eq.2 hs
 simp only [go_sem, h0, h2, hg, hB', n0, s0', List.length_map, hs']
 refine CallU.free hle (by simp only [go_sem]) (by simp only [go_sem]) ?_
 rintro r bx rfl
 cases hq : leqV x.vec v
 ·simp only [go_sem, n0]
  refine fin _ ?_ (by rw [hq, Bool.false_and, Bool.and_false])
  simp only [go_sem, Rk_succ]
  all_goals exact leB_RkA (x := [[_, _, _, _]]) ⟨⟨leV_any _, leV_any _, leV_any _, leV_any _, trivial⟩, trivial⟩
 simp only [go_sem, n0]
 refine CallU.free hls (by simp only [go_sem]) (by simp only [go_sem]) ?_
 rintro r bx rfl
 cases hq2 : lessO x.vec v
 ·simp only [go_sem, n0]
  refine fin _ ?_ (by rw [hq2, Bool.and_false, Bool.and_false])
  simp only [go_sem, Rk_succ]
  all_goals exact leB_RkA (x := [[_, _, _, _]]) ⟨⟨leV_any _, leV_any _, leV_any _, leV_any _, trivial⟩, trivial⟩
 rw [hs', hq, hq2, if_pos (by simp)] at hqe
 simp only [go_sem, <- hqe]
def raiseV (x w : List Int) (i : Nat) : List Int := (List.range w.length).map fun j => if j < i /\ x[j]! < w[j]! then Om else w[j]!
theorem raiseV_len (x w : List Int) (i : Nat) : (raiseV x w i).length = w.length := by simp [raiseV]
theorem raiseV_at {x w : List Int} {i j : Nat} (h : j < w.length) : (raiseV x w i)[j]! = if j < i /\ x[j]! < w[j]! then Om else w[j]! := by
 rw [getElem!_pos _ j (by rw [raiseV_len]; exact h)]; simp [raiseV]
theorem raiseV_zero (x w : List Int) : raiseV x w 0 = w := by
 apply List.ext_getElem (raiseV_len _ _ _)
 intro j h1 h2
 rw [<- getElem!_pos (raiseV x w 0) j h1, raiseV_at h2, getElem!_pos w j h2]; simp
theorem raiseV_keep {x w : List Int} {i : Nat} (h : ¬ x[i]! < w[i]!) : raiseV x w (i + 1) = raiseV x w i := by
 unfold raiseV
 apply List.map_congr_left
 intro j _
 by_cases hj : j = i
 ·subst hj; rw [if_neg (fun hh => h hh.2), if_neg (fun hh => h hh.2)]
 ·by_cases h1 : j < i /\ x[j]! < w[j]!
  ·rw [if_pos h1, if_pos ⟨by omega, h1.2⟩]
  ·rw [if_neg h1, if_neg (fun hh => h1 ⟨by omega, hh.2⟩)]
theorem raiseV_set {x w : List Int} {i : Nat} (_hi : i < w.length) (h : x[i]! < w[i]!) : (raiseV x w i).set i Om = raiseV x w (i + 1) := by
 apply List.ext_getElem (by rw [List.length_set, raiseV_len, raiseV_len])
 intro j h1 h2
 have hj : j < w.length := by rw [raiseV_len] at h2; exact h2
 rw [List.getElem_set, <- getElem!_pos (raiseV x w (i + 1)) j h2, raiseV_at hj]
 by_cases e : i = j
 ·subst e; rw [if_pos rfl, if_pos ⟨by omega, h⟩]
 ·rw [if_neg e, <- getElem!_pos (raiseV x w i) j (by rw [raiseV_len]; exact hj), raiseV_at hj]
  by_cases h1 : j < i /\ x[j]! < w[j]!
  ·rw [if_pos h1, if_pos ⟨by omega, h1.2⟩]
  ·rw [if_neg h1, if_neg (fun hh => h1 ⟨by omega, hh.2⟩)]
def finN (w : List Int) : Nat := ((List.range w.length).filter fun i => w[i]! != Om).length
theorem filter_lt {α : Type} {p q : α -> Bool} : ∀ {l : List α} {x : α}, (∀ y ∈ l, q y = true -> p y = true) -> x ∈ l -> p x = true -> q x = false -> (l.filter q).length < (l.filter p).length
 | [], x, _, hx, _, _ => by cases hx
 | y :: l, x, h, hx, hp, hq => by
  have hmono : (l.filter q).length <= (l.filter p).length := by
   have : ∀ {l : List α}, (∀ y ∈ l, q y = true -> p y = true) -> (l.filter q).length <= (l.filter p).length := by
    intro l
    induction l with
    | nil => intro _; simp
    | cons a l ih =>
     intro h
     have := ih fun y hy => h y (List.mem_cons_of_mem _ hy)
     have ha := h a (List.mem_cons_self ..)
     rw [List.filter_cons, List.filter_cons]
     cases hqa : q a
     ·cases hpa : p a <;> simp <;> omega
     ·rw [ha hqa]; simp; omega
   exact this fun y hy => h y (List.mem_cons_of_mem _ hy)
  rw [List.filter_cons, List.filter_cons]
  rcases List.mem_cons.1 hx with rfl | hx
  ·rw [hp, hq]; simp; omega
  ·have ih := filter_lt (fun y hy => h y (List.mem_cons_of_mem _ hy)) hx hp hq
   have ha := h y (List.mem_cons_self ..)
   cases hqa : q y
   ·cases hpa : p y <;> simp <;> omega
   ·rw [ha hqa]; simp; omega
theorem raise_fin {x w : List Int} (hl : x.length = w.length) (h : lessO x w = true) : finN (raiseV x w w.length) < finN w := by
 unfold lessO at h
 rw [List.any_eq_true] at h
 obtain ⟨i, hi, h⟩ := h
 rw [List.mem_range] at hi
 rw [Bool.and_eq_true, decide_eq_true_eq, decide_eq_true_eq] at h
 unfold finN
 rw [raiseV_len]
 refine filter_lt (x := i) (fun j hj hq => ?_) (List.mem_range.2 (by omega)) (bne_iff_ne.2 h.2) ?_
 ·rw [List.mem_range] at hj
  rw [raiseV_at hj] at hq
  rw [bne_iff_ne] at hq ⊢
  intro e
  rw [e] at hq
  split at hq <;> exact hq rfl
 ·rw [raiseV_at (by omega), if_pos ⟨by omega, h.1⟩]; rfl
theorem raise_ok {np : Nat} {x w : List Int} {i : Nat} (h : okV np w) : okV np (raiseV x w i) := by
 refine ⟨by rw [raiseV_len]; exact h.1, fun y hy => ?_⟩
 obtain ⟨j, hj, rfl⟩ := List.mem_iff_getElem.1 hy
 have hj' : j < w.length := by rw [raiseV_len] at hj; exact hj
 rw [<- getElem!_pos (raiseV x w i) j hj, raiseV_at hj']
 split
 ·exact .inr rfl
 ·exact h.at (by have := h.1; omega)
theorem raise_up {v x w : List Int} {i : Nat} (h : raised v w) (hl : v.length = w.length) : raised v (raiseV x w i) := by
 intro j hj
 rw [raiseV_at (by omega)]
 split
 ·exact .inr rfl
 ·exact h j hj
def raiseF (l : List ND) (n : Int) (s : Int) : Nat -> List Int -> List Int
 | 0, v => v
 | k + 1, v => if smallerF l s v 257 n < 0 then v else raiseF l n s k (raiseV l[(smallerF l s v 257 n).toNat]!.vec v v.length)
theorem raiseF_good {l : List ND} {n s : Int} {np : Nat} {v0 : List Int} : ∀ (k : Nat) {w : List Int}, okV np w -> v0.length = np -> raised v0 w -> okV np (raiseF l n s k w) /\ raised v0 (raiseF l n s k w)
 | 0, w, h, _, hr => ⟨h, hr⟩
 | k + 1, w, h, hl, hr => by
  unfold raiseF
  split
  ·exact ⟨h, hr⟩
  ·exact raiseF_good k (raise_ok h) hl (raise_up hr (by have := h.1; omega))
def raiseT (l : List ND) (n : Nat) (s : Int) (v : List Int) : List Int := raiseF l n s (finN v + 1) v
theorem con_raise (l : List ND) (n : Nat) (s : Int) (v : List Int) (ns np : Nat) (hok : NodesOk ns np l) (hv : okV np v) (h6 : np <= 6) (hn : n < l.length) :
  Con Tryz.prog 78 [.sl 0 4 (l.map vND), vi n, vi s, vs 0 v] [] fun x _ => x = vs 0 (raiseT l n s v) := by
 refine Con.intro Tryz.func78 rfl Tryz.ntmps78 Tryz.results78 (by kernel_rfl) (by simp) 0 (by simp) ?_
 have hlen := hok.len
 have hvl := hv.1
 simp only [go_sem]
 refine LoopK.intro (fun w : List Int => ⟨45, [(0, .sl 0 4 (l.map vND)), (1, vi n), (2, vi s), (3, vs 0 w)], []⟩) (fun w => finN w) (fun w => okV np w /\ ∃ k, finN w < k /\ raiseF l n s k w = raiseT l n s v) v ⟨hv, _, Nat.lt_succ_self _, rfl⟩ ?_ ?_
 ·simp only [go_sem]
 rintro w ⟨h1, q, hq0, hqe⟩
 have hwl := h1.1
 obtain ⟨q, rfl⟩ : ∃ q', q = q' + 1 := ⟨q - 1, by omega⟩
 rw [raiseF] at hqe
 have hk := smaller_spec (l := l) (s := s) (v := w) 257 n
 simp only [go_sem]
 refine CallU.free (con_smaller l n s w ns np hok h1 h6 ⟨by omega, by omega⟩) (by simp only [go_sem]) (by simp only [go_sem]) ?_
 rintro r bx rfl
 generalize smallerF l s w 257 n = k at hk hqe
 rcases hk with rfl | ⟨j, rfl, hj, hle, hls⟩
 ·rw [if_pos (by omega)] at hqe
  rw [<- hqe]
  simp only [go_sem]
 rw [if_neg (by omega), show ((j : Int)).toNat = j from rfl] at hqe
 have hj0 : ¬ (j : Int) < 0 := by omega
 have hg := getND hj
 have hx := hok.node j hj
 have hxl := hx.vec.1
 generalize l[j]! = x at *
 simp only [go_sem, hj0]
 refine CallU.free (con_rcopy w (by omega)) (by simp only [go_sem]) (by simp only [go_sem]) ?_
 rintro r bx rfl
 simp only [go_sem]
 refine LoopK.intro (fun i : Nat => ⟨45, [(0, .sl 0 4 (l.map vND)), (1, vi n), (2, vi s), (3, vs 0 w), (9, vi j), (10, .sl 1410 1 ((raiseV x.vec w i).map vi)), (11, vi i)], []⟩) (fun i => w.length - i) (fun i => i <= w.length) 0 (by omega) ?_ ?_
 ·simp only [go_sem, raiseV_zero]
  all_goals exact leV_refl _
 rintro i hi
 by_cases h : i < w.length
 case neg =>
  obtain rfl : i = w.length := by omega
  simp only [go_sem, h]
  refine roundK.freeze (fun _ => true) (raiseV x.vec w w.length) ⟨raise_ok h1, q, by have := raise_fin (x := x.vec) (w := w) (by omega) hls; omega, hqe⟩ (raise_fin (by omega) hls) ?_
  simp only [go_sem]
 have hxi : i < x.vec.length := by omega
 have hri : i < (raiseV x.vec w i).length := by rw [raiseV_len]; exact h
 have g1 := getv h
 have g2 := getv hxi
 have hw : IntKind.i64.wrap (i + 1) = i + 1 := wrap_in (by omega) (by omega)
 simp only [go_sem, h]
 refine DrawK.walk 12 mixed (by kernel_rfl) ?_
 by_cases hlt : x.vec[i]! < w[i]!
 ·have hset : (List.map vi (raiseV x.vec w i)).modify i (updElem 0 [AV.sc (.int .i64 1099511627776)]) = (raiseV x.vec w (i + 1)).map vi := by rw [<- raiseV_set h hlt]; exact modify_vi
  simp only [go_sem, h, hj, hxi, hg, g1, g2, hlt, hri, hset, hw, List.length_map]
  refine roundK.intro (i + 1) (by omega) (by omega) ?_
  simp only [go_sem]
 ·simp only [go_sem, h, hj, hxi, hg, g1, g2, hlt, hw, List.length_map]
  refine roundK.intro (i + 1) (by omega) (by omega) ?_
  simp only [go_sem, raiseV_keep hlt]
theorem con_again (l : List ND) (n : Nat) (ns np : Nat) (hok : NodesOk ns np l) (h6 : np <= 6) (hn : n < l.length) :
  Con Tryz.prog 76 [.sl 0 4 (l.map vND), vi n] [] fun x _ => ∃ b, x = vb b /\ (b = true -> ∃ k, k < n /\ l[k]!.st = l[n]!.st /\ l[k]!.vec = l[n]!.vec) := by
 refine Con.intro Tryz.func76 rfl Tryz.ntmps76 Tryz.results76 (by kernel_rfl) (by simp) 0 (by simp) ?_
 have hlen := hok.len
 have gn := getND hn
 have hN := hok.node n hn
 have hNp := hN.par
 have hNl := hN.vec.1
 obtain ⟨y, ey⟩ : ∃ y, y = l[n]! := ⟨_, rfl⟩
 rw [<- ey] at gn hN hNp hNl ⊢
 simp only [go_sem, hn, gn, List.length_map]
 refine LoopK.intro (fun p : Int => ⟨42, [(0, .sl 0 4 (l.map vND)), (1, vi n), (5, vi p)], []⟩) (fun p => (p + 1).toNat) (fun p => -1 <= p /\ p < n) y.par hNp ?_ ?_
 ·simp only [go_sem]
 rintro m ⟨h1, h2⟩
 by_cases h0 : 0 <= m
 case neg =>
  simp only [go_sem, h0]
  exact ⟨false, rfl, fun h => by cases h⟩
 obtain ⟨j, rfl⟩ : ∃ j : Nat, m = j := ⟨m.toNat, by omega⟩
 have hj : j < l.length := by omega
 have hg := getND hj
 have hx := hok.node j hj
 have hxp := hx.par
 have hxl := hx.vec.1
 obtain ⟨x, ex⟩ : ∃ x, x = l[j]! := ⟨_, rfl⟩
 rw [<- ex] at hg hx hxp hxl
 have hsm := con_rsameI x.vec y.vec (by omega)
 simp only [go_sem, h0]
 refine DrawK.walk 22 mixed (by kernel_rfl) ?_
 by_cases hs : x.st = y.st
 case neg =>
  have hs' : (x.st == y.st) = false := beq_eq_false_iff_ne.2 hs
  simp only [go_sem, hj, hn, hg, gn, hs', List.length_map]
  refine roundK.intro x.par ⟨by omega, by omega⟩ (by omega) ?_
  simp only [go_sem]
 have hs' : (x.st == y.st) = true := beq_iff_eq.2 hs
 simp only [go_sem, hj, hn, hg, gn, hs', List.length_map]
 refine CallU.free hsm (by simp only [go_sem]) (by simp only [go_sem]) ?_
 rintro r bx rfl
 cases hq : (x.vec == y.vec)
 ·simp only [go_sem, hj, hg, List.length_map]
  refine roundK.intro x.par ⟨by omega, by omega⟩ (by omega) ?_
  simp only [go_sem]
 ·simp only [go_sem]
  exact ⟨true, rfl, fun _ => ⟨j, by omega, by rw [<- ex]; exact hs, by rw [<- ex]; exact beq_iff_eq.1 hq⟩⟩
end Go.AM
