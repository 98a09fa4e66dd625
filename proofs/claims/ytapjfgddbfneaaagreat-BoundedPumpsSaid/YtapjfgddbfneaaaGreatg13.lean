/- TE CmU TG LPump -/
import Derived.Test.YtapjfgddbfneaaaGreatg12
import Derived.Test.YtapjfgddbfneaaaGreatg9
import Derived.Test.YtapjfgddbfneaaaGreatg7
namespace Go.AM
open Go Go.Proofs Go.RowKit
set_option maxRecDepth 100000
set_option maxHeartbeats 8000000
theorem con_rcopyF (l : List Int) (h2 : l.length <= 1000000) : Con Tryz.prog 31 [vs 0 l] [] fun r _ => r = vs 0 l :=
 (Con.freezeR (fun _ => true) (con_rcopy l h2)).weak fun r b ⟨r0, h0, h1⟩ => by
  subst h0; subst h1
  exact ⟨_, rfl, leV_refl _⟩
theorem any_hit {α : Type _} [Inhabited α] {l : List α} {p : α -> Bool} {i : Nat} (h : i < l.length) (hp : p l[i]! = true) : l.any p = true := by
 rw [List.any_eq_true]
 exact ⟨l[i]!, by rw [getElem!_pos l i h]; exact List.getElem_mem h, hp⟩
theorem any_none {α : Type _} [Inhabited α] {l : List α} {p : α -> Bool} (h : ∀ i, i < l.length -> p l[i]! = false) : l.any p = false := by
 rw [List.any_eq_false]
 intro x hx
 obtain ⟨i, hi, rfl⟩ := List.mem_iff_getElem.1 hx
 have := h i hi
 rw [getElem!_pos l i hi] at this
 rw [this]; simp
theorem con_rdone (l : List ND) (next : Int) : Con Tryz.prog 11 [.ag [.sl 0 4 (l.map vND), vi next]] [] fun x _ => x = vb (next == (l.length : Int)) := by
 refine Con.intro Tryz.func11 rfl Tryz.ntmps11 Tryz.results11 (by kernel_rfl) (by simp) 0 (by simp) ?_
 simp only [go_sem, List.length_map]
theorem con_rcovers (L : List SV) (s : Int) (v : List Int) (hL : ∀ y ∈ L, y.2.length <= 1000000) (hl : L.length <= 1000000) (hv : v.length <= 1000000) : Con Tryz.prog 28 [.sl 0 2 (L.map vLim), vi s, vs 0 v] [] fun x _ => x = vb (coverB L s v) := by
 refine Con.intro Tryz.func28 rfl Tryz.ntmps28 Tryz.results28 (by kernel_rfl) (by simp) 0 (by simp) ?_
 unfold coverB
 simp only [go_sem]
 refine LoopK.intro (fun i : Nat => ⟨30, [(0, .sl 0 2 (L.map vLim)), (1, vi s), (2, vs 0 v), (7, vi i)], []⟩) (fun i => L.length - i) (fun i => i <= L.length /\ ∀ j, j < i -> (L[j]!.1 == s && leqV v L[j]!.2) = false) 0 ⟨by omega, fun j hj => by omega⟩ ?_ ?_
 ·simp only [go_sem]
 rintro i ⟨hi, hb⟩
 by_cases h : i < L.length
 case neg => simp only [go_sem, h, List.length_map, any_none (p := fun y : SV => y.1 == s && leqV v y.2) fun j hj => hb j (by omega)]
 have hg := getLim h
 have hm := hL _ (mem_bangL h)
 have hhit := fun hp => any_hit (p := fun y : SV => y.1 == s && leqV v y.2) h hp
 have hb2 : (L[i]!.1 == s && leqV v L[i]!.2) = false -> ∀ j, j < i + 1 -> (L[j]!.1 == s && leqV v L[j]!.2) = false := fun e j hj => by
  by_cases hji : j = i
  ·subst hji; exact e
  ·exact hb j (by omega)
 generalize L[i]! = y at *
 have hle := con_rvecLeq v y.2 hv hm
 have hw : IntKind.i64.wrap (i + 1) = i + 1 := wrap_in (by omega) (by omega)
 by_cases hs : y.1 = s
 case neg =>
  have hs' : (y.1 == s) = false := beq_eq_false_iff_ne.2 hs
  simp only [go_sem, h, hg, hs', hw, List.length_map]
  refine roundK.intro (i + 1) ⟨by omega, hb2 (by rw [hs']; rfl)⟩ (by omega) ?_
  simp only [go_sem]
 have hs' : (y.1 == s) = true := beq_iff_eq.2 hs
 simp only [go_sem, h, hg, hs', List.length_map]
 refine CallU.free hle (by simp only [go_sem]) (by simp only [go_sem]) ?_
 rintro r bx rfl
 cases hq : leqV v y.2
 ·simp only [go_sem, hw]
  refine roundK.intro (i + 1) ⟨by omega, hb2 (by rw [hq, Bool.and_false])⟩ (by omega) ?_
  simp only [go_sem]
 ·simp only [go_sem, hhit (by rw [hs', hq]; rfl)]
theorem leq_le {np : Nat} {a b : List Int} (ha : okV np a) (hb : okV np b) (h6 : np <= 6) (h : leqV a b = true) : ∀ j, j < np -> a[j]! <= b[j]! := (leq_iff ha hb h6).1 h
theorem con_rlimits (l : List ND) (next : Int) (ns np : Nat) (hok : NodesOk ns np l) (h6 : np <= 6) : Con Tryz.prog 12 [.ag [.sl 0 4 (l.map vND), vi next]] [] fun x _ => ∃ L, LimOk ns np l l.length L /\ x = .sl 0 2 (L.map vLim) := by
 refine Con.intro Tryz.func12 rfl Tryz.ntmps12 Tryz.results12 (by kernel_rfl) (by simp) 0 (by simp) ?_
 have hlen := hok.len
 simp only [go_sem]
 refine LoopK.intro (fun p : Nat × List SV × List Nat => ⟨100, [(1, .pb 0 0), (3, .sl 0 2 (p.2.1.map vLim)), (4, vi p.1)], [.sl 0 4 (l.map vND), vi next] :: Jk p.2.2⟩) (fun p => l.length - p.1) (fun p => p.1 <= l.length /\ LimOk ns np l p.1 p.2.1) (0, [], [])
  ⟨by show 0 <= _; omega, ⟨by simp, fun y hy => (by cases hy), fun i hi => (by omega)⟩⟩ ?_ ?_
 ·simp only [go_sem, Jk, List.map_nil]
 rintro ⟨i, L, ks⟩ ⟨hi, hL⟩
 simp only at hi hL
 have hB := Jk_len ks
 by_cases h : i < l.length
 case neg =>
  obtain rfl : i = l.length := by omega
  simp only [go_sem, h, List.length_map]
  exact ⟨L, hL, rfl⟩
 have hLl := hL.few
 have hLr := hL.real
 have hg := getND h
 have hx := hok.node i h
 have hxm : l[i]! ∈ l := by rw [getElem!_pos l i h]; exact List.getElem_mem h
 have hcov := hL.cover (n := i)
 have hfin := fun P => LimPart.done (P := P) hL
 have hst := hx.st
 have hvec := hx.vec
 have hxl := hx.vec.1
 have hw : IntKind.i64.wrap (i + 1) = i + 1 := wrap_in (by omega) (by omega)
 obtain ⟨x, ex⟩ : ∃ x, x = l[i]! := ⟨_, rfl⟩
 rw [<- ex] at hg hx hxm hcov hfin hst hvec hxl
 have n0 := fun L : List (List AV) => app_at0 (L := L) hB
 have n1 := fun (L : List (List AV)) (i : Nat) => app_at (L := L) (i := i) hB
 have s0 := fun (L : List (List AV)) z => app_set0 (L := L) (z := z) hB
 have s1 := fun (L : List (List AV)) (i : Nat) z => app_setN (L := L) (i := i) (z := z) hB
 simp only [go_sem, h, hg, hB, n0, s0, List.length_map]
 refine CallU.free (con_rcovers L x.st x.vec (fun y hy => by have := (hLr y hy).2.2.1.1; omega) (by omega) (by omega)) (by simp only [go_sem]) (by simp only [go_sem]) ?_
 rintro r bx rfl
 cases hc : coverB L x.st x.vec
 case true =>
  unfold coverB at hc
  rw [List.any_eq_true] at hc
  obtain ⟨y, hy, hc⟩ := hc
  rw [Bool.and_eq_true, beq_iff_eq] at hc
  have hyo := (hLr y hy).2.2.1
  simp only [go_sem, hw]
  refine roundK.intro (i + 1, L, ks ++ [4]) ⟨by show i + 1 <= _; omega, hcov ⟨y, hy, hc.1, leq_le hvec hyo h6 hc.2⟩⟩ (by show l.length - (i + 1) < l.length - i; omega) ?_
  simp only [go_sem]
  exact leB_JkA ⟨⟨leV_any _, leV_any _, leV_any _, leV_any _, trivial⟩, trivial⟩
 simp only [go_sem]
 refine LoopK.intro (fun p : Nat × List SV × Bool × List Nat => ⟨100, [(1, .pb 0 0), (3, .sl 0 2 (L.map vLim)), (4, vi i), (5, .pb (ks.length + 1) 0), (6, .sl 5312 2 (p.2.1.map vLim)), (7, vb p.2.2.1), (8, vi p.1)], [.sl 0 4 (l.map vND), vi next] :: (Jk ks ++ ([vi x.st, vs 0 x.vec, vi x.par, vi x.rule] :: Jk p.2.2.2))⟩)
  (fun p => L.length - p.1) (fun p => p.1 <= L.length /\ LimPart ns np l x L p.1 p.2.1 p.2.2.1) (0, [], false, []) ⟨by show 0 <= _; omega, ⟨by simp, fun y hy => (by cases hy), fun h => (by cases h), fun i hi => (by omega)⟩⟩ ?_ ?_
 ·simp only [go_sem, Jk, List.map_nil]
  all_goals exact leB_self _
 rintro ⟨k, P, d, ds⟩ ⟨hk, hP⟩
 simp only at hk hP
 have hD := Jk_len ds
 have hPf := hP.few
 have hPl : P.length <= 300 := by cases d <;> simp at hPf <;> omega
 have m0 := fun L : List (List AV) => app_at0 (L := L) hD
 have t0 := fun (L : List (List AV)) z => app_set0 (L := L) (z := z) hD
 by_cases h2 : k < L.length
 case neg =>
  obtain rfl : k = L.length := by omega
  cases d
  ·have hp2 := hP.put hxm ⟨hst.1, hst.2, hvec⟩
   have hro : roomFor (P.length + 1) 32 := by simp only [roomFor]; omega
   simp only [go_sem, h2, List.length_map]
   refine DrawK.walk 8 mixed (by kernel_rfl) ?_
   simp only [go_sem, n0]
   refine CallY.mk (con_rcopyF x.vec (by omega)) (by simp only [go_sem]) (by simp only [go_sem]) (.inl (by simp only [go_sem])) ?_
   simp only [go_sem, hro, hw, List.length_map]
   refine roundK.freeze (fun _ => true) (i + 1, P ++ [(x.st, x.vec)], ks ++ (4 :: ds)) ⟨by show i + 1 <= _; omega, hfin _ hp2⟩ (by show l.length - (i + 1) < l.length - i; omega) ?_
   simp only [go_sem, List.map_append, List.map_cons, List.map_nil]
   exact leB_JkA ⟨⟨leV_any _, leV_any _, leV_any _, leV_any _, trivial⟩, leB_self _⟩
  ·simp only [go_sem, h2, hw, List.length_map]
   refine roundK.freeze (fun _ => true) (i + 1, P, ks ++ (4 :: ds)) ⟨by show i + 1 <= _; omega, hfin _ hP⟩ (by show l.length - (i + 1) < l.length - i; omega) ?_
   simp only [go_sem]
   exact leB_JkA ⟨⟨leV_any _, leV_any _, leV_any _, leV_any _, trivial⟩, leB_self _⟩
 have hLk := hLr _ (mem_bangL h2)
 have gk := getLim h2
 have hsk := hP.skip
 have hkp := hP.keep hLk
 have hkp2 := fun e : d = false => (LimPart.put (e ▸ hP) hxm ⟨hst.1, hst.2, hvec⟩).keep hLk
 have hyl := hLk.2.2.1
 have hyl2 := hyl.1
 have hw2 : IntKind.i64.wrap (k + 1) = k + 1 := wrap_in (by omega) (by omega)
 generalize L[k]! = y at *
 have hle := con_rvecLeq y.2 x.vec (by omega) (by omega)
 have hcmp := con_rcompareI y.2 x.vec (by omega)
 have hro1 : roomFor (P.length + 1) 32 := by simp only [roomFor]; omega
 have hro2 : roomFor (P.length + 1 + 1) 32 := by simp only [roomFor]; omega
 by_cases hs : y.1 = x.st
 ·have hs' : (y.1 == x.st) = true := beq_iff_eq.2 hs
  have hgt : ¬ x.st < y.1 := by omega
  simp only [go_sem, h2, gk, hB, hD, n0, n1, s1, m0, t0, List.length_map, List.append_assoc, List.cons_append, List.length_append, List.length_cons, List.length_nil, hs']
  refine CallU.free hle (by simp only [go_sem]) (by simp only [go_sem]) ?_
  rintro r bx rfl
  cases hq : leqV y.2 x.vec
  ·cases d
   ·simp only [go_sem, n0, n1, m0, hs', hgt]
    refine CallU.free hcmp (by simp only [go_sem]) (by simp only [go_sem]) ?_
    rintro r bx rfl
    by_cases hc2 : 0 < cmpI y.2 x.vec
    ·simp only [go_sem, hc2]
     refine DrawK.walk 8 mixed (by kernel_rfl) ?_
     simp only [go_sem, n0]
     refine CallY.mk (con_rcopyF x.vec (by omega)) (by simp only [go_sem]) (by simp only [go_sem]) (.inl (by simp only [go_sem])) ?_
     simp only [go_sem, n1, m0, List.length_map, List.append_assoc, List.cons_append, List.nil_append, List.length_append, List.length_cons, List.length_nil, hro1, hro2, hw2]
     refine roundK.intro (k + 1, P ++ [(x.st, x.vec)] ++ [y], true, ds ++ [2]) ⟨by show k + 1 <= _; omega, hkp2 rfl⟩ (by show L.length - (k + 1) < L.length - k; omega) ?_
     simp only [go_sem, List.map_append, List.map_cons, List.map_nil, List.append_assoc, List.cons_append, List.nil_append]
     exact leB_app (leB_self _) ⟨leC_self _, leB_JkA ⟨⟨leV_any _, leV_any _, trivial⟩, trivial⟩⟩
    ·simp only [go_sem, n1, m0, List.length_map, List.nil_append, List.length_cons, List.length_nil, hc2, hro1, hw2]
     refine roundK.intro (k + 1, P ++ [y], false, ds ++ [2]) ⟨by show k + 1 <= _; omega, hkp⟩ (by show L.length - (k + 1) < L.length - k; omega) ?_
     simp only [go_sem, List.map_append, List.map_cons, List.map_nil]
     exact leB_app (leB_self _) ⟨leC_self _, leB_JkA ⟨⟨leV_any _, leV_any _, trivial⟩, trivial⟩⟩
   ·simp only [go_sem, n1, m0, List.length_map, List.nil_append, List.length_cons, List.length_nil, hro1, hw2]
    refine roundK.intro (k + 1, P ++ [y], true, ds ++ [2]) ⟨by show k + 1 <= _; omega, hkp⟩ (by show L.length - (k + 1) < L.length - k; omega) ?_
    simp only [go_sem, List.map_append, List.map_cons, List.map_nil]
    exact leB_app (leB_self _) ⟨leC_self _, leB_JkA ⟨⟨leV_any _, leV_any _, trivial⟩, trivial⟩⟩
  ·simp only [go_sem, hw2]
   refine roundK.intro (k + 1, P, d, ds ++ [2]) ⟨by show k + 1 <= _; omega, hsk hs (leq_le hyl hvec h6 hq)⟩ (by show L.length - (k + 1) < L.length - k; omega) ?_
   simp only [go_sem]
   exact leB_app (leB_self _) ⟨leC_self _, leB_JkA ⟨⟨leV_any _, leV_any _, trivial⟩, trivial⟩⟩
 have hs' : (y.1 == x.st) = false := beq_eq_false_iff_ne.2 hs
 cases d
 ·by_cases hgt : x.st < y.1
  ·simp only [go_sem, h2, gk, hB, hD, n0, n1, s1, m0, t0, List.length_map, List.append_assoc, List.cons_append, List.length_append, List.length_cons, List.length_nil, hs', hgt]
   refine DrawK.walk 8 mixed (by kernel_rfl) ?_
   simp only [go_sem, n0]
   refine CallY.mk (con_rcopyF x.vec (by omega)) (by simp only [go_sem]) (by simp only [go_sem]) (.inl (by simp only [go_sem])) ?_
   simp only [go_sem, n1, m0, List.length_map, List.append_assoc, List.cons_append, List.nil_append, List.length_append, List.length_cons, List.length_nil, hro1, hro2, hw2]
   refine roundK.intro (k + 1, P ++ [(x.st, x.vec)] ++ [y], true, ds ++ [2]) ⟨by show k + 1 <= _; omega, hkp2 rfl⟩ (by show L.length - (k + 1) < L.length - k; omega) ?_
   simp only [go_sem, List.map_append, List.map_cons, List.map_nil, List.append_assoc, List.cons_append, List.nil_append]
   exact leB_app (leB_self _) ⟨leC_self _, leB_JkA ⟨⟨leV_any _, leV_any _, trivial⟩, trivial⟩⟩
  ·simp only [go_sem, h2, gk, hB, hD, n0, n1, s1, m0, t0, List.length_map, List.append_assoc, List.cons_append, List.nil_append, List.length_append, List.length_cons, List.length_nil, hs', hgt, hro1, hw2]
   refine roundK.intro (k + 1, P ++ [y], false, ds ++ [2]) ⟨by show k + 1 <= _; omega, hkp⟩ (by show L.length - (k + 1) < L.length - k; omega) ?_
   simp only [go_sem, List.map_append, List.map_cons, List.map_nil]
   exact leB_app (leB_self _) ⟨leC_self _, leB_JkA ⟨⟨leV_any _, leV_any _, trivial⟩, trivial⟩⟩
 ·simp only [go_sem, h2, gk, hB, hD, n0, n1, s1, m0, t0, List.length_map, List.append_assoc, List.cons_append, List.nil_append, List.length_append, List.length_cons, List.length_nil, hs', hro1, hw2]
  refine roundK.intro (k + 1, P ++ [y], true, ds ++ [2]) ⟨by show k + 1 <= _; omega, hkp⟩ (by show L.length - (k + 1) < L.length - k; omega) ?_
  simp only [go_sem, List.map_append, List.map_cons, List.map_nil]
  exact leB_app (leB_self _) ⟨leC_self _, leB_JkA ⟨⟨leV_any _, leV_any _, trivial⟩, trivial⟩⟩
def vq (x : Int) : AV := .sc (.int .u64 x)
attribute [go_sem] vq
theorem con_mul64 (n : Nat) (hn : n <= 8) : Con Tryz.prog 92 [vq 1, vq n] [] fun r _ => r = .tup [vq 0, vq n] := by
 refine Con.intro Tryz.func92 rfl Tryz.ntmps92 Tryz.results92 (by kernel_rfl) (by simp) 0 (by simp) ?_
 simp only [go_sem]
 have h : n = 0 \/ n = 1 \/ n = 2 \/ n = 3 \/ n = 4 \/ n = 5 \/ n = 6 \/ n = 7 \/ n = 8 := by omega
 rcases h with rfl | rfl | rfl | rfl | rfl | rfl | rfl | rfl | rfl <;> (show AV.tup _ = AV.tup _; first | rfl | kernel_rfl)
theorem con_mul (n : Nat) (hn : n <= 8) : Con Tryz.prog 73 [vq 1, vq n] [] fun r _ => r = .tup [vq 0, vq n] := by
 refine Con.intro Tryz.func73 rfl Tryz.ntmps73 Tryz.results73 (by kernel_rfl) (by simp) 0 (by simp) ?_
 simp only [go_sem]
 refine CallU.free (con_mul64 n hn) (by simp only [go_sem]) (by simp only [go_sem]) ?_
 rintro r bx rfl
 simp only [go_sem]
theorem con_clone (l : List Int) (h1 : 1 <= l.length) (h2 : l.length <= 1000000) : Con Tryz.prog 63 [vs 0 l] [] fun r _ => r = vs 2 l := by
 refine Con.intro Tryz.func63 rfl Tryz.ntmps63 Tryz.results63 (by kernel_rfl) (by simp) 0 (by simp) ?_
 cases l with
 | nil => simp at h1
 | cons x l =>
  simp only [List.length_cons] at h2
  simp only [go_sem]
  simp only [roomFor]
  omega
theorem con_fitsV (r : RD) (s : Int) (v : List Int) (hl : r.need.length = v.length) (h6 : v.length <= 1000000) : Con Tryz.prog 36 [vRule r, vi s, vs 0 v] [] fun x _ => x = vb (fitsB r s v) := by
 refine Con.intro Tryz.func36 rfl Tryz.ntmps36 Tryz.results36 (by kernel_rfl) (by simp) 0 (by simp) ?_
 unfold fitsB
 by_cases hs : r.src = s
 case neg =>
  have hs' : (r.src != s) = true := bne_iff_ne.2 hs
  have hs2 : (r.src == s) = false := beq_eq_false_iff_ne.2 hs
  simp only [go_sem, hs', hs2, Bool.false_and]
 have hs' : (r.src != s) = false := by rw [hs]; simp
 have hs2 : (r.src == s) = true := beq_iff_eq.2 hs
 simp only [go_sem, hs', hs2, Bool.true_and]
 refine LoopK.intro (fun i : Nat => ⟨28, [(2, vs 0 v), (14, vs 0 r.need), (15, vi r.need.length), (16, vi i)], [cR r]⟩) (fun i => v.length - i) (fun i => i <= v.length /\ ∀ j, j < i -> r.need[j]! <= v[j]!) 0 ⟨by omega, fun j hj => by omega⟩ ?_ ?_
 ·simp only [go_sem]
  all_goals first | exact leB_self _ | exact ⟨leV_refl _, leB_self _⟩
 rintro i ⟨hi, hb⟩
 by_cases h : i < v.length
 case neg =>
  have h' : ¬ i < r.need.length := by omega
  have hcan : canV r v = true := canV_iff.2 fun j hj => hb j (by omega)
  simp only [go_sem, h', hcan]
 have h' : i < r.need.length := by omega
 have hg := getv h
 have hg' := getv h'
 have hw : IntKind.i64.wrap (i + 1) = i + 1 := wrap_in (by omega) (by omega)
 by_cases hlt : v[i]! < r.need[i]!
 ·simp only [go_sem, h, h', hg, hg', hlt, can_stop h hlt]
 ·simp only [go_sem, h, h', hg, hg', hlt, hw]
  refine roundK.intro (i + 1) ⟨by omega, fun j hj => ?_⟩ (by omega) ?_
  ·by_cases hji : j = i
   ·subst hji; omega
   ·exact hb j (by omega)
  ·simp only [go_sem]
   all_goals exact leB_self _
def fireP (r : RD) (v : List Int) (i : Nat) : List Int := (List.range v.length).map fun j => if j < i then (fireO r v)[j]! else v[j]!
theorem fireP_len (r : RD) (v : List Int) (i : Nat) : (fireP r v i).length = v.length := by simp [fireP]
theorem fireP_at {r : RD} {v : List Int} {i j : Nat} (h : j < v.length) : (fireP r v i)[j]! = if j < i then (fireO r v)[j]! else v[j]! := by
 rw [getElem!_pos _ j (by rw [fireP_len]; exact h)]; simp [fireP]
theorem fireP_zero (r : RD) (v : List Int) : fireP r v 0 = v := by
 apply List.ext_getElem (fireP_len _ _ _)
 intro j h1 h2
 rw [<- getElem!_pos (fireP r v 0) j h1, fireP_at h2, getElem!_pos v j h2]; simp
theorem fireP_all (r : RD) (v : List Int) : fireP r v v.length = fireO r v := by
 apply List.ext_getElem (by rw [fireP_len, fireO_len])
 intro j h1 h2
 have h3 : j < v.length := by rw [fireO_len] at h2; exact h2
 rw [<- getElem!_pos (fireP r v v.length) j h1, fireP_at h3, getElem!_pos (fireO r v) j h2, if_pos h3]
theorem fireP_set {r : RD} {v : List Int} {i : Nat} (_hi : i < v.length) : (fireP r v i).set i (fireO r v)[i]! = fireP r v (i + 1) := by
 apply List.ext_getElem (by rw [List.length_set, fireP_len, fireP_len])
 intro j h1 h2
 have hj : j < v.length := by rw [fireP_len] at h2; exact h2
 rw [List.getElem_set, <- getElem!_pos (fireP r v (i + 1)) j h2, fireP_at hj]
 by_cases e : i = j
 ·subst e; rw [if_pos rfl, if_pos (by omega)]
 ·rw [if_neg e, <- getElem!_pos (fireP r v i) j (by rw [fireP_len]; exact hj), fireP_at hj]
  by_cases h1 : j < i
  ·rw [if_pos h1, if_pos (by omega)]
  ·rw [if_neg h1, if_neg (by omega)]
theorem fireP_keep {r : RD} {v : List Int} {i : Nat} (hi : i < v.length) (h : v[i]! = Om) : fireP r v (i + 1) = fireP r v i := by
 rw [<- fireP_set hi, fireO_at hi, if_pos h, <- h]
 apply List.ext_getElem (by rw [List.length_set])
 intro j h1 h2
 have hj : j < v.length := by rw [fireP_len] at h2; exact h2
 rw [List.getElem_set]
 by_cases e : i = j
 ·subst e
  rw [if_pos rfl, <- getElem!_pos (fireP r v i) i h2, fireP_at hj, if_neg (by omega)]
 ·rw [if_neg e]
theorem con_after (r : RD) (v : List Int) (np : Nat) (hr : SlimR np r) (hv : okV np v) (h6 : np <= 6) (h1 : 1 <= np) : Con Tryz.prog 37 [vRule r, vs 0 v] [] fun x _ => x = .tup [vs 2 (fireO r v), vb (!overO r v)] := by
 refine Con.intro Tryz.func37 rfl Tryz.ntmps37 Tryz.results37 (by kernel_rfl) (by simp) 0 (by simp) ?_
 have hvl := hv.1
 have h2 := hr.need
 have h3 := hr.give
 simp only [go_sem]
 refine CallU.free (con_clone v (by omega) (by omega)) (by simp only [go_sem]) (by simp only [go_sem]) ?_
 rintro x bx rfl
 simp only [go_sem]
 refine LoopK.intro (fun i : Nat => ⟨48, [(2, .pb 0 0), (6, .sl 770 1 ((fireP r v i).map vi)), (7, vb (!overN r v i)), (12, vs 0 v), (13, vi v.length), (14, vi i)], [cR r]⟩) (fun i => v.length - i) (fun i => i <= v.length) 0 (by omega) ?_ ?_
 ·simp only [go_sem, fireP_zero, overN, List.range_zero, List.any_nil]
  all_goals exact ⟨leV_refl _, leB_self _⟩
 rintro i hi
 by_cases h : i < v.length
 case neg =>
  obtain rfl : i = v.length := by omega
  simp only [go_sem, h, fireP_all, overN_all]
 have hn : i < r.need.length := by omega
 have hgl : i < r.give.length := by omega
 have hfl : i < (fireP r v i).length := by rw [fireP_len]; exact h
 have hfl2 : i < (fireP r v (i + 1)).length := by rw [fireP_len]; exact h
 have hg := getv h
 have hg' := getv hn
 have hg2 := getv hgl
 have hg3 := getv hfl2
 have hs := hv.small (i := i) (by omega)
 have hl := hr.low i (by omega)
 have hw : IntKind.i64.wrap (i + 1) = i + 1 := wrap_in (by omega) (by omega)
 have hw2 : IntKind.i64.wrap (v[i]! - r.need[i]!) = v[i]! - r.need[i]! := wrap_in (by omega) (by omega)
 have hw3 : IntKind.i64.wrap (v[i]! - r.need[i]! + r.give[i]!) = v[i]! + (r.give[i]! - r.need[i]!) := by rw [wrap_in (by omega) (by omega)]; omega
 have e2 := overN_succ (r := r) (v := v) (n := i)
 by_cases ho : v[i]! = 1099511627776
 ·have ho' : (v[i]! != 1099511627776) = false := by rw [ho]; rfl
  rw [show decide (v[i]! ≠ Om) = false from decide_eq_false (by rw [ho]; simp), Bool.false_and, Bool.or_false] at e2
  simp only [go_sem, h, hg, ho', hw]
  refine roundK.intro (i + 1) (by omega) (by omega) ?_
  simp only [go_sem, e2, fireP_keep h ho]
  all_goals exact leB_self _
 ·have ho' : (v[i]! != 1099511627776) = true := bne_iff_ne.2 ho
  have ef : (fireO r v)[i]! = v[i]! + (r.give[i]! - r.need[i]!) := by rw [fireO_at h, if_neg ho]
  have hset : (List.map vi (fireP r v i)).modify i (updElem 0 [AV.sc (.int .i64 (v[i]! + (r.give[i]! - r.need[i]!)))]) = (fireP r v (i + 1)).map vi := by rw [<- fireP_set h, ef]; exact modify_vi
  have eat : (fireP r v (i + 1))[i]! = v[i]! + (r.give[i]! - r.need[i]!) := by rw [fireP_at h, if_pos (by omega), ef]
  rw [eat] at hg3
  rw [show decide (v[i]! ≠ Om) = true from decide_eq_true ho, Bool.true_and] at e2
  simp only [go_sem, h, hg, ho']
  refine DrawK.walk 16 mixed (by kernel_rfl) ?_
  simp only [go_sem, hn, hgl, hfl, hg', hg2, hw2, hw3, hset, List.length_map]
  cases hov : overN r v i
  ·rw [hov, Bool.false_or] at e2
   by_cases hb : v[i]! + (r.give[i]! - r.need[i]!) <= 1048576
   ·rw [decide_eq_false (by omega)] at e2
    simp only [go_sem, hfl2, hg3, hb, hw]
    refine roundK.intro (i + 1) (by omega) (by omega) ?_
    simp only [go_sem, e2]
    all_goals exact leB_self _
   ·rw [decide_eq_true (by omega)] at e2
    simp only [go_sem, hfl2, hg3, hb, hw]
    refine roundK.intro (i + 1) (by omega) (by omega) ?_
    simp only [go_sem, e2]
    all_goals exact leB_self _
  ·rw [hov, Bool.true_or] at e2
   simp only [go_sem, hw]
   refine roundK.intro (i + 1) (by omega) (by omega) ?_
   simp only [go_sem, e2]
   all_goals exact leB_self _
theorem con_afterF (r : RD) (v : List Int) (np : Nat) (hr : SlimR np r) (hv : okV np v) (h6 : np <= 6) (h1 : 1 <= np) : Con Tryz.prog 37 [vRule r, vs 0 v] [] fun x _ => x = .tup [vs 0 (fireO r v), vb (!overO r v)] :=
 (Con.freezeR (fun _ => true) (con_after r v np hr hv h6 h1)).weak fun r b ⟨r0, h0, h1⟩ => by
  subst h0; subst h1
  exact ⟨_, rfl, leV_refl _⟩
theorem con_number (x : Int) : Con Tryz.prog 60 [vi x] [] fun r _ => r = vb (decide (0 <= x) && decide (x <= 1048576)) := by
 refine Con.intro Tryz.func60 rfl Tryz.ntmps60 Tryz.results60 (by kernel_rfl) (by simp) 0 (by simp) ?_
 by_cases h1 : 0 <= x
 ·by_cases h2 : x <= 1048576
  ·simp only [go_sem, h1, h2, decide_true, Bool.true_and]
  ·simp only [go_sem, h1, h2, decide_true, decide_false, Bool.true_and]
 ·simp only [go_sem, h1, decide_false, Bool.false_and]
theorem con_vvalid1 (x : Int) : Con Tryz.prog 59 [vi x] [] fun r _ => r = .sc (.bool (!elB x)) := by
 refine Con.intro Tryz.func59 rfl Tryz.ntmps59 Tryz.results59 (by kernel_rfl) (by simp) 0 (by simp) ?_
 unfold elB
 simp only [go_sem]
 refine CallU.free (con_number x) (by simp only [go_sem]) (by simp only [go_sem]) ?_
 rintro r bx rfl
 cases hq : (decide (0 <= x) && decide (x <= 1048576))
 ·by_cases ho : x = 1099511627776
  ·have ho' : (x != 1099511627776) = false := by rw [ho]; rfl
   have ho2 : (x == 1099511627776) = true := by rw [ho]; rfl
   simp only [go_sem, ho', ho2, Bool.false_or]
  ·have ho' : (x != 1099511627776) = true := bne_iff_ne.2 ho
   have ho2 : (x == 1099511627776) = false := beq_eq_false_iff_ne.2 ho
   simp only [go_sem, ho', ho2, Bool.false_or]
 ·simp only [go_sem, Bool.true_or]
theorem con_vvalid (l : List Int) (hl : l.length <= 1000000) : Con Tryz.prog 33 [vs 0 l] [] fun r _ => r = vb (vecB l) := by
 refine Con.intro Tryz.func33 rfl Tryz.ntmps33 Tryz.results33 (by kernel_rfl) (by simp) 0 (by simp) ?_
 unfold vecB
 by_cases h : (l.length : Int) <= 6
 case neg =>
  have e : decide (l.length <= 6) = false := decide_eq_false (by omega)
  simp only [go_sem, h, e, Bool.and_false, List.length_map]
 have e : decide (l.length <= 6) = true := decide_eq_true (by omega)
 simp only [go_sem, h, e, Bool.and_true, List.length_map]
 refine CallU.look (con_containsInt l 59 [] (fun x => !elB x) (by simp only [go_sem]) (fun x _ => con_vvalid1 x) (by omega)) (by simp only [go_sem]) (by simp only [go_sem]) ?_
 rintro r bx rfl
 simp only [go_sem, any_not]
theorem con_below (a b : List Int) (h : a.length <= b.length) (hl : a.length <= 1000000) : Con Tryz.prog 83 [vs 0 a, vs 0 b] [] fun r _ => r = vb (atB a b) := by
 refine Con.intro Tryz.func83 rfl Tryz.ntmps83 Tryz.results83 (by kernel_rfl) (by simp) 0 (by simp) ?_
 simp only [go_sem]
 refine LoopK.intro (fun i : Nat => ⟨21, [(1, vs 0 b), (7, vs 0 a), (8, vi a.length), (9, vi i)], []⟩) (fun i => a.length - i) (fun i => i <= a.length /\ ∀ j, j < i -> a[j]! <= b[j]!) 0 ⟨by omega, fun j hj => by omega⟩ ?_ ?_
 ·simp only [go_sem]
  all_goals exact leV_refl _
 rintro i ⟨hi, hb⟩
 by_cases h1 : i < a.length
 case neg =>
  simp only [go_sem, h1, at_iff.2 fun j hj => hb j (by omega)]
 have h2 : i < b.length := by omega
 have hg := getv h1
 have hg' := getv h2
 have hw : IntKind.i64.wrap (i + 1) = i + 1 := wrap_in (by omega) (by omega)
 by_cases hlt : b[i]! < a[i]!
 ·have e : atB a b = false := by
   cases e : atB a b
   ·rfl
   ·have := at_iff.1 e i h1
    omega
  simp only [go_sem, h1, h2, hg, hg', hlt, e]
 ·simp only [go_sem, h1, h2, hg, hg', hlt, hw]
  refine roundK.intro (i + 1) ⟨by omega, fun j hj => ?_⟩ (by omega) ?_
  ·by_cases hji : j = i
   ·subst hji; omega
   ·exact hb j (by omega)
  ·simp only [go_sem]
theorem con_atMost (a b : List Int) (h : a.length <= b.length) (hl : a.length <= 1000000) : Con Tryz.prog 40 [vs 0 a, vs 0 b] [] fun r _ => r = vb (atB a b) := by
 refine Con.intro Tryz.func40 rfl Tryz.ntmps40 Tryz.results40 (by kernel_rfl) (by simp) 0 (by simp) ?_
 simp only [go_sem]
 refine LoopK.intro (fun i : Nat => ⟨21, [(1, vs 0 b), (7, vs 0 a), (8, vi a.length), (9, vi i)], []⟩) (fun i => a.length - i) (fun i => i <= a.length /\ ∀ j, j < i -> a[j]! <= b[j]!) 0 ⟨by omega, fun j hj => by omega⟩ ?_ ?_
 ·simp only [go_sem]
  all_goals exact leV_refl _
 rintro i ⟨hi, hb⟩
 by_cases h1 : i < a.length
 case neg =>
  simp only [go_sem, h1, at_iff.2 fun j hj => hb j (by omega)]
 have h2 : i < b.length := by omega
 have hg := getv h1
 have hg' := getv h2
 have hw : IntKind.i64.wrap (i + 1) = i + 1 := wrap_in (by omega) (by omega)
 by_cases hlt : b[i]! < a[i]!
 ·have e : atB a b = false := by
   cases e : atB a b
   ·rfl
   ·have := at_iff.1 e i h1
    omega
  simp only [go_sem, h1, h2, hg, hg', hlt, e]
 ·simp only [go_sem, h1, h2, hg, hg', hlt, hw]
  refine roundK.intro (i + 1) ⟨by omega, fun j hj => ?_⟩ (by omega) ?_
  ·by_cases hji : j = i
   ·subst hji; omega
   ·exact hb j (by omega)
  ·simp only [go_sem]
theorem con_vleq (a b : List Int) (ha : a.length <= 1000000) (hb : b.length <= 1000000) : Con Tryz.prog 62 [vs 0 a, vs 0 b] [] fun r _ => r = vb (leqV a b) := by
 refine Con.intro Tryz.func62 rfl Tryz.ntmps62 Tryz.results62 (by kernel_rfl) (by simp) 0 (by simp) ?_
 change wpA _ _ (endQ _ _ _ fun r _ => r = vb (vecB a && vecB b && decide (a.length = b.length) && atB a b)) _
 simp only [go_sem]
 refine CallU.free (con_vvalid a ha) (by simp only [go_sem]) (by simp only [go_sem]) ?_
 rintro r bx rfl
 cases h1 : vecB a
 ·simp only [go_sem, Bool.false_and]
 simp only [go_sem]
 refine CallU.free (con_vvalid b hb) (by simp only [go_sem]) (by simp only [go_sem]) ?_
 rintro r bx rfl
 cases h2 : vecB b
 ·simp only [go_sem, Bool.false_and, Bool.and_false]
 by_cases h3 : a.length = b.length
 case neg =>
  have h3' : ((a.length : Int) == (b.length : Int)) = false := beq_eq_false_iff_ne.2 (by omega)
  simp only [go_sem, h3', h3, decide_false, Bool.and_false, Bool.false_and, List.length_map]
 have h3' : ((a.length : Int) == (b.length : Int)) = true := beq_iff_eq.2 (by omega)
 rw [decide_eq_true h3]
 simp only [go_sem, h3', List.length_map]
 refine CallU.free (con_below a b (by omega) ha) (by simp only [go_sem]) (by simp only [go_sem]) ?_
 rintro r bx rfl
 simp only [go_sem, Bool.true_and]
end Go.AM
namespace Go.AM
def noOm (v : List Int) : Prop := ∀ x ∈ v, x ≠ Om
theorem noOm.at {v : List Int} (h : noOm v) {i : Nat} (hi : i < v.length) : v[i]! ≠ Om := by
 rw [getElem!_pos v i hi]; exact h _ (List.getElem_mem hi)
theorem noOm_iff {v : List Int} : noOm v ↔ v.contains Om = false := by
 rw [<- Bool.not_eq_true, List.contains_iff_mem]
 exact ⟨fun h hm => h _ hm rfl, fun h x hx e => h (e ▸ hx)⟩
inductive Anc (l : List ND) (j : Nat) : Nat -> List Nat -> Prop
 | here : Anc l j j []
 | step {p i : Nat} {ks : List Nat} : Anc l j p ks -> i < l.length -> l[i]!.par = p -> Anc l j i (ks ++ [l[i]!.rule.toNat])
theorem Anc.trans {l : List ND} {a b c : Nat} {ks ls : List Nat} (h1 : Anc l a b ks) (h2 : Anc l b c ls) : Anc l a c (ks ++ ls) := by
 induction h2 with
 | here => rw [List.append_nil]; exact h1
 | step _ hi hp ih => rw [<- List.append_assoc]; exact .step ih hi hp
structure MadeBy (rules : List RD) (l : List ND) (i p k : Nat) : Prop where
 par : l[i]!.par = p
 lt : p < i
 rule : l[i]!.rule = k
 there : k < rules.length
 src : rules[k]!.src = l[p]!.st
 can : canV rules[k]! l[p]!.vec = true
 dst : l[i]!.st = rules[k]!.dst
 ok : ∀ np, okV np l[p]!.vec -> okV np (fireO rules[k]! l[p]!.vec)
 same : noOm l[i]!.vec -> l[i]!.vec = fireO rules[k]! l[p]!.vec
 grew : noOm (fireO rules[k]! l[p]!.vec) -> ¬ noOm l[i]!.vec -> ∃ j ks, Anc l j p ks /\ j < l.length /\ l[j]!.st = l[i]!.st /\ (∀ x, x < l[j]!.vec.length -> l[j]!.vec[x]! <= (fireO rules[k]! l[p]!.vec)[x]!) /\ ∃ x, x < l[j]!.vec.length /\ l[j]!.vec[x]! < (fireO rules[k]! l[p]!.vec)[x]!
def Made (rules : List RD) (s0 : Int) (v0 : List Int) (l : List ND) : Prop := ∀ i, i < l.length -> (l[i]!.par = -1 /\ l[i]!.st = s0 /\ l[i]!.vec = v0) \/ ∃ p k, MadeBy rules l i p k
theorem fire_noOm {r : RD} {v : List Int} (h : noOm (fireO r v)) : noOm v := fun x hx e => by
 obtain ⟨i, hi, rfl⟩ := List.mem_iff_getElem.1 hx
 have h1 := fireO_at (r := r) hi
 rw [getElem!_pos v i hi, if_pos e] at h1
 exact h.at (by rw [fireO_len]; exact hi) h1
theorem run_one {rules : List RD} {k : Nat} {s : Int} {v : List Int} (hk : k < rules.length) (hs : rules[k]!.src = s) (hc : canV rules[k]! v = true) (hv : noOm v) : runV rules (s, v) [k] = some (rules[k]!.dst, fireO rules[k]! v) := by
 have h1 := canV_iff.1 hc
 unfold runV
 rw [if_pos ⟨hk, hs, h1⟩]
 unfold runV
 refine congrArg some (congrArg _ ?_)
 apply List.ext_getElem (by rw [fireO_len]; simp)
 intro j h2 h3
 have hj : j < v.length := by simpa using h2
 rw [<- getElem!_pos _ j h2, <- getElem!_pos _ j h3, fireO_at hj, if_neg (hv.at hj)]
 exact step_at hj
theorem anc_run {rules : List RD} {s0 : Int} {v0 : List Int} {l : List ND} (hm : Made rules s0 v0 l) {j i : Nat} {ks : List Nat} (h : Anc l j i ks) (hi : noOm l[i]!.vec) : noOm l[j]!.vec /\ runV rules (l[j]!.st, l[j]!.vec) ks = some (l[i]!.st, l[i]!.vec) := by
 induction h with
 | here => exact ⟨hi, rfl⟩
 | @step p i ks ha hl hp ih =>
  rcases hm i hl with ⟨h1, _⟩ | ⟨p', k, hb⟩
  ·rw [h1] at hp; omega
  ·obtain rfl : p' = p := by have := hb.par; omega
   have hsm := hb.same hi
   have hpn : noOm l[p']!.vec := fire_noOm (r := rules[k]!) (by rw [<- hsm]; exact hi)
   obtain ⟨h2, h3⟩ := ih hpn
   refine ⟨h2, ?_⟩
   rw [run_app h3, hb.rule, Int.toNat_natCast, run_one hb.there hb.src hb.can hpn, hb.dst, <- hsm]
theorem anc_root {rules : List RD} {s0 : Int} {v0 : List Int} {l : List ND} (hm : Made rules s0 v0 l) : ∀ (n i : Nat), i < n -> i < l.length -> ∃ j ks, Anc l j i ks /\ j < l.length /\ l[j]!.par = -1 /\ l[j]!.st = s0 /\ l[j]!.vec = v0
 | 0, i, h, _ => by omega
 | n + 1, i, h, hl => by
  rcases hm i hl with ⟨h1, h2, h3⟩ | ⟨p, k, hb⟩
  ·exact ⟨i, [], .here, hl, h1, h2, h3⟩
  ·have hlt := hb.lt
   obtain ⟨j, ks, h1, h2⟩ := anc_root hm n p (by omega) (by omega)
   exact ⟨j, _, .step h1 hl hb.par, h2⟩
def pathF (l : List ND) : Nat -> Nat -> List Int
 | 0, _ => []
 | n + 1, i => if l[i]!.par < 0 then [] else pathF l n l[i]!.par.toNat ++ [l[i]!.rule]
theorem path_fuel {rules : List RD} {s0 : Int} {v0 : List Int} {l : List ND} (hm : Made rules s0 v0 l) : ∀ (n m i : Nat), i < n -> i < m -> i < l.length -> pathF l n i = pathF l m i
 | 0, _, _, h, _, _ => by omega
 | _ + 1, 0, _, _, h, _ => by omega
 | n + 1, m + 1, i, h1, h2, hl => by
  unfold pathF
  rcases hm i hl with ⟨hp, _⟩ | ⟨p, k, hb⟩
  ·rw [if_pos (by omega), if_pos (by omega)]
  ·have h3 := hb.par
   have h4 := hb.lt
   rw [if_neg (by omega), if_neg (by omega), h3, Int.toNat_natCast, path_fuel hm n m p (by omega) (by omega) (by omega)]
def pathT (l : List ND) (i : Nat) : List Int := pathF l (i + 1) i
theorem path_root {l : List ND} {i : Nat} (h : l[i]!.par = -1) : pathT l i = [] := by
 unfold pathT pathF
 rw [if_pos (by omega)]
theorem path_step {rules : List RD} {s0 : Int} {v0 : List Int} {l : List ND} (hm : Made rules s0 v0 l) {i p k : Nat} (hb : MadeBy rules l i p k) (hl : i < l.length) : pathT l i = pathT l p ++ [(k : Int)] := by
 have h3 := hb.par
 have h4 := hb.lt
 unfold pathT
 conv => lhs; unfold pathF
 rw [if_neg (by omega), h3, Int.toNat_natCast, hb.rule, path_fuel hm i (p + 1) p (by omega) (by omega) (by omega)]
theorem path_anc {rules : List RD} {s0 : Int} {v0 : List Int} {l : List ND} (hm : Made rules s0 v0 l) {j i : Nat} {ks : List Nat} (h : Anc l j i ks) : pathT l i = pathT l j ++ ks.map Int.ofNat := by
 induction h with
 | here => simp
 | @step p i ks ha hl hp ih =>
  rcases hm i hl with ⟨h1, _⟩ | ⟨p', k, hb⟩
  ·rw [h1] at hp; omega
  ·obtain rfl : p' = p := by have := hb.par; omega
   rw [path_step hm hb hl, ih, hb.rule, Int.toNat_natCast]
   simp
theorem Anc.len {l : List ND} {j i : Nat} {ks : List Nat} (h : Anc l j i ks) (hp : ∀ i, i < l.length -> l[i]!.par < i) : ks.length + j <= i := by
 induction h with
 | here => simp
 | @step p i ks _ hl he ih =>
  have := hp i hl
  rw [List.length_append]
  simp only [List.length_cons, List.length_nil]
  omega
def runS (rules : List RD) : SV -> List Nat -> Option SV
 | s, [] => some s
 | s, k :: ks => if k < rules.length /\ rules[k]!.src = s.1 /\ canV rules[k]! s.2 = true /\ overO rules[k]! s.2 = false then runS rules (rules[k]!.dst, fireO rules[k]! s.2) ks else none
theorem runS_app {rules : List RD} : ∀ {a b : List Nat} {s t : SV}, runS rules s a = some t -> runS rules s (a ++ b) = runS rules t b
 | [], b, s, t, h => by
  simp only [runS, Option.some.injEq] at h
  rw [h]; rfl
 | k :: a, b, s, t, h => by
  unfold runS at h
  split at h
  ·rename_i g
   have := runS_app (b := b) h
   rw [List.cons_append]
   conv => lhs; unfold runS
   rw [if_pos g]
   exact this
  ·cases h
theorem over_no {np : Nat} {r : RD} {v : List Int} (h : okV np (fireO r v)) (hn : noOm (fireO r v)) : overO r v = false := by
 unfold overO
 rw [List.any_eq_false]
 intro i hi
 have hi := List.mem_range.1 hi
 have hl : i < (fireO r v).length := by rw [fireO_len]; exact hi
 have h1 := hn.at hl
 have h2 := h.at (i := i) (by rw [<- h.1]; exact hl)
 rw [fireO_at hi] at h1 h2
 simp only [Bool.and_eq_true, decide_eq_true_eq, not_and, Int.not_lt]
 intro h3
 rw [if_neg h3] at h1 h2
 rcases h2 with h2 | h2
 ·exact h2.2
 ·exact absurd h2 h1
theorem anc_runS {rules : List RD} {s0 : Int} {v0 : List Int} {l : List ND} {np : Nat} (hm : Made rules s0 v0 l) (ho : ∀ i, i < l.length -> okV np l[i]!.vec) {j i : Nat} {ks : List Nat} (h : Anc l j i ks) (hi : noOm l[i]!.vec) : runS rules (l[j]!.st, l[j]!.vec) ks = some (l[i]!.st, l[i]!.vec) := by
 induction h with
 | here => rfl
 | @step p i ks ha hl hp ih =>
  rcases hm i hl with ⟨h1, _⟩ | ⟨p', k, hb⟩
  ·rw [h1] at hp; omega
  ·obtain rfl : p' = p := by have := hb.par; omega
   have hsm := hb.same hi
   have hfn : noOm (fireO rules[k]! l[p']!.vec) := by rw [<- hsm]; exact hi
   have hpn : noOm l[p']!.vec := fire_noOm hfn
   rw [runS_app (ih hpn), hb.rule, Int.toNat_natCast]
   unfold runS
   rw [if_pos ⟨hb.there, hb.src, hb.can, over_no (np := np) (by rw [<- hsm]; exact ho i hl) hfn⟩]
   unfold runS
   rw [hb.dst, <- hsm]
theorem pump_small {rules : List RD} {s0 : Int} {v0 : List Int} {l : List ND} {np : Nat} (hm : Made rules s0 v0 l) (ho : ∀ i, i < l.length -> okV np l[i]!.vec) {i p k : Nat} (hb : MadeBy rules l i p k) (hi : i < l.length) (hp : noOm l[p]!.vec) (hf : noOm (fireO rules[k]! l[p]!.vec)) {j : Nat} {ks : List Nat}
  (ha : Anc l j p ks) (hs : l[j]!.st = l[i]!.st) : runS rules (l[j]!.st, l[j]!.vec) (ks ++ [k]) = some (l[j]!.st, fireO rules[k]! l[p]!.vec) := by
 have hpl : p < l.length := by have := hb.lt; omega
 rw [runS_app (anc_runS hm ho ha hp)]
 unfold runS
 rw [if_pos ⟨hb.there, hb.src, hb.can, over_no (hb.ok np (ho p hpl)) hf⟩]
 unfold runS
 rw [hs, hb.dst]
theorem leqV_at {a b : List Int} (h : leqV a b = true) : a.length = b.length /\ ∀ i, i < a.length -> a[i]! <= b[i]! := by
 unfold leqV at h
 simp only [Bool.and_eq_true, decide_eq_true_eq, List.all_eq_true, List.mem_range] at h
 exact ⟨h.1.2, h.2⟩
theorem lessO_at {a b : List Int} (h : lessO a b = true) : ∃ i, i < a.length /\ a[i]! < b[i]! /\ b[i]! ≠ Om := by
 unfold lessO at h
 rw [List.any_eq_true] at h
 obtain ⟨i, hi, h⟩ := h
 rw [Bool.and_eq_true, decide_eq_true_eq, decide_eq_true_eq] at h
 exact ⟨i, List.mem_range.1 hi, h.1, h.2⟩
theorem smaller_anc {l : List ND} {s : Int} {v : List Int} : ∀ (k : Nat) (n : Int) (j : Nat), smallerF l s v k n = j -> 0 <= n /\ ∃ ks, Anc l j n.toNat ks /\ j < l.length /\ l[j]!.st = s /\ leqV l[j]!.vec v = true /\ lessO l[j]!.vec v = true
 | 0, n, j, h => by
  have : (-1 : Int) = j := h
  omega
 | k + 1, n, j, h => by
  unfold smallerF at h
  split at h
  ·rename_i hn
   refine ⟨hn.1, ?_⟩
   split at h
   ·rename_i hq
    rw [Bool.and_eq_true, Bool.and_eq_true, beq_iff_eq] at hq
    have e : n.toNat = j := by omega
    rw [e] at hq ⊢
    exact ⟨[], .here, by omega, hq.1, hq.2.1, hq.2.2⟩
   ·obtain ⟨h0, ks, h1, h2⟩ := smaller_anc k _ j h
    refine ⟨ks ++ [l[n.toNat]!.rule.toNat], .step h1 (by omega) ?_, h2⟩
    omega
  ·have : (-1 : Int) = j := h
   omega
theorem raiseT_same {l : List ND} {n : Nat} {s : Int} {np : Nat} {v : List Int} (hv : okV np v) (h : noOm (raiseT l n s v)) : raiseT l n s v = v := by
 unfold raiseT at h ⊢
 unfold raiseF at h ⊢
 split
 ·rfl
 ·rename_i hs
  exfalso
  rw [if_neg hs] at h
  rcases smaller_spec (l := l) (s := s) (v := v) 257 n with e | ⟨j, e, hj, hle, hls⟩
  ·omega
  ·rw [e, Int.toNat_natCast] at h
   obtain ⟨i, hi, h1, h2⟩ := lessO_at hls
   have hl := (leqV_at hle).1
   have hg := raiseF_good (l := l) (n := n) (s := s) (np := np) (v0 := raiseV l[j]!.vec v v.length) (finN v) (raise_ok (x := l[j]!.vec) (i := v.length) hv) (by rw [raiseV_len]; exact hv.1) (fun i _ => .inl rfl)
   have h3 := hg.2 i (by rw [raiseV_len]; omega)
   have h4 : (raiseV l[j]!.vec v v.length)[i]! = Om := by rw [raiseV_at (by omega), if_pos ⟨by omega, h1⟩]
   have h5 : (raiseF l n s (finN v) (raiseV l[j]!.vec v v.length))[i]! = Om := by
    rcases h3 with h3 | h3
    ·rw [h3, h4]
    ·exact h3
   exact h.at (i := i) (by rw [hg.1.1, <- hv.1]; omega) h5
theorem raiseT_more {l : List ND} {n : Nat} {s : Int} {v : List Int} (h : noOm v) (h2 : ¬ noOm (raiseT l n s v)) : ∃ j : Nat, smallerF l s v 257 n = j := by
 rcases smaller_spec (l := l) (s := s) (v := v) 257 n with e | ⟨j, e, _⟩
 ·exfalso
  apply h2
  unfold raiseT raiseF
  rw [e, if_pos (by omega)]
  exact h
 ·exact ⟨j, e⟩
theorem Anc.more {l : List ND} (e : List ND) {j i : Nat} {ks : List Nat} (h : Anc l j i ks) : Anc (l ++ e) j i ks := by
 induction h with
 | here => exact .here
 | @step p i ks _ hl hp ih =>
  have := Anc.step ih (i := i) (by rw [List.length_append]; omega) (by rw [bang_app hl]; exact hp)
  rwa [bang_app hl] at this
theorem MadeBy.wide {rules : List RD} {l : List ND} (e : List ND) {i p k : Nat} (hi : i < l.length) (h : MadeBy rules l i p k) : MadeBy rules (l ++ e) i p k := by
 have hp : p < l.length := by have := h.lt; omega
 have e1 := bang_app (e := e) hi
 have e2 := bang_app (e := e) hp
 refine ⟨by rw [e1]; exact h.par, h.lt, by rw [e1]; exact h.rule, h.there, by rw [e2]; exact h.src, by rw [e2]; exact h.can, by rw [e1]; exact h.dst, by rw [e2]; exact h.ok, by rw [e1, e2]; exact h.same, ?_⟩
 rw [e1, e2]
 intro h1 h2
 obtain ⟨j, ks, g1, g2, g3⟩ := h.grew h1 h2
 refine ⟨j, ks, g1.more e, by rw [List.length_append]; omega, ?_⟩
 rw [bang_app g2]
 exact g3
theorem Made.root {rules : List RD} {s0 : Int} {v0 : List Int} {x : ND} (h1 : x.par = -1) (h2 : x.st = s0) (h3 : x.vec = v0) : Made rules s0 v0 [x] := fun i hi => by
 have : i = 0 := by simpa using hi
 subst this
 exact .inl ⟨h1, h2, h3⟩
theorem Made.put {rules : List RD} {s0 : Int} {v0 : List Int} {l e : List ND} {n k np : Nat} (hm : Made rules s0 v0 (l ++ e)) (hn : n < l.length) (hk : k < rules.length) (hs : rules[k]!.src = l[n]!.st) (hc : canV rules[k]! l[n]!.vec = true) (ho : okV np (fireO rules[k]! l[n]!.vec)) :
  Made rules s0 v0 (l ++ (e ++ [⟨rules[k]!.dst, raiseT l n rules[k]!.dst (fireO rules[k]! l[n]!.vec), n, k⟩])) := by
 rw [<- List.append_assoc]
 obtain ⟨x, hx⟩ : ∃ x : ND, x = ⟨rules[k]!.dst, raiseT l n rules[k]!.dst (fireO rules[k]! l[n]!.vec), n, k⟩ := ⟨_, rfl⟩
 rw [<- hx]
 intro i hi
 rw [List.length_append] at hi
 simp only [List.length_cons, List.length_nil] at hi
 by_cases h : i < (l ++ e).length
 ·rcases hm i h with h1 | ⟨p, q, hb⟩
  ·left; rw [bang_app h]; exact h1
  ·exact .inr ⟨p, q, hb.wide _ h⟩
 ·have hi2 : i = (l ++ e).length := by omega
  right
  refine ⟨n, k, ?_⟩
  have e1 : ((l ++ e) ++ [x])[i]! = x := by rw [hi2]; exact bang_last
  have e2 : ((l ++ e) ++ [x])[n]! = l[n]! := by
   rw [bang_app (by rw [List.length_append]; omega), bang_app hn]
  have hlt : n < i := by rw [hi2, List.length_append]; omega
  refine ⟨by rw [e1, hx], hlt, by rw [e1, hx], hk, by rw [e2]; exact hs, by rw [e2]; exact hc, by rw [e1, hx], fun np' h' => ?_, ?_, ?_⟩
  ·rw [e2] at h' ⊢
   refine ⟨by rw [fireO_len]; exact h'.1, ho.2⟩
  ·rw [e1, e2, hx]
   show noOm (raiseT l n rules[k]!.dst (fireO rules[k]! l[n]!.vec)) -> raiseT l n rules[k]!.dst (fireO rules[k]! l[n]!.vec) = fireO rules[k]! l[n]!.vec
   exact fun h => raiseT_same ho h
  ·rw [e1, e2, hx]
   show noOm (fireO rules[k]! l[n]!.vec) -> ¬ noOm (raiseT l n rules[k]!.dst (fireO rules[k]! l[n]!.vec)) -> _
   intro h1 h2
   obtain ⟨j, hj⟩ := raiseT_more h1 h2
   obtain ⟨_, ks, g1, g2, g3, g4, g5⟩ := smaller_anc _ _ _ hj
   rw [Int.toNat_natCast] at g1
   obtain ⟨y, y1, y2, _⟩ := lessO_at g5
   refine ⟨j, ks, by rw [List.append_assoc]; exact g1.more _, by rw [List.append_assoc, List.length_append]; omega, ?_⟩
   rw [List.append_assoc, bang_app g2]
   exact ⟨g3, (leqV_at g4).2, y, y1, y2⟩
structure MadeN (rules : List RD) (s0 : Int) (v0 : List Int) (l : List ND) (next : Nat) : Prop where
 made : Made rules s0 v0 l
 low : ∀ i, i < l.length -> l[i]!.par < next
theorem MadeN.next {rules : List RD} {s0 : Int} {v0 : List Int} {l : List ND} {n m : Nat} (h : MadeN rules s0 v0 l n) (hn : n <= m) : MadeN rules s0 v0 l m := ⟨h.made, fun i hi => by have := h.low i hi; omega⟩
theorem MadeN.put {rules : List RD} {s0 : Int} {v0 : List Int} {l e : List ND} {n k np : Nat} (hm : MadeN rules s0 v0 (l ++ e) (n + 1)) (hn : n < l.length) (hk : k < rules.length) (hs : rules[k]!.src = l[n]!.st) (hc : canV rules[k]! l[n]!.vec = true) (ho : okV np (fireO rules[k]! l[n]!.vec)) :
  MadeN rules s0 v0 (l ++ (e ++ [⟨rules[k]!.dst, raiseT l n rules[k]!.dst (fireO rules[k]! l[n]!.vec), n, k⟩])) (n + 1) := by
 refine ⟨hm.made.put hn hk hs hc ho, ?_⟩
 rw [<- List.append_assoc]
 intro i hi
 rw [List.length_append] at hi
 simp only [List.length_cons, List.length_nil] at hi
 by_cases h : i < (l ++ e).length
 ·rw [bang_app h]; exact hm.low i h
 ·obtain rfl : i = (l ++ e).length := by omega
  rw [bang_last]
  show (n : Int) < ((n + 1 : Nat) : Int)
  omega
theorem Anc.depth {l : List ND} {j i next : Nat} {ks : List Nat} (h : Anc l j i ks) (hp : ∀ i, i < l.length -> l[i]!.par < i /\ l[i]!.par < next) : ks.length <= next := by
 cases h with
 | here => simp
 | @step p i ks h hl he =>
  have h1 := h.len fun i hi => (hp i hi).1
  have h2 := (hp i hl).2
  rw [List.length_append]
  simp only [List.length_cons, List.length_nil]
  omega
structure PumpOk (rules : List RD) (v0 : List Int) (np : Nat) (b a : List Int) : Prop where
 ex : ∃ (st : Int) (v w : List Int) (kb ka : List Nat), b = kb.map Int.ofNat /\ a = ka.map Int.ofNat /\ kb.length + ka.length <= 64 /\ ka ≠ [] /\ (∀ k ∈ kb ++ ka, k < rules.length) /\ runS rules (0, v0) kb = some (st, v) /\ runS rules (st, v) ka = some (st, w) /\ v.length = np /\ w.length = np /\ (∀ x, x < np -> v[x]! <= w[x]!) /\ ∃ x, x < np /\ v[x]! < w[x]!
theorem anc_rules {rules : List RD} {s0 : Int} {v0 : List Int} {l : List ND} (hm : Made rules s0 v0 l) {j i : Nat} {ks : List Nat} (h : Anc l j i ks) : ∀ k ∈ ks, k < rules.length := by
 induction h with
 | here => intro k hk; cases hk
 | @step p i ks _ hl hp ih =>
  intro k hk
  rcases List.mem_append.1 hk with hk | hk
  ·exact ih k hk
  ·rw [List.mem_singleton] at hk
   rcases hm i hl with ⟨h1, _⟩ | ⟨p', q, hb⟩
   ·rw [h1] at hp; omega
   ·rw [hk, hb.rule, Int.toNat_natCast]; exact hb.there
theorem find_pump {rules : List RD} {v0 : List Int} {l : List ND} {next np : Nat} (hM : MadeN rules 0 v0 l next) (hn : next <= 60) (ho : ∀ i, i < l.length -> okV np l[i]!.vec) (hpar : ∀ i, i < l.length -> l[i]!.par < i) {i p k : Nat} (hb : MadeBy rules l i p k) (hi : i < l.length)
  (hp : noOm l[p]!.vec) (hf : noOm (fireO rules[k]! l[p]!.vec)) {j : Nat} {ks : List Nat} (ha : Anc l j p ks) (hj : j < l.length) (hs : l[j]!.st = l[i]!.st) (hle : ∀ x, x < l[j]!.vec.length -> l[j]!.vec[x]! <= (fireO rules[k]! l[p]!.vec)[x]!)
  (hlt : ∃ x, x < l[j]!.vec.length /\ l[j]!.vec[x]! < (fireO rules[k]! l[p]!.vec)[x]!) : PumpOk rules v0 np (pathT l j) ((pathT l i).drop (pathT l j).length) := by
 have hm := hM.made
 have hjn := (anc_run hm ha hp).1
 obtain ⟨r, kb, h1, h2, h3, h4, h5⟩ := anc_root hm (j + 1) j (by omega) hj
 have hr := anc_runS hm ho h1 hjn
 rw [h4, h5] at hr
 have hpl : p < l.length := by have := hb.lt; omega
 have e1 : pathT l j = kb.map Int.ofNat := by rw [path_anc hm h1, path_root h3, List.nil_append]
 have e2 : pathT l i = pathT l j ++ (ks ++ [k]).map Int.ofNat := by rw [path_step hm hb hi, path_anc hm ha]; simp
 have hanc : Anc l r i (kb ++ (ks ++ [l[i]!.rule.toNat])) := h1.trans (.step ha hi hb.par)
 have hdep := hanc.depth (next := next) fun i hi => ⟨hpar i hi, hM.low i hi⟩
 rw [hb.rule, Int.toNat_natCast] at hanc
 refine ⟨l[j]!.st, l[j]!.vec, fireO rules[k]! l[p]!.vec, kb, ks ++ [k], e1, ?_, ?_, by simp, anc_rules hm hanc, hr, pump_small hm ho hb hi hp hf ha hs, (ho j hj).1, by rw [fireO_len]; exact (ho p hpl).1, fun x hx => hle x (by rw [(ho j hj).1]; exact hx), ?_⟩
 ·rw [e2, List.drop_left]
 ·simp only [List.length_append, List.length_cons, List.length_nil] at hdep ⊢; omega
 ·obtain ⟨x, hx, h⟩ := hlt
  exact ⟨x, by rw [<- (ho j hj).1]; exact hx, h⟩
end Go.AM
