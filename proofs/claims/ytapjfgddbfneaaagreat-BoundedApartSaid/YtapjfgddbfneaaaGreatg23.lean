/- TE CmU TG -/
import Derived.Test.YtapjfgddbfneaaaGreatg22
import Derived.Test.YtapjfgddbfneaaaGreatg17
namespace Go.AM
open Go Go.Proofs Go.RowKit
set_option maxRecDepth 100000
set_option maxHeartbeats 8000000
theorem con_rcopyF (l : List Int) (h2 : l.length <= 1000000) : Con Tryz.prog 31 [vs 0 l] [] fun r _ => r = vs 0 l :=
 (Con.freezeR (fun _ => true) (con_rcopy l h2)).weak fun r b ⟨r0, h0, h1⟩ => by
  subst h0; subst h1
  exact ⟨_, rfl, leV_refl _⟩
theorem any_hit {α : Type _} [Inhabited α] {l : List α} {p : α -> Bool} {i : Nat} (h : i < l.length) (hp : p l[i]! = true) : l.any p = true := by
 rw [List.any_eq_true]
 exact ⟨l[i]!, by rw [getElem!_pos l i h]; exact List.getElem_mem h, hp⟩
theorem any_none {α : Type _} [Inhabited α] {l : List α} {p : α -> Bool} (h : ∀ i, i < l.length -> p l[i]! = false) : l.any p = false := by
 rw [List.any_eq_false]
 intro x hx
 obtain ⟨i, hi, rfl⟩ := List.mem_iff_getElem.1 hx
 have := h i hi
 rw [getElem!_pos l i hi] at this
 rw [this]; simp
theorem con_rdone (l : List ND) (next : Int) : Con Tryz.prog 11 [.ag [.sl 0 4 (l.map vND), vi next]] [] fun x _ => x = vb (next == (l.length : Int)) := by
 refine Con.intro Tryz.func11 rfl Tryz.ntmps11 Tryz.results11 (by kernel_rfl) (by simp) 0 (by simp) ?_
 simp only [go_sem, List.length_map]
theorem con_rcovers (L : List SV) (s : Int) (v : List Int) (hL : ∀ y ∈ L, y.2.length <= 1000000) (hl : L.length <= 1000000) (hv : v.length <= 1000000) : Con Tryz.prog 28 [.sl 0 2 (L.map vLim), vi s, vs 0 v] [] fun x _ => x = vb (coverB L s v) := by
 refine Con.intro Tryz.func28 rfl Tryz.ntmps28 Tryz.results28 (by kernel_rfl) (by simp) 0 (by simp) ?_
 unfold coverB
 simp only [go_sem]
 refine LoopK.intro (fun i : Nat => ⟨30, [(0, .sl 0 2 (L.map vLim)), (1, vi s), (2, vs 0 v), (7, vi i)], []⟩) (fun i => L.length - i) (fun i => i <= L.length /\ ∀ j, j < i -> (L[j]!.1 == s && leqV v L[j]!.2) = false) 0 ⟨by omega, fun j hj => by omega⟩ ?_ ?_
 ·simp only [go_sem]
 rintro i ⟨hi, hb⟩
 by_cases h : i < L.length
 case neg => simp only [go_sem, h, List.length_map, any_none (p := fun y : SV => y.1 == s && leqV v y.2) fun j hj => hb j (by omega)]
 have hg := getLim h
 have hm := hL _ (mem_bangL h)
 have hhit := fun hp => any_hit (p := fun y : SV => y.1 == s && leqV v y.2) h hp
 have hb2 : (L[i]!.1 == s && leqV v L[i]!.2) = false -> ∀ j, j < i + 1 -> (L[j]!.1 == s && leqV v L[j]!.2) = false := fun e j hj => by
  by_cases hji : j = i
  ·subst hji; exact e
  ·exact hb j (by omega)
 generalize L[i]! = y at *
 have hle := con_rvecLeq v y.2 hv hm
 have hw : IntKind.i64.wrap (i + 1) = i + 1 := wrap_in (by omega) (by omega)
 by_cases hs : y.1 = s
 case neg =>
  have hs' : (y.1 == s) = false := beq_eq_false_iff_ne.2 hs
  simp only [go_sem, h, hg, hs', hw, List.length_map]
  refine roundK.intro (i + 1) ⟨by omega, hb2 (by rw [hs']; rfl)⟩ (by omega) ?_
  simp only [go_sem]
 have hs' : (y.1 == s) = true := beq_iff_eq.2 hs
 simp only [go_sem, h, hg, hs', List.length_map]
 refine CallU.free hle (by simp only [go_sem]) (by simp only [go_sem]) ?_
 rintro r bx rfl
 cases hq : leqV v y.2
 ·simp only [go_sem, hw]
  refine roundK.intro (i + 1) ⟨by omega, hb2 (by rw [hq, Bool.and_false])⟩ (by omega) ?_
  simp only [go_sem]
 ·simp only [go_sem, hhit (by rw [hs', hq]; rfl)]
theorem leq_le {np : Nat} {a b : List Int} (ha : okV np a) (hb : okV np b) (h6 : np <= 6) (h : leqV a b = true) : ∀ j, j < np -> a[j]! <= b[j]! := (leq_iff ha hb h6).1 h
theorem con_rlimits (l : List ND) (next : Int) (ns np : Nat) (hok : NodesOk ns np l) (h6 : np <= 6) : Con Tryz.prog 12 [.ag [.sl 0 4 (l.map vND), vi next]] [] fun x _ => ∃ L, LimOk ns np l l.length L /\ x = .sl 0 2 (L.map vLim) := by
 refine Con.intro Tryz.func12 rfl Tryz.ntmps12 Tryz.results12 (by kernel_rfl) (by simp) 0 (by simp) ?_
 have hlen := hok.len
 simp only [go_sem]
 refine LoopK.intro (fun p : Nat × List SV × List Nat => ⟨100, [(1, .pb 0 0), (3, .sl 0 2 (p.2.1.map vLim)), (4, vi p.1)], [.sl 0 4 (l.map vND), vi next] :: Jk p.2.2⟩) (fun p => l.length - p.1) (fun p => p.1 <= l.length /\ LimOk ns np l p.1 p.2.1) (0, [], [])
  ⟨by show 0 <= _; omega, ⟨by simp, fun y hy => (by cases hy), fun i hi => (by omega)⟩⟩ ?_ ?_
 ·simp only [go_sem, Jk, List.map_nil]
 rintro ⟨i, L, ks⟩ ⟨hi, hL⟩
 simp only at hi hL
 have hB := Jk_len ks
 by_cases h : i < l.length
 case neg =>
  obtain rfl : i = l.length := by omega
  simp only [go_sem, h, List.length_map]
  exact ⟨L, hL, rfl⟩
 have hLl := hL.few
 have hLr := hL.real
 have hg := getND h
 have hx := hok.node i h
 have hxm : l[i]! ∈ l := by rw [getElem!_pos l i h]; exact List.getElem_mem h
 have hcov := hL.cover (n := i)
 have hfin := fun P => LimPart.done (P := P) hL
 have hst := hx.st
 have hvec := hx.vec
 have hxl := hx.vec.1
 have hw : IntKind.i64.wrap (i + 1) = i + 1 := wrap_in (by omega) (by omega)
 obtain ⟨x, ex⟩ : ∃ x, x = l[i]! := ⟨_, rfl⟩
 rw [<- ex] at hg hx hxm hcov hfin hst hvec hxl
 have n0 := fun L : List (List AV) => app_at0 (L := L) hB
 have n1 := fun (L : List (List AV)) (i : Nat) => app_at (L := L) (i := i) hB
 have s0 := fun (L : List (List AV)) z => app_set0 (L := L) (z := z) hB
 have s1 := fun (L : List (List AV)) (i : Nat) z => app_setN (L := L) (i := i) (z := z) hB
 simp only [go_sem, h, hg, hB, n0, s0, List.length_map]
 refine CallU.free (con_rcovers L x.st x.vec (fun y hy => by have := (hLr y hy).2.2.1.1; omega) (by omega) (by omega)) (by simp only [go_sem]) (by simp only [go_sem]) ?_
 rintro r bx rfl
 cases hc : coverB L x.st x.vec
 case true =>
  unfold coverB at hc
  rw [List.any_eq_true] at hc
  obtain ⟨y, hy, hc⟩ := hc
  rw [Bool.and_eq_true, beq_iff_eq] at hc
  have hyo := (hLr y hy).2.2.1
  simp only [go_sem, hw]
  refine roundK.intro (i + 1, L, ks ++ [4]) ⟨by show i + 1 <= _; omega, hcov ⟨y, hy, hc.1, leq_le hvec hyo h6 hc.2⟩⟩ (by show l.length - (i + 1) < l.length - i; omega) ?_
  simp only [go_sem]
  exact leB_JkA ⟨⟨leV_any _, leV_any _, leV_any _, leV_any _, trivial⟩, trivial⟩
 simp only [go_sem]
 refine LoopK.intro (fun p : Nat × List SV × Bool × List Nat => ⟨100, [(1, .pb 0 0), (3, .sl 0 2 (L.map vLim)), (4, vi i), (5, .pb (ks.length + 1) 0), (6, .sl 5312 2 (p.2.1.map vLim)), (7, vb p.2.2.1), (8, vi p.1)], [.sl 0 4 (l.map vND), vi next] :: (Jk ks ++ ([vi x.st, vs 0 x.vec, vi x.par, vi x.rule] :: Jk p.2.2.2))⟩)
  (fun p => L.length - p.1) (fun p => p.1 <= L.length /\ LimPart ns np l x L p.1 p.2.1 p.2.2.1) (0, [], false, []) ⟨by show 0 <= _; omega, ⟨by simp, fun y hy => (by cases hy), fun h => (by cases h), fun i hi => (by omega)⟩⟩ ?_ ?_
 ·simp only [go_sem, Jk, List.map_nil]
  all_goals exact leB_self _
 rintro ⟨k, P, d, ds⟩ ⟨hk, hP⟩
 simp only at hk hP
 have hD := Jk_len ds
 have hPf := hP.few
 have hPl : P.length <= 300 := by cases d <;> simp at hPf <;> omega
 have m0 := fun L : List (List AV) => app_at0 (L := L) hD
 have t0 := fun (L : List (List AV)) z => app_set0 (L := L) (z := z) hD
 by_cases h2 : k < L.length
 case neg =>
  obtain rfl : k = L.length := by omega
  cases d
  ·have hp2 := hP.put hxm ⟨hst.1, hst.2, hvec⟩
   have hro : roomFor (P.length + 1) 32 := by simp only [roomFor]; omega
   simp only [go_sem, h2, List.length_map]
   refine DrawK.walk 8 mixed (by kernel_rfl) ?_
   simp only [go_sem, n0]
   refine CallY.mk (con_rcopyF x.vec (by omega)) (by simp only [go_sem]) (by simp only [go_sem]) (.inl (by simp only [go_sem])) ?_
   simp only [go_sem, hro, hw, List.length_map]
   refine roundK.freeze (fun _ => true) (i + 1, P ++ [(x.st, x.vec)], ks ++ (4 :: ds)) ⟨by show i + 1 <= _; omega, hfin _ hp2⟩ (by show l.length - (i + 1) < l.length - i; omega) ?_
   simp only [go_sem, List.map_append, List.map_cons, List.map_nil]
   exact leB_JkA ⟨⟨leV_any _, leV_any _, leV_any _, leV_any _, trivial⟩, leB_self _⟩
  ·simp only [go_sem, h2, hw, List.length_map]
   refine roundK.freeze (fun _ => true) (i + 1, P, ks ++ (4 :: ds)) ⟨by show i + 1 <= _; omega, hfin _ hP⟩ (by show l.length - (i + 1) < l.length - i; omega) ?_
   simp only [go_sem]
   exact leB_JkA ⟨⟨leV_any _, leV_any _, leV_any _, leV_any _, trivial⟩, leB_self _⟩
 have hLk := hLr _ (mem_bangL h2)
 have gk := getLim h2
 have hsk := hP.skip
 have hkp := hP.keep hLk
 have hkp2 := fun e : d = false => (LimPart.put (e ▸ hP) hxm ⟨hst.1, hst.2, hvec⟩).keep hLk
 have hyl := hLk.2.2.1
 have hyl2 := hyl.1
 have hw2 : IntKind.i64.wrap (k + 1) = k + 1 := wrap_in (by omega) (by omega)
 generalize L[k]! = y at *
 have hle := con_rvecLeq y.2 x.vec (by omega) (by omega)
 have hcmp := con_rcompareI y.2 x.vec (by omega)
 have hro1 : roomFor (P.length + 1) 32 := by simp only [roomFor]; omega
 have hro2 : roomFor (P.length + 1 + 1) 32 := by simp only [roomFor]; omega
 by_cases hs : y.1 = x.st
 ·have hs' : (y.1 == x.st) = true := beq_iff_eq.2 hs
  have hgt : ¬ x.st < y.1 := by omega
  simp only [go_sem, h2, gk, hB, hD, n0, n1, s1, m0, t0, List.length_map, List.append_assoc, List.cons_append, List.length_append, List.length_cons, List.length_nil, hs']
  refine CallU.free hle (by simp only [go_sem]) (by simp only [go_sem]) ?_
  rintro r bx rfl
  cases hq : leqV y.2 x.vec
  ·cases d
   ·simp only [go_sem, n0, n1, m0, hs', hgt]
    refine CallU.free hcmp (by simp only [go_sem]) (by simp only [go_sem]) ?_
    rintro r bx rfl
    by_cases hc2 : 0 < cmpI y.2 x.vec
    ·simp only [go_sem, hc2]
     refine DrawK.walk 8 mixed (by kernel_rfl) ?_
     simp only [go_sem, n0]
     refine CallY.mk (con_rcopyF x.vec (by omega)) (by simp only [go_sem]) (by simp only [go_sem]) (.inl (by simp only [go_sem])) ?_
     simp only [go_sem, n1, m0, List.length_map, List.append_assoc, List.cons_append, List.nil_append, List.length_append, List.length_cons, List.length_nil, hro1, hro2, hw2]
     refine roundK.intro (k + 1, P ++ [(x.st, x.vec)] ++ [y], true, ds ++ [2]) ⟨by show k + 1 <= _; omega, hkp2 rfl⟩ (by show L.length - (k + 1) < L.length - k; omega) ?_
     simp only [go_sem, List.map_append, List.map_cons, List.map_nil, List.append_assoc, List.cons_append, List.nil_append]
     exact leB_app (leB_self _) ⟨leC_self _, leB_JkA ⟨⟨leV_any _, leV_any _, trivial⟩, trivial⟩⟩
    ·simp only [go_sem, n1, m0, List.length_map, List.nil_append, List.length_cons, List.length_nil, hc2, hro1, hw2]
     refine roundK.intro (k + 1, P ++ [y], false, ds ++ [2]) ⟨by show k + 1 <= _; omega, hkp⟩ (by show L.length - (k + 1) < L.length - k; omega) ?_
     simp only [go_sem, List.map_append, List.map_cons, List.map_nil]
     exact leB_app (leB_self _) ⟨leC_self _, leB_JkA ⟨⟨leV_any _, leV_any _, trivial⟩, trivial⟩⟩
   ·simp only [go_sem, n1, m0, List.length_map, List.nil_append, List.length_cons, List.length_nil, hro1, hw2]
    refine roundK.intro (k + 1, P ++ [y], true, ds ++ [2]) ⟨by show k + 1 <= _; omega, hkp⟩ (by show L.length - (k + 1) < L.length - k; omega) ?_
    simp only [go_sem, List.map_append, List.map_cons, List.map_nil]
    exact leB_app (leB_self _) ⟨leC_self _, leB_JkA ⟨⟨leV_any _, leV_any _, trivial⟩, trivial⟩⟩
  ·simp only [go_sem, hw2]
   refine roundK.intro (k + 1, P, d, ds ++ [2]) ⟨by show k + 1 <= _; omega, hsk hs (leq_le hyl hvec h6 hq)⟩ (by show L.length - (k + 1) < L.length - k; omega) ?_
   simp only [go_sem]
   exact leB_app (leB_self _) ⟨leC_self _, leB_JkA ⟨⟨leV_any _, leV_any _, trivial⟩, trivial⟩⟩
 have hs' : (y.1 == x.st) = false := beq_eq_false_iff_ne.2 hs
 cases d
 ·by_cases hgt : x.st < y.1
  ·simp only [go_sem, h2, gk, hB, hD, n0, n1, s1, m0, t0, List.length_map, List.append_assoc, List.cons_append, List.length_append, List.length_cons, List.length_nil, hs', hgt]
   refine DrawK.walk 8 mixed (by kernel_rfl) ?_
   simp only [go_sem, n0]
   refine CallY.mk (con_rcopyF x.vec (by omega)) (by simp only [go_sem]) (by simp only [go_sem]) (.inl (by simp only [go_sem])) ?_
   simp only [go_sem, n1, m0, List.length_map, List.append_assoc, List.cons_append, List.nil_append, List.length_append, List.length_cons, List.length_nil, hro1, hro2, hw2]
   refine roundK.intro (k + 1, P ++ [(x.st, x.vec)] ++ [y], true, ds ++ [2]) ⟨by show k + 1 <= _; omega, hkp2 rfl⟩ (by show L.length - (k + 1) < L.length - k; omega) ?_
   simp only [go_sem, List.map_append, List.map_cons, List.map_nil, List.append_assoc, List.cons_append, List.nil_append]
   exact leB_app (leB_self _) ⟨leC_self _, leB_JkA ⟨⟨leV_any _, leV_any _, trivial⟩, trivial⟩⟩
  ·simp only [go_sem, h2, gk, hB, hD, n0, n1, s1, m0, t0, List.length_map, List.append_assoc, List.cons_append, List.nil_append, List.length_append, List.length_cons, List.length_nil, hs', hgt, hro1, hw2]
   refine roundK.intro (k + 1, P ++ [y], false, ds ++ [2]) ⟨by show k + 1 <= _; omega, hkp⟩ (by show L.length - (k + 1) < L.length - k; omega) ?_
   simp only [go_sem, List.map_append, List.map_cons, List.map_nil]
   exact leB_app (leB_self _) ⟨leC_self _, leB_JkA ⟨⟨leV_any _, leV_any _, trivial⟩, trivial⟩⟩
 ·simp only [go_sem, h2, gk, hB, hD, n0, n1, s1, m0, t0, List.length_map, List.append_assoc, List.cons_append, List.nil_append, List.length_append, List.length_cons, List.length_nil, hs', hro1, hw2]
  refine roundK.intro (k + 1, P ++ [y], true, ds ++ [2]) ⟨by show k + 1 <= _; omega, hkp⟩ (by show L.length - (k + 1) < L.length - k; omega) ?_
  simp only [go_sem, List.map_append, List.map_cons, List.map_nil]
  exact leB_app (leB_self _) ⟨leC_self _, leB_JkA ⟨⟨leV_any _, leV_any _, trivial⟩, trivial⟩⟩
def vq (x : Int) : AV := .sc (.int .u64 x)
attribute [go_sem] vq
theorem con_mul64 (n : Nat) (hn : n <= 8) : Con Tryz.prog 92 [vq 1, vq n] [] fun r _ => r = .tup [vq 0, vq n] := by
 refine Con.intro Tryz.func92 rfl Tryz.ntmps92 Tryz.results92 (by kernel_rfl) (by simp) 0 (by simp) ?_
 simp only [go_sem]
 have h : n = 0 \/ n = 1 \/ n = 2 \/ n = 3 \/ n = 4 \/ n = 5 \/ n = 6 \/ n = 7 \/ n = 8 := by omega
 rcases h with rfl | rfl | rfl | rfl | rfl | rfl | rfl | rfl | rfl <;> (show AV.tup _ = AV.tup _; first | rfl | kernel_rfl)
theorem con_mul (n : Nat) (hn : n <= 8) : Con Tryz.prog 73 [vq 1, vq n] [] fun r _ => r = .tup [vq 0, vq n] := by
 refine Con.intro Tryz.func73 rfl Tryz.ntmps73 Tryz.results73 (by kernel_rfl) (by simp) 0 (by simp) ?_
 simp only [go_sem]
 refine CallU.free (con_mul64 n hn) (by simp only [go_sem]) (by simp only [go_sem]) ?_
 rintro r bx rfl
 simp only [go_sem]
theorem con_clone (l : List Int) (h1 : 1 <= l.length) (h2 : l.length <= 1000000) : Con Tryz.prog 63 [vs 0 l] [] fun r _ => r = vs 2 l := by
 refine Con.intro Tryz.func63 rfl Tryz.ntmps63 Tryz.results63 (by kernel_rfl) (by simp) 0 (by simp) ?_
 cases l with
 | nil => simp at h1
 | cons x l =>
  simp only [List.length_cons] at h2
  simp only [go_sem]
  simp only [roomFor]
  omega
theorem con_fitsV (r : RD) (s : Int) (v : List Int) (hl : r.need.length = v.length) (h6 : v.length <= 1000000) : Con Tryz.prog 36 [vRule r, vi s, vs 0 v] [] fun x _ => x = vb (fitsB r s v) := by
 refine Con.intro Tryz.func36 rfl Tryz.ntmps36 Tryz.results36 (by kernel_rfl) (by simp) 0 (by simp) ?_
 unfold fitsB
 by_cases hs : r.src = s
 case neg =>
  have hs' : (r.src != s) = true := bne_iff_ne.2 hs
  have hs2 : (r.src == s) = false := beq_eq_false_iff_ne.2 hs
  simp only [go_sem, hs', hs2, Bool.false_and]
 have hs' : (r.src != s) = false := by rw [hs]; simp
 have hs2 : (r.src == s) = true := beq_iff_eq.2 hs
 simp only [go_sem, hs', hs2, Bool.true_and]
 refine LoopK.intro (fun i : Nat => ⟨28, [(2, vs 0 v), (14, vs 0 r.need), (15, vi r.need.length), (16, vi i)], [cR r]⟩) (fun i => v.length - i) (fun i => i <= v.length /\ ∀ j, j < i -> r.need[j]! <= v[j]!) 0 ⟨by omega, fun j hj => by omega⟩ ?_ ?_
 ·simp only [go_sem]
  all_goals first | exact leB_self _ | exact ⟨leV_refl _, leB_self _⟩
 rintro i ⟨hi, hb⟩
 by_cases h : i < v.length
 case neg =>
  have h' : ¬ i < r.need.length := by omega
  have hcan : canV r v = true := canV_iff.2 fun j hj => hb j (by omega)
  simp only [go_sem, h', hcan]
 have h' : i < r.need.length := by omega
 have hg := getv h
 have hg' := getv h'
 have hw : IntKind.i64.wrap (i + 1) = i + 1 := wrap_in (by omega) (by omega)
 by_cases hlt : v[i]! < r.need[i]!
 ·simp only [go_sem, h, h', hg, hg', hlt, can_stop h hlt]
 ·simp only [go_sem, h, h', hg, hg', hlt, hw]
  refine roundK.intro (i + 1) ⟨by omega, fun j hj => ?_⟩ (by omega) ?_
  ·by_cases hji : j = i
   ·subst hji; omega
   ·exact hb j (by omega)
  ·simp only [go_sem]
   all_goals exact leB_self _
def fireP (r : RD) (v : List Int) (i : Nat) : List Int := (List.range v.length).map fun j => if j < i then (fireO r v)[j]! else v[j]!
theorem fireP_len (r : RD) (v : List Int) (i : Nat) : (fireP r v i).length = v.length := by simp [fireP]
theorem fireP_at {r : RD} {v : List Int} {i j : Nat} (h : j < v.length) : (fireP r v i)[j]! = if j < i then (fireO r v)[j]! else v[j]! := by
 rw [getElem!_pos _ j (by rw [fireP_len]; exact h)]; simp [fireP]
theorem fireP_zero (r : RD) (v : List Int) : fireP r v 0 = v := by
 apply List.ext_getElem (fireP_len _ _ _)
 intro j h1 h2
 rw [<- getElem!_pos (fireP r v 0) j h1, fireP_at h2, getElem!_pos v j h2]; simp
theorem fireP_all (r : RD) (v : List Int) : fireP r v v.length = fireO r v := by
 apply List.ext_getElem (by rw [fireP_len, fireO_len])
 intro j h1 h2
 have h3 : j < v.length := by rw [fireO_len] at h2; exact h2
 rw [<- getElem!_pos (fireP r v v.length) j h1, fireP_at h3, getElem!_pos (fireO r v) j h2, if_pos h3]
theorem fireP_set {r : RD} {v : List Int} {i : Nat} (_hi : i < v.length) : (fireP r v i).set i (fireO r v)[i]! = fireP r v (i + 1) := by
 apply List.ext_getElem (by rw [List.length_set, fireP_len, fireP_len])
 intro j h1 h2
 have hj : j < v.length := by rw [fireP_len] at h2; exact h2
 rw [List.getElem_set, <- getElem!_pos (fireP r v (i + 1)) j h2, fireP_at hj]
 by_cases e : i = j
 ·subst e; rw [if_pos rfl, if_pos (by omega)]
 ·rw [if_neg e, <- getElem!_pos (fireP r v i) j (by rw [fireP_len]; exact hj), fireP_at hj]
  by_cases h1 : j < i
  ·rw [if_pos h1, if_pos (by omega)]
  ·rw [if_neg h1, if_neg (by omega)]
theorem fireP_keep {r : RD} {v : List Int} {i : Nat} (hi : i < v.length) (h : v[i]! = Om) : fireP r v (i + 1) = fireP r v i := by
 rw [<- fireP_set hi, fireO_at hi, if_pos h, <- h]
 apply List.ext_getElem (by rw [List.length_set])
 intro j h1 h2
 have hj : j < v.length := by rw [fireP_len] at h2; exact h2
 rw [List.getElem_set]
 by_cases e : i = j
 ·subst e
  rw [if_pos rfl, <- getElem!_pos (fireP r v i) i h2, fireP_at hj, if_neg (by omega)]
 ·rw [if_neg e]
theorem con_after (r : RD) (v : List Int) (np : Nat) (hr : SlimR np r) (hv : okV np v) (h6 : np <= 6) (h1 : 1 <= np) : Con Tryz.prog 37 [vRule r, vs 0 v] [] fun x _ => x = .tup [vs 2 (fireO r v), vb (!overO r v)] := by
 refine Con.intro Tryz.func37 rfl Tryz.ntmps37 Tryz.results37 (by kernel_rfl) (by simp) 0 (by simp) ?_
 have hvl := hv.1
 have h2 := hr.need
 have h3 := hr.give
 simp only [go_sem]
 refine CallU.free (con_clone v (by omega) (by omega)) (by simp only [go_sem]) (by simp only [go_sem]) ?_
 rintro x bx rfl
 simp only [go_sem]
 refine LoopK.intro (fun i : Nat => ⟨48, [(2, .pb 0 0), (6, .sl 770 1 ((fireP r v i).map vi)), (7, vb (!overN r v i)), (12, vs 0 v), (13, vi v.length), (14, vi i)], [cR r]⟩) (fun i => v.length - i) (fun i => i <= v.length) 0 (by omega) ?_ ?_
 ·simp only [go_sem, fireP_zero, overN, List.range_zero, List.any_nil]
  all_goals exact ⟨leV_refl _, leB_self _⟩
 rintro i hi
 by_cases h : i < v.length
 case neg =>
  obtain rfl : i = v.length := by omega
  simp only [go_sem, h, fireP_all, overN_all]
 have hn : i < r.need.length := by omega
 have hgl : i < r.give.length := by omega
 have hfl : i < (fireP r v i).length := by rw [fireP_len]; exact h
 have hfl2 : i < (fireP r v (i + 1)).length := by rw [fireP_len]; exact h
 have hg := getv h
 have hg' := getv hn
 have hg2 := getv hgl
 have hg3 := getv hfl2
 have hs := hv.small (i := i) (by omega)
 have hl := hr.low i (by omega)
 have hw : IntKind.i64.wrap (i + 1) = i + 1 := wrap_in (by omega) (by omega)
 have hw2 : IntKind.i64.wrap (v[i]! - r.need[i]!) = v[i]! - r.need[i]! := wrap_in (by omega) (by omega)
 have hw3 : IntKind.i64.wrap (v[i]! - r.need[i]! + r.give[i]!) = v[i]! + (r.give[i]! - r.need[i]!) := by rw [wrap_in (by omega) (by omega)]; omega
 have e2 := overN_succ (r := r) (v := v) (n := i)
 by_cases ho : v[i]! = 1099511627776
 ·have ho' : (v[i]! != 1099511627776) = false := by rw [ho]; rfl
  rw [show decide (v[i]! ≠ Om) = false from decide_eq_false (by rw [ho]; simp), Bool.false_and, Bool.or_false] at e2
  simp only [go_sem, h, hg, ho', hw]
  refine roundK.intro (i + 1) (by omega) (by omega) ?_
  simp only [go_sem, e2, fireP_keep h ho]
  all_goals exact leB_self _
 ·have ho' : (v[i]! != 1099511627776) = true := bne_iff_ne.2 ho
  have ef : (fireO r v)[i]! = v[i]! + (r.give[i]! - r.need[i]!) := by rw [fireO_at h, if_neg ho]
  have hset : (List.map vi (fireP r v i)).modify i (updElem 0 [AV.sc (.int .i64 (v[i]! + (r.give[i]! - r.need[i]!)))]) = (fireP r v (i + 1)).map vi := by rw [<- fireP_set h, ef]; exact modify_vi
  have eat : (fireP r v (i + 1))[i]! = v[i]! + (r.give[i]! - r.need[i]!) := by rw [fireP_at h, if_pos (by omega), ef]
  rw [eat] at hg3
  rw [show decide (v[i]! ≠ Om) = true from decide_eq_true ho, Bool.true_and] at e2
  simp only [go_sem, h, hg, ho']
  refine DrawK.walk 16 mixed (by kernel_rfl) ?_
  simp only [go_sem, hn, hgl, hfl, hg', hg2, hw2, hw3, hset, List.length_map]
  cases hov : overN r v i
  ·rw [hov, Bool.false_or] at e2
   by_cases hb : v[i]! + (r.give[i]! - r.need[i]!) <= 1048576
   ·rw [decide_eq_false (by omega)] at e2
    simp only [go_sem, hfl2, hg3, hb, hw]
    refine roundK.intro (i + 1) (by omega) (by omega) ?_
    simp only [go_sem, e2]
    all_goals exact leB_self _
   ·rw [decide_eq_true (by omega)] at e2
    simp only [go_sem, hfl2, hg3, hb, hw]
    refine roundK.intro (i + 1) (by omega) (by omega) ?_
    simp only [go_sem, e2]
    all_goals exact leB_self _
  ·rw [hov, Bool.true_or] at e2
   simp only [go_sem, hw]
   refine roundK.intro (i + 1) (by omega) (by omega) ?_
   simp only [go_sem, e2]
   all_goals exact leB_self _
theorem con_afterF (r : RD) (v : List Int) (np : Nat) (hr : SlimR np r) (hv : okV np v) (h6 : np <= 6) (h1 : 1 <= np) : Con Tryz.prog 37 [vRule r, vs 0 v] [] fun x _ => x = .tup [vs 0 (fireO r v), vb (!overO r v)] :=
 (Con.freezeR (fun _ => true) (con_after r v np hr hv h6 h1)).weak fun r b ⟨r0, h0, h1⟩ => by
  subst h0; subst h1
  exact ⟨_, rfl, leV_refl _⟩
theorem con_number (x : Int) : Con Tryz.prog 60 [vi x] [] fun r _ => r = vb (decide (0 <= x) && decide (x <= 1048576)) := by
 refine Con.intro Tryz.func60 rfl Tryz.ntmps60 Tryz.results60 (by kernel_rfl) (by simp) 0 (by simp) ?_
 by_cases h1 : 0 <= x
 ·by_cases h2 : x <= 1048576
  ·simp only [go_sem, h1, h2, decide_true, Bool.true_and]
  ·simp only [go_sem, h1, h2, decide_true, decide_false, Bool.true_and]
 ·simp only [go_sem, h1, decide_false, Bool.false_and]
theorem con_vvalid1 (x : Int) : Con Tryz.prog 59 [vi x] [] fun r _ => r = .sc (.bool (!elB x)) := by
 refine Con.intro Tryz.func59 rfl Tryz.ntmps59 Tryz.results59 (by kernel_rfl) (by simp) 0 (by simp) ?_
 unfold elB
 simp only [go_sem]
 refine CallU.free (con_number x) (by simp only [go_sem]) (by simp only [go_sem]) ?_
 rintro r bx rfl
 cases hq : (decide (0 <= x) && decide (x <= 1048576))
 ·by_cases ho : x = 1099511627776
  ·have ho' : (x != 1099511627776) = false := by rw [ho]; rfl
   have ho2 : (x == 1099511627776) = true := by rw [ho]; rfl
   simp only [go_sem, ho', ho2, Bool.false_or]
  ·have ho' : (x != 1099511627776) = true := bne_iff_ne.2 ho
   have ho2 : (x == 1099511627776) = false := beq_eq_false_iff_ne.2 ho
   simp only [go_sem, ho', ho2, Bool.false_or]
 ·simp only [go_sem, Bool.true_or]
theorem con_vvalid (l : List Int) (hl : l.length <= 1000000) : Con Tryz.prog 33 [vs 0 l] [] fun r _ => r = vb (vecB l) := by
 refine Con.intro Tryz.func33 rfl Tryz.ntmps33 Tryz.results33 (by kernel_rfl) (by simp) 0 (by simp) ?_
 unfold vecB
 by_cases h : (l.length : Int) <= 6
 case neg =>
  have e : decide (l.length <= 6) = false := decide_eq_false (by omega)
  simp only [go_sem, h, e, Bool.and_false, List.length_map]
 have e : decide (l.length <= 6) = true := decide_eq_true (by omega)
 simp only [go_sem, h, e, Bool.and_true, List.length_map]
 refine CallU.look (con_containsInt l 59 [] (fun x => !elB x) (by simp only [go_sem]) (fun x _ => con_vvalid1 x) (by omega)) (by simp only [go_sem]) (by simp only [go_sem]) ?_
 rintro r bx rfl
 simp only [go_sem, any_not]
theorem con_below (a b : List Int) (h : a.length <= b.length) (hl : a.length <= 1000000) : Con Tryz.prog 83 [vs 0 a, vs 0 b] [] fun r _ => r = vb (atB a b) := by
 refine Con.intro Tryz.func83 rfl Tryz.ntmps83 Tryz.results83 (by kernel_rfl) (by simp) 0 (by simp) ?_
 simp only [go_sem]
 refine LoopK.intro (fun i : Nat => ⟨21, [(1, vs 0 b), (7, vs 0 a), (8, vi a.length), (9, vi i)], []⟩) (fun i => a.length - i) (fun i => i <= a.length /\ ∀ j, j < i -> a[j]! <= b[j]!) 0 ⟨by omega, fun j hj => by omega⟩ ?_ ?_
 ·simp only [go_sem]
  all_goals exact leV_refl _
 rintro i ⟨hi, hb⟩
 by_cases h1 : i < a.length
 case neg =>
  simp only [go_sem, h1, at_iff.2 fun j hj => hb j (by omega)]
 have h2 : i < b.length := by omega
 have hg := getv h1
 have hg' := getv h2
 have hw : IntKind.i64.wrap (i + 1) = i + 1 := wrap_in (by omega) (by omega)
 by_cases hlt : b[i]! < a[i]!
 ·have e : atB a b = false := by
   cases e : atB a b
   ·rfl
   ·have := at_iff.1 e i h1
    omega
  simp only [go_sem, h1, h2, hg, hg', hlt, e]
 ·simp only [go_sem, h1, h2, hg, hg', hlt, hw]
  refine roundK.intro (i + 1) ⟨by omega, fun j hj => ?_⟩ (by omega) ?_
  ·by_cases hji : j = i
   ·subst hji; omega
   ·exact hb j (by omega)
  ·simp only [go_sem]
theorem con_atMost (a b : List Int) (h : a.length <= b.length) (hl : a.length <= 1000000) : Con Tryz.prog 40 [vs 0 a, vs 0 b] [] fun r _ => r = vb (atB a b) := by
 refine Con.intro Tryz.func40 rfl Tryz.ntmps40 Tryz.results40 (by kernel_rfl) (by simp) 0 (by simp) ?_
 simp only [go_sem]
 refine LoopK.intro (fun i : Nat => ⟨21, [(1, vs 0 b), (7, vs 0 a), (8, vi a.length), (9, vi i)], []⟩) (fun i => a.length - i) (fun i => i <= a.length /\ ∀ j, j < i -> a[j]! <= b[j]!) 0 ⟨by omega, fun j hj => by omega⟩ ?_ ?_
 ·simp only [go_sem]
  all_goals exact leV_refl _
 rintro i ⟨hi, hb⟩
 by_cases h1 : i < a.length
 case neg =>
  simp only [go_sem, h1, at_iff.2 fun j hj => hb j (by omega)]
 have h2 : i < b.length := by omega
 have hg := getv h1
 have hg' := getv h2
 have hw : IntKind.i64.wrap (i + 1) = i + 1 := wrap_in (by omega) (by omega)
 by_cases hlt : b[i]! < a[i]!
 ·have e : atB a b = false := by
   cases e : atB a b
   ·rfl
   ·have := at_iff.1 e i h1
    omega
  simp only [go_sem, h1, h2, hg, hg', hlt, e]
 ·simp only [go_sem, h1, h2, hg, hg', hlt, hw]
  refine roundK.intro (i + 1) ⟨by omega, fun j hj => ?_⟩ (by omega) ?_
  ·by_cases hji : j = i
   ·subst hji; omega
   ·exact hb j (by omega)
  ·simp only [go_sem]
theorem con_vleq (a b : List Int) (ha : a.length <= 1000000) (hb : b.length <= 1000000) : Con Tryz.prog 62 [vs 0 a, vs 0 b] [] fun r _ => r = vb (leqV a b) := by
 refine Con.intro Tryz.func62 rfl Tryz.ntmps62 Tryz.results62 (by kernel_rfl) (by simp) 0 (by simp) ?_
 change wpA _ _ (endQ _ _ _ fun r _ => r = vb (vecB a && vecB b && decide (a.length = b.length) && atB a b)) _
 simp only [go_sem]
 refine CallU.free (con_vvalid a ha) (by simp only [go_sem]) (by simp only [go_sem]) ?_
 rintro r bx rfl
 cases h1 : vecB a
 ·simp only [go_sem, Bool.false_and]
 simp only [go_sem]
 refine CallU.free (con_vvalid b hb) (by simp only [go_sem]) (by simp only [go_sem]) ?_
 rintro r bx rfl
 cases h2 : vecB b
 ·simp only [go_sem, Bool.false_and, Bool.and_false]
 by_cases h3 : a.length = b.length
 case neg =>
  have h3' : ((a.length : Int) == (b.length : Int)) = false := beq_eq_false_iff_ne.2 (by omega)
  simp only [go_sem, h3', h3, decide_false, Bool.and_false, Bool.false_and, List.length_map]
 have h3' : ((a.length : Int) == (b.length : Int)) = true := beq_iff_eq.2 (by omega)
 rw [decide_eq_true h3]
 simp only [go_sem, h3', List.length_map]
 refine CallU.free (con_below a b (by omega) ha) (by simp only [go_sem]) (by simp only [go_sem]) ?_
 rintro r bx rfl
 simp only [go_sem, Bool.true_and]
end Go.AM
