/- CrD CrE CrF CrL Am5 CmZ CrM CrN CrO CmX0 -/
import Derived.Test.YtapjfgddbfneaaaGreatg10
import Derived.Test.YtapjfgddbfneaaaGreatg6
import Derived.Test.YtapjfgddbfneaaaGreatg7
import Derived.Test.YtapjfgddbfneaaaGreatg9
namespace Go.AM
open Go Go.Proofs Go.RowKit
set_option maxRecDepth 100000
set_option maxHeartbeats 8000000
theorem con_rtypeOfP (m : MD) (h : PreM m) : Con Tryz.prog 85 [vM m] [] fun r _ => r = flatT 2 (partsP m.states.length m.places.length) := by
 refine Con.intro Tryz.func85 rfl Tryz.ntmps85 Tryz.results85 (by kernel_rfl) (by simp) 0 (by simp) ?_
 have h2 := h.places
 unfold vM cM
 rw [h.kind, h.letters]
 simp only [go_sem, vss, List.length_map, List.map_nil, List.length_nil]
 refine LoopK.intro (fun i : Nat => ⟨96, [(1, .pb 0 0), (2, .pb 1 0), (3, .pb 2 0), (4, .pb 3 0), (8, vi i)], [vi 1, .sl 0 1 (m.states.map vStr), .sl 0 1 (m.places.map vStr), .sl 0 1 [], vs 0 m.ranks, vi m.levels, vi m.age, .sl 0 14 (m.rules.map vRule), vi m.start.n, .sl 0 2 (m.start.kids.map vV)] :: [.any, .any, .any, .any] :: [vi 3, vi 0, .nil, .sl 960 4 ((partsP m.states.length i).map vPT)] :: [.any, .any, .any, .any] :: Rk 4 i⟩)
  (fun i => m.places.length - i) (fun i => i <= m.places.length) 0 (by omega) ?_ ?_
 ·simp only [go_sem, partsP, List.replicate_zero, List.map_cons, List.map_nil]
  all_goals exact leB_self _
 rintro i hi
 by_cases hlt : i < m.places.length
 ·have hw : IntKind.i64.wrap (i + 1) = i + 1 := wrap_in (by omega) (by omega)
  have hB := Rk_len 4 i
  have n0 := fun L : List (List AV) => app_at0 (L := L) hB
  have s0 := fun (L : List (List AV)) z => app_set0 (L := L) (z := z) hB
  have e := parts_succ m.states.length i
  simp only [go_sem, hlt, hw, hB, n0, s0, List.length_map]
  refine ⟨by simp only [roomFor, parts_len]; omega, ?_⟩
  refine roundK.intro (i + 1) (by omega) (by omega) ?_
  simp only [go_sem, Rk_succ, e, List.map_append, List.map_cons, List.map_nil]
  exact leB_RkA ⟨leC_any _ 4 rfl, trivial⟩
 ·obtain rfl : i = m.places.length := by omega
  simp only [go_sem, hlt, List.length_map]
theorem con_rtypeOf (m : MD) (h : GoodM m) : Con Tryz.prog 85 [vM m] [] fun r _ => r = flatT 2 (partsP m.states.length m.places.length) :=
 con_rtypeOfP m h.pre
theorem con_rvalidLeaf (p : Int × Int) (d : Int) (hp : LeafP p) (hd : d ≠ 0) : Con Tryz.prog 149 [vPT p, vi d] [] fun r _ => r = vb true := by
 refine Con.intro Tryz.func149 rfl Tryz.ntmps149 Tryz.results149 (by kernel_rfl) (by simp) 0 (by simp) ?_
 have hd0 : (d == 0) = false := beq_eq_false_iff_ne.2 hd
 obtain ⟨k, s⟩ := p
 rcases hp with hp | ⟨rfl, h1, h2⟩
 ·cases hp
  simp only [go_sem, hd0]
 ·simp only [go_sem, hd0, h1, h2]
theorem con_rvalidFlat (ps : List (Int × Int)) (hl : 1 <= ps.length) (hl2 : ps.length <= 8) (hp : ∀ p ∈ ps, LeafP p) : Con Tryz.prog 149 [flatT 0 ps, vi 8] [] fun r _ => r = vb true := by
 refine Con.intro Tryz.func149 rfl Tryz.ntmps149 Tryz.results149 (by kernel_rfl) (by simp) 0 (by simp) ?_
 have a1 : ¬ ((ps.length : Int) < 1) := by omega
 have a2 : ¬ ((8 : Int) < (ps.length : Int)) := by omega
 simp only [go_sem, a1, a2]
 refine LoopK.intro (fun i : Nat => ⟨132, [(1, vi 8), (2, .pb 0 0), (5, vi i)], [[vi 3, vi 0, .nil, .sl 0 4 (ps.map vPT)]]⟩)
  (fun i => ps.length - i) (fun i => i <= ps.length) 0 (by omega) ?_ ?_
 ·simp only [go_sem]
 rintro i hi
 by_cases h : i < ps.length
 ·have hg := getPT h
  have hw : IntKind.i64.wrap (i + 1) = i + 1 := wrap_in (by omega) (by omega)
  simp only [go_sem, h, hg]
  refine CallU.free (con_rvalidLeaf ps[i]! 7 (hp _ (mem_bangI h)) (by omega)) (by simp only [go_sem]) (by simp only [go_sem]; rfl) ?_
  rintro r bx rfl
  simp only [go_sem, hw]
  refine roundK.intro (i + 1) (by omega) (by omega) ?_
  simp only [go_sem]
 ·simp only [go_sem, h]
theorem con_rtcheck (ps : List (Int × Int)) (hl : 1 <= ps.length) (hl2 : ps.length <= 8) (hp : ∀ p ∈ ps, LeafP p) : Con Tryz.prog 110 [flatT 0 ps] [] fun r _ => r = vi 0 := by
 refine Con.intro Tryz.func110 rfl Tryz.ntmps110 Tryz.results110 (by kernel_rfl) (by simp) 0 (by simp) ?_
 simp only [go_sem]
 refine CallU.free (con_rvalidFlat ps hl hl2 hp) (by simp only [go_sem]) (by simp only [go_sem]) ?_
 rintro r bx rfl
 simp only [go_sem]
theorem con_rsizeLeaf (v : CV) (most : Int) (hk : v.kids = []) : Con Tryz.prog 111 [vV v, vi most] [] fun r _ => r = vi 1 := by
 rw [vV_eq]
 refine Con.intro Tryz.func111 rfl Tryz.ntmps111 Tryz.results111 (by kernel_rfl) (by simp) 0 (by simp) ?_
 rw [hk]
 simp only [go_sem, List.map_nil]
 refine LoopK.intro (fun _ : Nat => ⟨31, [(1, vi most), (2, .pb 0 0), (5, vi 1), (6, vi 0)], [[vi v.n, .sl 0 2 []]]⟩) (fun i => i) (fun _ => True) 0 trivial ?_ ?_
 ·simp only [go_sem]
 rintro i _
 simp only [go_sem, List.length_nil]
theorem con_rsize (v : CV) (hk : ∀ x ∈ v.kids, x.kids = []) (hl : v.kids.length <= 100) : Con Tryz.prog 111 [vV v, vi 128] [] fun r _ => r = vi (1 + v.kids.length) := by
 rw [vV_eq]
 refine Con.intro Tryz.func111 rfl Tryz.ntmps111 Tryz.results111 (by kernel_rfl) (by simp) 0 (by simp) ?_
 simp only [go_sem]
 refine LoopK.intro (fun i : Nat => ⟨31, [(1, vi 128), (2, .pb 0 0), (5, vi (1 + i)), (6, vi i)], [[vi v.n, .sl 0 2 (v.kids.map vV)]]⟩) (fun i => v.kids.length - i) (fun i => i <= v.kids.length) 0 (by omega) ?_ ?_
 ·simp only [go_sem]
  all_goals exact leV_refl _
 rintro i hi
 by_cases h : i < v.kids.length
 ·have hg := getvV h
  have hw : IntKind.i64.wrap (i + 1) = i + 1 := wrap_in (by omega) (by omega)
  have hw2 : IntKind.i64.wrap (1 + (i : Int) + 1) = 1 + (i + 1) := by rw [wrap_in (by omega) (by omega)]; omega
  have hw3 : IntKind.i64.wrap (128 - (1 + (i : Int))) = 128 - (1 + i) := wrap_in (by omega) (by omega)
  have h8 : 1 + (i : Int) <= 128 := by omega
  simp only [go_sem, h, h8, hg, hw3]
  refine CallU.free (con_rsizeLeaf v.kids[i]! (128 - (1 + i)) (hk _ (mem_bangI h))) (by simp only [go_sem]) (by simp only [go_sem, vV_eq]) ?_
  rintro r bx rfl
  simp only [go_sem, hw, hw2]
  refine roundK.intro (i + 1) (by omega) (by omega) ?_
  simp only [go_sem]
 ·have e : i = v.kids.length := by omega
  subst e
  simp only [go_sem, h]
theorem con_rofLeaf (p : Int × Int) (v : CV) (hp : LeafP p) (h : leafOk p v = true) : Con Tryz.prog 112 [vPT p, vV v] [] fun r _ => r = vb true := by
 rw [vV_eq]
 refine Con.intro Tryz.func112 rfl Tryz.ntmps112 Tryz.results112 (by kernel_rfl) (by simp) 0 (by simp) ?_
 obtain ⟨k, s⟩ := p
 rcases hp with hp | ⟨rfl, h1, h2⟩
 ·cases hp
  unfold leafOk at h
  rw [if_pos rfl] at h
  simp only [Bool.and_eq_true, decide_eq_true_eq, beq_iff_eq] at h
  obtain ⟨⟨g1, g2⟩, g3⟩ := h
  have e : v.kids = [] := List.eq_nil_of_length_eq_zero g3
  simp only [go_sem, g1, g2, e, List.map_nil, List.length_nil]
 ·unfold leafOk at h
  rw [if_neg (show ¬ ((2 : Int) = 1) by decide)] at h
  simp only [Bool.and_eq_true, decide_eq_true_eq, beq_iff_eq] at h
  obtain ⟨⟨g1, g2⟩, g3⟩ := h
  have e : v.kids = [] := List.eq_nil_of_length_eq_zero g3
  simp only [go_sem, g1, g2, e, List.map_nil, List.length_nil]
theorem con_rofFlat (ps : List (Int × Int)) (v : CV) (hp : ∀ p ∈ ps, LeafP p) (hl : ps.length <= 1000000) (h : flatOk ps v = true) : Con Tryz.prog 112 [flatT 0 ps, vV v] [] fun r _ => r = vb true := by
 rw [vV_eq]
 refine Con.intro Tryz.func112 rfl Tryz.ntmps112 Tryz.results112 (by kernel_rfl) (by simp) 0 (by simp) ?_
 unfold flatOk at h
 simp only [Bool.and_eq_true, beq_iff_eq, decide_eq_true_eq, List.all_eq_true, List.mem_range] at h
 obtain ⟨⟨g1, g2⟩, g3⟩ := h
 have hn : ((v.kids.length : Int) != (ps.length : Int)) = false := by rw [g2]; simp
 simp only [go_sem, g1, hn]
 refine LoopK.intro (fun i : Nat => ⟨169, [(2, .pb 0 0), (3, .pb 1 0), (5, vi i)], [[vi 3, vi 0, .nil, .sl 0 4 (ps.map vPT)], [vi 0, .sl 0 2 (v.kids.map vV)]]⟩) (fun i => v.kids.length - i) (fun i => i <= v.kids.length) 0 (by omega) ?_ ?_
 ·simp only [go_sem]
  all_goals exact leB_self _
 rintro i hi
 by_cases h : i < v.kids.length
 ·have hip : i < ps.length := by omega
  have hg := getvV h
  have hg2 := getPT hip
  have hw : IntKind.i64.wrap (i + 1) = i + 1 := wrap_in (by omega) (by omega)
  simp only [go_sem, h]
  refine DrawK.walk 12 mixed (by kernel_rfl) ?_
  simp only [go_sem, h, hip, hg, hg2]
  refine CallY.mk (con_rofLeaf ps[i]! v.kids[i]! (hp _ (mem_bangI hip)) (g3 i hip)) (by simp only [go_sem, vV_eq]) (by simp only [go_sem]) (.inl (by simp only [go_sem])) ?_
  simp only [go_sem, hw]
  refine roundK.intro (i + 1) (by omega) (by omega) ?_
  simp only [go_sem]
 ·simp only [go_sem, h]
theorem con_rvalid (ns np : Nat) (v : CV) (h1 : 1 <= ns) (h2 : ns <= 16) (h3 : np <= 7) (hc : confB ns np v = true) : Con Tryz.prog 84 [flatT 0 (partsP ns np), vV v] [] fun r _ => r = vb true := by
 have e0 := vV_eq v
 rw [e0]
 refine Con.intro Tryz.func84 rfl Tryz.ntmps84 Tryz.results84 (by kernel_rfl) (by simp) 0 (by simp) ?_
 obtain ⟨_, hlen⟩ := conf_ok (by omega) hc
 have hkids : ∀ x ∈ v.kids, x.kids = [] := by
  intro x hx
  have hf := hc
  rw [<- conf_flat] at hf
  unfold flatOk at hf
  simp only [Bool.and_eq_true, beq_iff_eq, decide_eq_true_eq, List.all_eq_true, List.mem_range] at hf
  obtain ⟨i, hi, e⟩ := List.getElem_of_mem hx
  have h4 := hf.2 i (by omega)
  rw [getElem!_pos v.kids i hi, e] at h4
  unfold leafOk at h4
  split at h4
  ·simp only [Bool.and_eq_true, beq_iff_eq] at h4; exact List.eq_nil_of_length_eq_zero h4.2
  ·simp only [Bool.and_eq_true, beq_iff_eq] at h4; exact List.eq_nil_of_length_eq_zero h4.2
 simp only [go_sem]
 refine CallU.free (con_rtcheck (partsP ns np) (by rw [parts_len]; omega) (by rw [parts_len]; omega) (parts_leaf h1 h2)) (by simp only [go_sem]) (by simp only [go_sem]) ?_
 rintro r bx rfl
 simp only [go_sem]
 refine CallU.free (con_rsize v hkids (by omega)) (by simp only [go_sem]) (by simp only [go_sem, vV_eq]) ?_
 rintro r bx rfl
 have h8 : 1 + (v.kids.length : Int) <= 128 := by omega
 simp only [go_sem, h8]
 refine CallU.free (con_rofFlat (partsP ns np) v (parts_leaf h1 h2) (by rw [parts_len]; omega) (by rw [conf_flat]; exact hc)) (by simp only [go_sem]) (by simp only [go_sem, vV_eq]) ?_
 rintro r bx rfl
 simp only [go_sem]
theorem con_rmcheck (m : MD) (h : GoodM m) : Con Tryz.prog 75 [vM m] [] fun r _ => r = vi 0 := by
 refine Con.intro Tryz.func75 rfl Tryz.ntmps75 Tryz.results75 (by kernel_rfl) (by simp) 0 (by simp) ?_
 have h1 := h.states; have h2 := h.places; have h3 := h.few
 have hk := h.kind
 have b1 := con_rbetween 1 1 6
 rw [between_true (by omega) (by omega)] at b1
 simp only [go_sem, vM, cM, vss, hk]
 refine CallU.free b1 (by simp only [go_sem]) (by simp only [go_sem]) ?_
 rintro r bx rfl
 simp only [go_sem]
 refine CallU.free (con_rnumbers m h) (by simp only [go_sem]) (by simp only [go_sem, vM, cM, vss, hk]) ?_
 rintro r bx rfl
 simp only [go_sem]
 refine CallU.free (con_rranks m h) (by simp only [go_sem]) (by simp only [go_sem, vM, cM, vss, hk]) ?_
 rintro r bx rfl
 simp only [go_sem]
 refine CallU.free (con_rnames m h) (by simp only [go_sem]) (by simp only [go_sem, vM, cM, vss, hk]) ?_
 rintro r bx rfl
 simp only [go_sem]
 refine LoopK.intro (fun i : Nat => ⟨52, [(1, .pb 0 0), (2, vi 0), (3, vi i)], [[vi 1, .sl 0 1 (m.states.map vStr), .sl 0 1 (m.places.map vStr), .sl 0 1 (m.letters.map vStr), vs 0 m.ranks, vi m.levels, vi m.age, .sl 0 14 (m.rules.map vRule), vi m.start.n, .sl 0 2 (m.start.kids.map vV)]]⟩)
  (fun i => m.rules.length - i) (fun i => i <= m.rules.length) 0 (by omega) ?_ ?_
 ·simp only [go_sem]
 rintro i hi
 by_cases hlt : i < m.rules.length
 ·have hg := getRule hlt
  have hw : IntKind.i64.wrap (i + 1) = i + 1 := wrap_in (by omega) (by omega)
  simp only [go_sem, hlt]
  refine DrawK.walk 8 mixed (by kernel_rfl) ?_
  simp only [go_sem, hlt, hg]
  refine CallY.mk (con_rright m m.rules[i]! h (mem_bangI hlt)) (by simp only [go_sem, vM, cM, vss, hk]) (by simp only [go_sem]) (.inl (by simp only [go_sem])) ?_
  simp only [go_sem, hw]
  refine roundK.intro (i + 1) (by omega) (by omega) ?_
  simp only [go_sem]
 ·simp only [go_sem, hlt]
  refine DrawK.walk 6 mixed (by kernel_rfl) ?_
  simp only [go_sem]
  refine CallY.mk (con_rtypeOf m h) (by simp only [go_sem, vM, cM, vss, hk]) (by simp only [go_sem]) (.inl (by simp only [go_sem])) ?_
  simp only [go_sem]
  refine CallY.mk (con_rvalid m.states.length m.places.length m.start (by omega) (by omega) (by omega) h.start) (by simp only [go_sem, vV_eq]) (by simp only [go_sem]) (.inr (by simp only [go_sem])) ?_
  simp only [go_sem]
theorem con_rmvalid (m : MD) (c : CV) (h : GoodM m) (hc : confB m.states.length m.places.length c = true) : Con Tryz.prog 66 [vM m, vV c] [] fun r _ => r = vb true := by
 rw [vV_eq c]
 refine Con.intro Tryz.func66 rfl Tryz.ntmps66 Tryz.results66 (by kernel_rfl) (by simp) 0 (by simp) ?_
 have h1 := h.states; have h2 := h.places
 simp only [go_sem, vM, cM, vss]
 refine DrawK.walk 10 mixed (by kernel_rfl) ?_
 simp only [go_sem]
 refine CallY.mk (con_rmcheck m h) (by simp only [go_sem, vM, cM, vss]) (by simp only [go_sem]) (.inl (by simp only [go_sem])) ?_
 simp only [go_sem]
 refine CallY.mk (con_rtypeOf m h) (by simp only [go_sem, vM, cM, vss]) (by simp only [go_sem]) (.inl (by simp only [go_sem])) ?_
 simp only [go_sem]
 refine CallY.mk (con_rvalid m.states.length m.places.length c (by omega) (by omega) (by omega) hc) (by simp only [go_sem, vV_eq]) (by simp only [go_sem]) (.inr (by simp only [go_sem])) ?_
 simp only [go_sem]
theorem con_rplain (m : MD) (h : GoodM m) (hs : m.rules.all stillB = true) : Con Tryz.prog 53 [vM m] [] fun r _ => r = vi 0 := by
 refine Con.intro Tryz.func53 rfl Tryz.ntmps53 Tryz.results53 (by kernel_rfl) (by simp) 0 (by simp) ?_
 have h3 := h.few
 have hk := h.kind
 simp only [go_sem, vM, cM, vss, hk]
 refine CallU.free (con_rmcheck m h) (by simp only [go_sem]) (by simp only [go_sem, vM, cM, vss, hk]) ?_
 rintro r bx rfl
 simp only [go_sem]
 refine LoopK.intro (fun i : Nat => ⟨28, [(1, .pb 0 0), (4, vi i)], [[vi 1, .sl 0 1 (m.states.map vStr), .sl 0 1 (m.places.map vStr), .sl 0 1 (m.letters.map vStr), vs 0 m.ranks, vi m.levels, vi m.age, .sl 0 14 (m.rules.map vRule), vi m.start.n, .sl 0 2 (m.start.kids.map vV)]]⟩)
  (fun i => m.rules.length - i) (fun i => i <= m.rules.length) 0 (by omega) ?_ ?_
 ·simp only [go_sem]
 rintro i hi
 by_cases hlt : i < m.rules.length
 ·have hg := getRule hlt
  have hw : IntKind.i64.wrap (i + 1) = i + 1 := wrap_in (by omega) (by omega)
  have hst := List.all_eq_true.1 hs _ (mem_bangI hlt)
  unfold stillB at hst
  rw [beq_iff_eq] at hst
  have hmv : m.rules[i]!.move = [] := List.eq_nil_of_length_eq_zero hst
  simp only [go_sem, hlt, hg, hmv, hw, List.map_nil, List.length_nil]
  refine roundK.intro (i + 1) (by omega) (by omega) ?_
  simp only [go_sem]
 ·simp only [go_sem, hlt]
theorem tail_step {L : List CV} {i : Nat} (h1 : 1 <= i) (h : i < L.length) : ((L.take (i + 1)).drop 1).map CV.n = ((L.take i).drop 1).map CV.n ++ [L[i]!.n] := by
 rw [List.take_add_one, List.getElem?_eq_getElem h, getElem!_pos L i h, Option.toList, List.drop_append_of_le_length (by rw [List.length_take]; omega), List.map_append]; rfl
theorem con_rNumbers (n : Int) (x : CV) (l : List CV) (hl : l.length <= 1000000) : Con Tryz.prog 15 [.ag [vi n, .sl 0 2 ((x :: l).map vV)]] [] fun r _ => r = vs 2 (l.map CV.n) := by
 refine Con.intro Tryz.func15 rfl Tryz.ntmps15 Tryz.results15 (by kernel_rfl) (by simp) 0 (by simp) ?_
 obtain ⟨L, hL⟩ : ∃ L, L = x :: l := ⟨_, rfl⟩
 have hLl : L.length = l.length + 1 := by rw [hL]; rfl
 have e : l.map CV.n = ((L.take L.length).drop 1).map CV.n := by rw [List.take_length, hL]; rfl
 rw [e, <- hL]
 simp only [go_sem]
 refine LoopK.intro (fun i : Nat => ⟨22, [(1, .pb 0 0), (3, vs 1344 (((L.take i).drop 1).map CV.n)), (4, vi i)], [[vi n, .sl 0 2 (L.map vV)]]⟩) (fun i => L.length - i) (fun i => 1 <= i /\ i <= L.length) 1 ⟨by omega, by omega⟩ ?_ ?_
 ·have e1 : (L.take 1).drop 1 = [] := by rw [hL]; rfl
  simp only [go_sem, e1, List.map_nil]
  all_goals exact leV_int rfl
 rintro i ⟨hi1, hi⟩
 by_cases h : i < L.length
 ·have hg := getvV h
  have hw : IntKind.i64.wrap (i + 1) = i + 1 := wrap_in (by omega) (by omega)
  have hr : roomFor (((L.take i).drop 1).length + 1) 8 := by simp only [roomFor, List.length_drop, List.length_take]; omega
  have e2 := tail_step hi1 h
  simp only [go_sem, h, hg, hw, hr]
  refine roundK.intro (i + 1) ⟨by omega, by omega⟩ (by omega) ?_
  simp only [go_sem, e2, List.map_append, List.map_cons, List.map_nil]
 ·obtain rfl : i = L.length := by omega
  simp only [go_sem, h]
theorem con_rkind (m : MD) (h : GoodM m) : Con Tryz.prog 65 [vM m] [] fun r _ => r = vi 0 := by
 refine Con.intro Tryz.func65 rfl Tryz.ntmps65 Tryz.results65 (by kernel_rfl) (by simp) 0 (by simp) ?_
 have hk := h.kind
 simp only [go_sem, vM, cM, vss, hk]
 refine CallU.free (con_rmcheck m h) (by simp only [go_sem]) (by simp only [go_sem, vM, cM, vss, hk]) ?_
 rintro r bx rfl
 simp only [go_sem]
theorem con_rfault (m : MD) (i : Nat) (h : GoodM m) (hi : i < m.rules.length) : Con Tryz.prog 163 [vM m, vi i] [] fun r _ => r = vi 0 := by
 refine Con.intro Tryz.func163 rfl Tryz.ntmps163 Tryz.results163 (by kernel_rfl) (by simp) 0 (by simp) ?_
 have hk := h.kind
 have a1 : ¬ ((i : Int) < 0) := by omega
 have a2 : ¬ ((m.rules.length : Int) <= (i : Int)) := by omega
 simp only [go_sem, vM, cM, vss, hk]
 refine CallU.free (con_rmcheck m h) (by simp only [go_sem]) (by simp only [go_sem, vM, cM, vss, hk]) ?_
 rintro r bx rfl
 simp only [go_sem, a1, a2, List.length_map]
def enF (r : RD) (s : Nat) (v : List Int) : Bool := ((s : Int) == r.src) && (List.range r.need.length).all fun i => decide (r.need[i]! <= v[i]!)
theorem cfg_kid {s : Nat} {v : List Int} {i : Nat} (h : i < v.length) : ((cfgC s v).kids.map vV)[i + 1]? = some (.ag [.sc (.int .i64 v[i]!), .sl 0 2 []]) := by
 show ((CV.mk s [] :: v.map fun n => CV.mk n []).map vV)[i + 1]? = _
 rw [List.map_cons, List.getElem?_cons_succ, List.getElem?_map, List.getElem?_map, List.getElem?_eq_getElem h, getElem!_pos v i h]
 show some (vV (CV.mk v[i] [])) = _
 rw [vV_eq]; rfl
theorem cfg_first {s : Nat} {v : List Int} : ((cfgC s v).kids.map vV)[0]? = some (.ag [.sc (.int .i64 s), .sl 0 2 []]) := by
 show ((CV.mk s [] :: v.map fun n => CV.mk n []).map vV)[0]? = _
 rw [List.map_cons, List.getElem?_cons_zero, vV_eq]; rfl
theorem cfg_klen {s : Nat} {v : List Int} : (cfgC s v).kids.length = v.length + 1 := by
 show (CV.mk s [] :: v.map fun n => CV.mk n []).length = _
 simp
theorem con_renabled (r : RD) (s : Nat) (v : List Int) (hl : r.need.length = v.length) (h6 : v.length <= 6) : Con Tryz.prog 164 [vRule r, vV (cfgC s v)] [] fun x _ => x = vb (enF r s v) := by
 rw [vV_eq (cfgC s v)]
 refine Con.intro Tryz.func164 rfl Tryz.ntmps164 Tryz.results164 (by kernel_rfl) (by simp) 0 (by simp) ?_
 have g0 := cfg_first (s := s) (v := v)
 have kl := cfg_klen (s := s) (v := v)
 have k0 : 0 < (cfgC s v).kids.length := by rw [kl]; omega
 simp only [go_sem]
 refine DrawK.walk 8 mixed (by kernel_rfl) ?_
 simp only [go_sem, k0, g0]
 by_cases hs : (s : Int) = r.src
 case neg =>
  have hn : ((s : Int) != r.src) = true := bne_iff_ne.2 hs
  have e : enF r s v = false := by unfold enF; rw [beq_eq_false_iff_ne.2 hs]; rfl
  simp only [go_sem, hn, e]
 have hn : ((s : Int) != r.src) = false := by rw [hs]; simp
 simp only [go_sem, hn]
 refine LoopK.intro (fun i : Nat => ⟨34, [(2, .pb 0 0), (3, .pb 1 0), (5, vi i)], [[vStr r.name, vi r.src, vi r.dst, vs 0 r.need, vs 0 r.give, vs 0 r.move, vi r.channel, vi r.act, vi r.letter, vs 0 r.path, vs 0 r.next, .sl 0 3 (r.takes.map vTake), vs 0 r.makes, vi r.second], [vi (cfgC s v).n, .sl 0 2 ((cfgC s v).kids.map vV)]]⟩)
  (fun i => r.need.length - i) (fun i => i <= r.need.length /\ ∀ j, j < i -> r.need[j]! <= v[j]!) 0 ⟨by omega, fun j hj => by omega⟩ ?_ ?_
 ·simp only [go_sem]
  all_goals exact leB_self _
 rintro i ⟨hi, hb⟩
 by_cases h : i < r.need.length
 ·have hg := getv h
  have hk := cfg_kid (s := s) (v := v) (i := i) (by omega)
  have hkl : i + 1 < (cfgC s v).kids.length := by rw [kl]; omega
  have hw : IntKind.i64.wrap (i + 1) = i + 1 := wrap_in (by omega) (by omega)
  have hw2 : IntKind.i64.wrap (1 + (i : Int)) = ((i + 1 : Nat) : Int) := by rw [wrap_in (by omega) (by omega)]; omega
  simp only [go_sem, h]
  refine DrawK.walk 13 mixed (by kernel_rfl) ?_
  have ht : ((i : Int) + 1).toNat = i + 1 := by omega
  have hk2 : Option.map vV (cfgC s v).kids[i + 1]? = some (.ag [.sc (.int .i64 v[i]!), .sl 0 2 []]) := by rw [<- List.getElem?_map]; exact hk
  have hkl2 : (i : Int) + 1 < ((cfgC s v).kids.length : Int) := by omega
  simp only [go_sem, h, hg, hw2, ht, hk2, hkl2]
  refine ⟨by omega, ?_⟩
  by_cases hq : v[i]! < r.need[i]!
  ·have e : enF r s v = false := by
    unfold enF
    rw [Bool.and_eq_false_iff]
    right
    rw [List.all_eq_false]
    exact ⟨i, List.mem_range.2 h, by rw [decide_eq_false (by omega)]; simp⟩
   simp only [go_sem, hq, e]
  ·simp only [go_sem, hq, hw]
   refine roundK.intro (i + 1) ⟨by omega, fun j hj => ?_⟩ (by omega) ?_
   ·by_cases hji : j = i
    ·subst hji; omega
    ·exact hb j (by omega)
   ·simp only [go_sem]
 ·have e : enF r s v = true := by
   unfold enF
   rw [beq_iff_eq.2 hs, Bool.true_and, List.all_eq_true]
   intro j hj
   have := List.mem_range.1 hj
   exact decide_eq_true (hb j (by omega))
  simp only [go_sem, h, e]
end Go.AM
namespace Go.AM
open Go.RowKit
def noPb (N : Nat) : AV -> Bool
 | .pb i _ => decide (i ≠ N)
 | .cl _ caps => caps.all fun c => match c with
  | .pb i _ => decide (i ≠ N)
  | _ => true
 | _ => true
def noPbT (N : Nat) : List (Nat × AV) -> Bool
 | [] => true
 | (_, v) :: r => v.allLeaf (noPb N) && noPbT N r
def noPbB (N : Nat) : List (List AV) -> Bool
 | [] => true
 | cs :: r => allLeafs (noPb N) cs && noPbB N r
theorem noPbT_look {N : Nat} : ∀ {l : List (Nat × AV)}, noPbT N l = true -> ∀ s, (lookT l s).allLeaf (noPb N) = true
 | [], _, s => by simp [lookT, AV.allLeaf, noPb]
 | (k, v) :: r, h, s => by
  simp only [noPbT, Bool.and_eq_true] at h
  simp only [lookT]
  split
  ·exact h.1
  ·exact noPbT_look h.2 s
theorem noPbB_mem {N : Nat} : ∀ {l : List (List AV)}, noPbB N l = true -> ∀ (i : Nat) cs, l[i]? = some cs -> ∀ x ∈ cs, x.allLeaf (noPb N) = true
 | [], _, i, cs, h, _, _ => by simp at h
 | y :: r, h, i, cs, hi, x, hx => by
  simp only [noPbB, Bool.and_eq_true] at h
  cases i with
  | zero => simp at hi; subst hi; exact allLeafs_mem h.1 x hx
  | succ i => exact noPbB_mem h.2 i cs (by simpa using hi) x hx
theorem noPbT_put {N : Nat} {x : AV} (hx : x.allLeaf (noPb N) = true) : ∀ {l : List (Nat × AV)} {s : Nat}, noPbT N l = true -> noPbT N (putT l s x) = true
 | [], s, _ => by simp [putT, noPbT, hx]
 | (s', v) :: r, s, h => by
  simp only [noPbT, Bool.and_eq_true] at h
  unfold putT
  split
  ·simp [noPbT, hx, h.2]
  ·simp [noPbT, h.1, noPbT_put hx h.2]
theorem noPbB_set {N : Nat} : ∀ (bx : List (List AV)) (k : Nat) (c' : List AV), noPbB N bx = true -> allLeafs (noPb N) c' = true -> noPbB N (bx.set k c') = true
 | [], _, _, _, _ => rfl
 | b :: bx, 0, c', h1, h2 => by simp only [List.set_cons_zero, noPbB, Bool.and_eq_true] at h1 ⊢; exact ⟨h2, h1.2⟩
 | b :: bx, k + 1, c', h1, h2 => by simp only [List.set_cons_succ, noPbB, Bool.and_eq_true] at h1 ⊢; exact ⟨h1.1, noPbB_set bx k c' h1.2 h2⟩
def unboxG (N : Nat) (G : Nat -> Status) (b : Nat) : Status := if G b = .box N then .junk else G b
theorem unboxG_stable {N : Nat} {G : Nat -> Status} {b : Nat} : Stable (unboxG N G) b ↔ Stable G b := by
 unfold Stable unboxG
 split
 ·rename_i h; rw [h]; simp
 ·exact Iff.rfl
theorem unboxG_tag {N t : Nat} {G : Nat -> Status} {b : Nat} : unboxG N G b = .tag t ↔ G b = .tag t := by
 unfold unboxG
 split
 ·rename_i h; rw [h]; simp
 ·exact Iff.rfl
theorem unboxG_box {N i : Nat} {G : Nat -> Status} {b : Nat} : unboxG N G b = .box i ↔ G b = .box i /\ i ≠ N := by
 unfold unboxG
 split
 ·rename_i h; rw [h]; simp; exact fun e => e.symm
 ·rename_i h
  exact ⟨fun h' => ⟨h', fun e => h (by rw [h', e])⟩, fun h' => h'.1⟩
theorem VRel.unbox {N : Nat} {G : Nat -> Status} {w : World} {x : AV} {v : Value} (h : VRel G w x v) (hq : x.allLeaf (noPb N) = true) : VRel (unboxG N G) w x v := by
 have hF : ∀ {x v}, FRel (Stable G) w x v -> FRel (Stable (unboxG N G)) w x v := fun hr => hr.mono (fun b => unboxG_stable.2) (fun _ _ => rfl)
 have hsl : ∀ {t es xs v}, VRel G w (.sl t es xs) v -> VRel (unboxG N G) w (.sl t es xs) v := by
  intro t es xs v h
  cases h with
  | froz h => exact .froz (hF h)
  | own _ _ _ _ e vals h1 h2 h3 h4 h0 h5 => exact .own t es xs v e vals h1 h2 (fun b hb => unboxG_tag.2 (h3 b hb)) h4 h0 (h5.mono fun x y _ hr => hF hr)
 have hso : ∀ {t xs v}, VRel G w (.so t xs) v -> VRel (unboxG N G) w (.so t xs) v := by
  intro t xs v h
  have := h.so_map (f := id) (G' := unboxG N G) (w' := w) h.so_two (fun x u hx hr => ⟨hx, by
   cases hr with
   | froz hr => exact .froz (hF hr)
   | own t' es ys _ e vals h1 hrt h2 h3 h4 h0 h5 => exact .own t' es ys _ e vals h1 hrt h2 (fun b hb => unboxG_tag.2 (h3 b hb)) h4 h0 (h5.mono fun x y _ hr => hF hr)⟩)
   (fun b hb => ⟨unboxG_tag.2 hb, rfl⟩)
  simpa using this
 refine h.keepQ (fun x v hx hq h => ?_) hq
 cases x with
 | so t xs => exact hso h
 | po t xs i =>
  obtain ⟨b, off, c, h1, h2, rfl⟩ := h.po_inv
  exact (hso h1).po_of rfl h2
 | sl t es xs => exact hsl h
 | pe t es xs i o =>
  obtain ⟨b, off, c, h1, h2, rfl⟩ := h.pe_inv
  exact .pe _ _ _ _ _ _ _ _ (hsl h1) h2
 | pb i o =>
  obtain ⟨b, hb, rfl⟩ := h.pb_inv
  simp only [noPb, decide_eq_true_eq] at hq
  exact .pb _ _ _ (unboxG_box.2 ⟨hb, hq⟩)
 | ag cs => simp [AV.leafy] at hx
 | tup cs => simp [AV.leafy] at hx
 | any => exact .froz (.any _)
 | nil => rw [h.nil_inv]; exact .froz .nil
 | ub => obtain ⟨b, rfl⟩ := h.ub_inv; exact .froz (.ub b)
 | sc u => rw [h.sc_inv]; exact .froz (.sc _)
 | fn g caps => cases h with | froz h => exact .froz (hF h)
 | mp t P k e D => exact h.mpMono (fun b hb => unboxG_tag.2 hb) (fun _ _ _ _ _ => rfl)
 | cl g caps =>
  obtain ⟨vs, rfl, hp⟩ := h.cl_inv
  simp only [noPb, List.all_eq_true] at hq
  refine .cl _ _ _ (hp.mono fun x u hx hr => ?_)
  rcases hr with ⟨i, o, b, rfl, hb, rfl⟩ | hr
  ·have := hq _ hx
   simp only [decide_eq_true_eq] at this
   exact .inl ⟨i, o, b, rfl, unboxG_box.2 ⟨hb, this⟩, rfl⟩
  ·exact .inr (hF hr)
 | tl t es xs i =>
  obtain ⟨b, off, off', c, h1, h2, h3, _, rfl⟩ := h.tl_inv
  exact .tl _ _ _ _ _ _ _ _ (hsl h1) h2 h3
 | fp cs o => cases h with | froz h => exact .froz (hF h)
theorem SRel.unbox {G0 w0 σ G a w} (h : SRel G0 w0 σ G a w) {N k : Nat} (hg : G0.gh N = none) (h0 : ∀ b, b < w0.heap.size -> G0 b ≠ .box N) (ht : noPbT N σ.tmps = true) (hb : noPbB N σ.boxes = true) (hc : σ.boxes[N]? = some (List.replicate k .any)) :
  SRel G0 w0 σ (unboxG N G) a w /\ ∀ b, unboxG N G b ≠ .box N := by
 have hn : ∀ b, unboxG N G b ≠ .box N := fun b hb => (unboxG_box.1 hb).2 rfl
 refine ⟨{ h with good := ?_, slots := fun s => (h.slots s).unbox (noPbT_look ht s), boxes := ⟨h.boxes.low, fun i cs hi => ?_⟩, blt := fun b i hb => h.blt b i (unboxG_box.1 hb).1, stat := fun b hbl hnt => ?_ }, hn⟩
 ·refine ⟨fun b hb => h.good.lt b fun h' => hb (by unfold unboxG; rw [h']; simp), fun b b' t h1 h2 => h.good.tags b b' t (unboxG_tag.1 h1) (unboxG_tag.1 h2), fun b b' i h1 h2 => h.good.boxes b b' i (unboxG_box.1 h1).1 (unboxG_box.1 h2).1⟩
 ·by_cases hiN : i = N
  ·subst hiN
   rw [hc] at hi; cases hi
   exact .inr (.inr ⟨hg, hn, fun x hx v => by rw [(List.mem_replicate.1 hx).2]; exact .froz (.any _)⟩)
  ·refine (h.boxes.cell i cs hi).turn rfl (fun j x y v h1 h2 hr => ?_) (fun b hb => ⟨unboxG_box.2 ⟨hb, hiN⟩, rfl⟩) fun h0 b hb => h0 b (unboxG_box.1 hb).1
   rw [h1] at h2; cases h2
   exact hr.unbox (noPbB_mem hb i cs hi x (List.mem_of_getElem? h1))
 ·have h1 := h.stat b hbl hnt
  unfold unboxG
  rw [if_neg (fun h' => h0 b hbl (by rw [<- h1, h'])), h1]
theorem SRel.realize {G0 w0 σ G a w} (h : SRel G0 w0 σ G a w) {N d : Nat} {z : Value} {T : TypeId} (hg : G0.gh N = none) (hn : ∀ b, G b ≠ .box N) (hc : σ.boxes[N]? = some (List.replicate z.cells.size .any)) (hz : One z.cells.toList) (hd : d < σ.n) :
  SRel G0 w0 (σ.put (some d) (.pb N 0)) (updG G w.heap.size (.box N)) (a.put (some d) (.pointer (some ⟨w.heap.size, 0, none⟩))) (w.alloc (.cells z.cells T)) := by
 have hE : Ext G w (updG G w.heap.size (.box N)) (w.alloc (.cells z.cells T)) := .alloc _ _
 have hG : Good (updG G w.heap.size (.box N)) (w.alloc (.cells z.cells T)) := h.good.upd _ _ (Nat.le_refl _) (by simp) (by simp) (fun t ht => by cases ht) (fun i hi b hb => by cases hi; exact hn b hb)
 have hbx : ∀ b i, updG G w.heap.size (.box N) b = .box i -> (b = w.heap.size /\ i = N) \/ G b = .box i := fun b i hb => by
  unfold updG at hb
  split at hb
  ·rename_i e; cases hb; exact .inl ⟨e, rfl⟩
  ·exact .inr hb
 have hNl : N < σ.boxes.length := (List.getElem?_eq_some_iff.1 hc).1
 refine { good := hG, slots := slots_put (fun s => (h.slots s).ext h.good hE) h.size (by simpa [dstOk] using hd) (.pb _ _ _ (by simp [updG])), boxes := ⟨fun i vs hv => by rw [put_boxes]; exact h.boxes.low i vs hv, fun i cs hi => ?_⟩, blt := fun b i hb => ?_, size := by rw [put_size, put_n]; exact h.size, defs := by rw [put_defers]; exact h.defs, os := hE.os.trans h.os, tape := hE.tape.trans h.tape, output := hE.output.trans h.output, hsize := Nat.le_trans h.hsize hE.size, stat := fun b hb ht => (hE.stat b (Nat.lt_of_lt_of_le hb h.hsize)).trans (h.stat b hb ht), keep := fun b hb hn' ht => (hE.keep b (Nat.lt_of_lt_of_le hb h.hsize)).trans (h.keep b hb hn' ht) }
 ·rw [put_boxes] at hi
  by_cases hiN : i = N
  ·subst hiN
   rw [hc] at hi; cases hi
   refine .inl ⟨hg, w.heap.size, z.cells, T, by simp [updG], heap_alloc_new w _, hz, by simp, fun j x u hx _ => ?_⟩
   rw [List.getElem?_replicate] at hx
   split at hx
   ·cases hx; exact .froz (.any _)
   ·cases hx
  ·refine (h.boxes.cell i cs hi).same (fun x v hr => hr.ext h.good hE) (fun b hb => ?_) fun h0 b hb => ?_
   ·have hbs := h.good.lt b (by rw [hb]; simp)
    exact ⟨by rw [hE.stat b hbs]; exact hb, hE.keep b hbs⟩
   ·rcases hbx b i hb with ⟨_, e⟩ | h1
    ·exact hiN e
    ·exact h0 b h1
 ·rw [put_boxes]
  rcases hbx b i hb with ⟨_, rfl⟩ | h1
  ·exact hNl
  ·exact h.blt b i h1
def lookA : List (Nat × Nat) -> Nat -> Option Nat
 | [], _ => none
 | (i, N) :: r, k => if i = k then some N else lookA r k
def AllocP (P : Program) (bx : List (List AV)) (o : Oper) (N : Nat) (y : AV) : Prop :=
 o.guard = none /\ y = .pb N 0 /\ ∃ T q z, o.op = .alloc T /\ tinfo P T = some q /\ q.2.2 = some z /\ zeroOk q.1 z = true /\ bx[N]? = some (List.replicate q.1 .any)
section
variable {P : Program} {ops : Array Oper} {m : Nat} {vs : List (Nat × AV)} {E : List Nat} {A : List (Nat × Nat)} {C : Nat -> List AV} {i0 : Nat} {σ : St} {K : St -> Prop} {G0 : Orig} {w0 : World} {Q : Exit -> Act -> World -> Prop}
theorem head_runP {LF : List Nat} {tr : Tr} {sg : Option (Nat × Tr)} (hp : PlanL ops m E LF tr sg) (hE : PlanE ops m E) (h0 : True) (hN : ∀ e a w, e ≠ .normal -> ¬ Q e a w) (hQ : ∀ σ' G' a' w', K σ' -> SRel G0 w0 σ' G' a' w' -> Q .normal a' w') (hvl : vs.length = m) (hap : Apart vs) (hC : ∀ j, (C j).length = (C 0).length)
    (hK : treeA P ops tr (puts { σ with boxes := σ.boxes.set i0 (C E.length) } vs) K) (hK2 : sgA P ops sg (puts { σ with boxes := σ.boxes.set i0 (C E.length) } vs) K)
    (hst : ∀ i o, i < m -> ops[i]? = some o -> ∃ d y, vs[i]? = some (d, y) /\ o.dst = some d /\ d < σ.n /\
      if i ∈ E then EffC P σ i0 o d (puts σ (vs.take i)).ev (C (E.filter fun e => decide (e < i)).length) y (C ((E.filter fun e => decide (e < i)).length + 1)) else if i ∈ LF then FrontC P o (puts σ (vs.take i)).ev y else match lookA A i with | some N => AllocP P σ.boxes o N y | none => StepG P ops o d (puts σ (vs.take i)) (σ.boxes.set i0 (blankC E (C 0))) y)
    (hA : ∀ i N, i < m -> lookA A i = some N -> N ≠ i0 /\ G0.gh N = none /\ (∀ b, b < w0.heap.size -> G0 b ≠ .box N) /\ (∀ j d y, j ≠ i -> vs[j]? = some (d, y) -> y.allLeaf (noPb N) = true) /\ ∀ j, allLeafs (noPb N) (C j) = true)
    (hfr : ∀ i o d, ops[i]? = some o -> i < m -> o.dst = some d -> creates o.op = true -> (∀ j d' y, j ≠ i -> vs[j]? = some (d', y) -> y.allLeaf (freeLeaf d) = true \/ reach ops j j i = true) /\ ∀ j, allLeafs (freeLeaf d) (C j) = true) :
    ∀ (fuel : Nat) (listed : Array Bool) (U : List Nat) (τ : St) (G : Nat -> Status) (a : Act) (w : World), Left ops listed U -> U.length = fuel -> (∀ i, m <= i -> listed.getD i false = false) ->
      Closed ops (fun k => listed.getD k false) -> AtE vs E C i0 (fun i => listed.getD i false) σ τ -> SRel G0 w0 τ G a w ->
      (∀ i o d, ops[i]? = some o -> i < m -> o.dst = some d -> creates o.op = true -> listed.getD i false = false -> τ.free d = true) ->
      (∀ i N, i < m -> lookA A i = some N -> i ∉ E -> i ∉ LF -> listed.getD i false = false -> noPbT N τ.tmps = true /\ noPbB N τ.boxes = true) -> wpAny P .any ops Q fuel listed a w := by
  have posAll : ∀ {L : Nat -> Bool}, (∀ i, i < m -> L i = true) -> posE E L = E.length := fun {L} h => by
    unfold posE
    rw [List.filter_eq_self.2 fun e he => h e (hE.lt e he)]
  have done : ∀ {τ G a w} {L : Nat -> Bool}, AtE vs E C i0 L σ τ -> (∀ i, i < m -> L i = true) -> SRel G0 w0 τ G a w -> SRel G0 w0 (puts { σ with boxes := σ.boxes.set i0 (C E.length) } vs) G a w := by
    intro τ G a w L hat hall h
    have hpa := puts_at m vs { σ with boxes := σ.boxes.set i0 (C E.length) } hap
    rw [List.take_of_length_le (by omega)] at hpa
    refine h.slotsEq (by rw [hpa.n, hat.n]) (by rw [hpa.boxes, hat.boxes, posAll hall]) fun s => ?_
    by_cases hs : ∀ (i d : Nat) (y : AV), vs[i]? = some (d, y) -> d ≠ s
    · rw [hpa.rest s hs, hat.rest s hs]; rfl
    · have : ∃ (i : Nat) (y : AV), vs[i]? = some (s, y) := by
        apply Classical.byContradiction
        intro hcon
        exact hs fun i d y hi hds => hcon ⟨i, y, by rw [<- hds]; exact hi⟩
      obtain ⟨i, y, hi⟩ := this
      have hil : i < m := by rw [<- hvl]; exact (List.getElem?_eq_some_iff.1 hi).1
      rw [hpa.dst i s y hi, hat.dst i s y hi]
      simp [hil, hall i hil]
  have done2 : ∀ {τ G a w} {L : Nat -> Bool} {x dx : Nat} {yx : AV}, AtE vs E C i0 L σ τ -> x ∉ E -> vs[x]? = some (dx, yx) -> (∀ i, i < m -> i ≠ x -> L i = true) -> SRel G0 w0 τ G a w -> SRel G0 w0 ((puts { σ with boxes := σ.boxes.set i0 (C E.length) } vs).put (some dx) .any) G a w := by
    intro τ G a w L x dx yx hat hxE hx hall h
    have hpa := puts_at m vs { σ with boxes := σ.boxes.set i0 (C E.length) } hap
    rw [List.take_of_length_le (by omega)] at hpa
    have hpos : posE E L = E.length := by
      unfold posE
      rw [List.filter_eq_self.2 fun e he => hall e (hE.lt e he) fun h' => hxE (h' ▸ he)]
    have h2 := h.reput (d := dx) (x := .any) (.froz (.any _))
    refine h2.slotsEq (by rw [put_n, put_n, hpa.n, hat.n]) (by rw [put_boxes, put_boxes, hpa.boxes, hat.boxes, hpos]) fun s => ?_
    rw [get_put, get_put]
    by_cases hds : dx = s
    · rw [if_pos hds, if_pos hds]
    rw [if_neg hds, if_neg hds]
    by_cases hs : ∀ (i d : Nat) (y : AV), vs[i]? = some (d, y) -> d ≠ s
    · rw [hpa.rest s hs, hat.rest s hs]; rfl
    · have : ∃ (i : Nat) (y : AV), vs[i]? = some (s, y) := by
        apply Classical.byContradiction
        intro hcon
        exact hs fun i d y hi hds => hcon ⟨i, y, by rw [<- hds]; exact hi⟩
      obtain ⟨i, y, hi⟩ := this
      have hil : i < m := by rw [<- hvl]; exact (List.getElem?_eq_some_iff.1 hi).1
      have hix : i ≠ x := fun h' => by subst h'; rw [hx] at hi; cases hi; exact hds rfl
      rw [hpa.dst i s y hi, hat.dst i s y hi]
      simp [hil, hall i hil hix]
  intro fuel
  induction fuel with
  | zero =>
    intro listed U τ G a w hl hU hm hc hat h _ _
    have hUn : U = [] := List.eq_nil_of_length_eq_zero hU
    subst hUn
    have hall : ∀ i, i < ops.size -> listed.getD i false = true := fun i hi => by
      cases hb : listed.getD i false
      · have := (hl.mem i).2 ⟨hi, hb⟩; simp at this
      · rfl
    have hms : m = ops.size := by
      apply Classical.byContradiction
      intro hne
      have := hp.le
      have h1 := hall m (by omega)
      rw [hm m (Nat.le_refl m)] at h1; cases h1
    exact (tree_run (P := P) h0 hp.lt hN hQ tr true (List.range m) listed [] _ G a w hp.tr hl hc (fun i hi => by rw [hall i hi]; simp; omega) hK (done hat (fun i hi => hall i (by have := hp.le; omega)) h)).1 rfl
  | succ fuel ih =>
    intro listed U τ G a w hl hU hm hc hat h hfree hph
    have hUn : U ≠ [] := by intro h; rw [h] at hU; simp at hU
    by_cases hdone : ∀ i, i < m -> listed.getD i false = true
    · have := (tree_run (P := P) h0 hp.lt hN hQ tr true (List.range m) listed U _ G a w hp.tr hl hc (fun i hi => by
        simp only [List.contains_iff_mem, List.mem_range]
        refine ⟨fun hb => ?_, fun hlt => hdone i hlt⟩
        apply Classical.byContradiction
        intro hge
        rw [hm i (by omega)] at hb; cases hb) hK (done hat hdone h)).1 rfl
      rw [hU] at this; exact this
    by_cases hsg : ∃ x t, sg = some (x, t) /\ ∀ i, i < m -> i ≠ x -> listed.getD i false = true
    · obtain ⟨x, t, rfl, hall⟩ := hsg
      obtain ⟨hxm, hxE, hxL, _, ht⟩ := hp.sg x t rfl
      obtain ⟨o, ho⟩ : ∃ p, ops[x]? = some p := ⟨ops[x]'(by have := hp.le; omega), by have := hp.le; simp [show x < ops.size by omega]⟩
      obtain ⟨dx, yx, hv, hd, _, _⟩ := hst x o hxm ho
      have hxf : listed.getD x false = false := by
        cases hb : listed.getD x false
        · rfl
        · exact absurd (fun i hi => by by_cases hix : i = x; · rw [hix]; exact hb
                                       · exact hall i hi hix) hdone
      simp only [sgA, ho] at hK2
      obtain ⟨d', hd', hK2⟩ := hK2
      rw [hd] at hd'; cases hd'
      have := (tree_run (P := P) h0 hp.lt hN hQ t true _ listed U _ G a w ht hl hc (fun i hi => by
        simp only [List.contains_iff_mem, List.mem_filter, List.mem_range, Bool.not_eq_true', beq_eq_false_iff_ne, ne_eq]
        refine ⟨fun hb => ⟨?_, fun hix => by rw [hix, hxf] at hb; cases hb⟩, fun ⟨h1, h2⟩ => hall i h1 h2⟩
        apply Classical.byContradiction
        intro hge
        rw [hm i (by omega)] at hb; cases hb) hK2 (done2 hat hxE hv hall h)).1 rfl
      rw [hU] at this; exact this
    · suffices key : ∀ i, i ∈ Region.ready .any ops listed -> i < m -> (i ∈ LF -> wpAny P .any ops Q (fuel + 1) listed a w) /\ (i ∉ LF -> Go.wpOp P ops Q i (wpAny P .any ops Q fuel (listed.setIfInBounds i true)) a w) by
        by_cases hLF : ∃ j, j ∈ LF /\ j ∈ Region.ready .any ops listed
        · obtain ⟨j, h1, h2⟩ := hLF
          exact (key j h2 (hp.fr j h1).1).1 h1
        · refine ⟨fun hr => absurd hr (some_ready hl hp.lt hUn), fun i hi => (key i hi ?_).2 fun hiL => hLF ⟨i, hiL, hi⟩⟩
          obtain ⟨o, ho, h1, h2⟩ := (ready_iff hl.size).1 hi
          apply Classical.byContradiction
          intro hge
          have hall : ∀ j, j < m -> sgIs sg j = false -> listed.getD j false = true := fun j => by
            refine Nat.strongRecOn (motive := fun j => j < m -> sgIs sg j = false -> listed.getD j false = true) j ?_
            intro j ihj hjm hjs
            by_cases hjL : j ∈ LF
            · obtain ⟨p, hpj⟩ : ∃ p, ops[j]? = some p := ⟨ops[j]'(by have := hp.le; omega), by have := hp.le; simp [show j < ops.size by omega]⟩
              cases hb : listed.getD j false
              · exact absurd ⟨j, hjL, (ready_iff hl.size).2 ⟨p, hpj, hb, fun k hk => by
                  have := hp.lt j p hpj k hk
                  refine ihj k this (by omega) ?_
                  cases hsg' : sg with
                  | none => rfl
                  | some q =>
                    obtain ⟨x, t⟩ := q
                    have := (hp.sg x t hsg').2.2.2.1 j hjL p hpj
                    simp only [sgIs, beq_eq_false_iff_ne, ne_eq]
                    exact fun hkx => this (hkx ▸ hk)⟩⟩ hLF
              · rfl
            · exact reach_listed hc ops.size i j o ho h2 (hp.tail i o ho (by omega) j hjm hjL hjs)
          cases hsg' : sg with
          | none => exact hdone fun j hj => hall j hj (by rw [hsg']; rfl)
          | some q =>
            obtain ⟨x, t⟩ := q
            exact hsg ⟨x, t, hsg', fun j hj hjx => hall j hj (by rw [hsg']; simpa [sgIs] using hjx)⟩
      intro i hi him
      obtain ⟨o, ho, h1, h2⟩ := (ready_iff hl.size).1 hi
      have hlt := (Array.getElem?_eq_some_iff.1 ho).1
      obtain ⟨d, y, hv, hd, hdn, hstep⟩ := hst i o him ho
      obtain ⟨d', hd', hself, hpair⟩ := hp.head i o ho him
      rw [hd] at hd'; cases hd'
      have hmem : i ∈ U := (hl.mem i).2 ⟨hlt, h1⟩
      obtain ⟨l1, l2⟩ := hl.step hmem
      have hsz : i < listed.size := by rw [hl.size]; exact hlt
      have hsame : ∀ s ∈ slotsG ops o, (puts σ (vs.take i)).get s = τ.get s := by
        intro s hsm
        have hpa := puts_at i vs σ hap
        by_cases hs : ∀ (i d : Nat) (y : AV), vs[i]? = some (d, y) -> d ≠ s
        · rw [hpa.rest s hs, hat.rest s hs]
        · have : ∃ (j : Nat) (y : AV), vs[j]? = some (s, y) := by
            apply Classical.byContradiction
            intro hcon
            exact hs fun i d y hi hds => hcon ⟨i, y, by rw [<- hds]; exact hi⟩
          obtain ⟨j, y', hj⟩ := this
          have hjl : j < m := by rw [<- hvl]; exact (List.getElem?_eq_some_iff.1 hj).1
          obtain ⟨p, hpj⟩ : ∃ p, ops[j]? = some p := ⟨ops[j]'(by have := hp.le; omega), by have := hp.le; simp [show j < ops.size by omega]⟩
          obtain ⟨d'', y'', hv'', hds'', _⟩ := hst j p hjl hpj
          rw [hj] at hv''; cases hv''
          have hji : j ≠ i := fun hji => by subst hji; rw [hv] at hj; cases hj; exact hself hsm
          have hre := (hpair j p s hjl hji hpj hds'').2 hsm
          rw [hpa.dst j s y' hj, hat.dst j s y' hj]
          by_cases hjlt : j < i
          · rw [if_pos hjlt] at hre
            have := reach_listed hc ops.size i j o ho h2 hre
            simp [hjlt, this]
          · rw [if_neg hjlt] at hre
            have hjf : listed.getD j false = false := by
              cases hb : listed.getD j false
              · rfl
              · have := reach_listed hc ops.size j i p hpj (fun k hk => hc j p hpj hb k hk) hre
                rw [h1] at this; cases this
            simp [hjlt, hjf]
      have hevs : ∀ x ∈ o.op.operands, (puts σ (vs.take i)).ev x = τ.ev x := by
        intro x hx
        cases x with
        | tmp s =>
          simp only [St.ev]
          refine hsame s (List.mem_append.2 (.inr ?_))
          unfold slotsOf
          exact List.mem_filterMap.2 ⟨.tmp s, by simpa using hx, rfl⟩
        | const v => rfl
        | func f => rfl
        | global g => rfl
      -- the frame behind the step
      have hLi : (listed.setIfInBounds i true).getD i false = true := by rw [set_getD hsz]; simp
      have hLj : ∀ j, j ≠ i -> (listed.setIfInBounds i true).getD j false = listed.getD j false := fun j hj => by rw [set_getD hsz, if_neg (Ne.symm hj)]
      have hpos := posE_step (L := fun k => listed.getD k false) (L' := fun k => (listed.setIfInBounds i true).getD k false) hE.nodup hLj h1 hLi
      have hgo : ∀ {τ' G' a' w'}, τ'.n = τ.n -> τ'.tmps = putT τ.tmps d y -> τ'.boxes = σ.boxes.set i0 (C (posE E fun k => (listed.setIfInBounds i true).getD k false)) -> SRel G0 w0 τ' G' a' w' -> wpAny P .any ops Q fuel (listed.setIfInBounds i true) a' w' := by
        intro τ' G' a' w' e1 e2 e3 hs'
        have hget : ∀ s, τ'.get s = if d = s then y else τ.get s := fun s => by unfold St.get; rw [e2, lookT_put]
        refine ih _ _ τ' G' _ _ l1 (by omega) (fun j hj => ?_) (hc.step hsz ho h2) ⟨by rw [e1, hat.n], e3, fun j d' y' hj => ?_, fun s hs => ?_⟩ hs' (fun j oj dj hoj hjm hdj hcr hjf => ?_) (fun j N hjm hjA hjE hjL hjf => ?_)
        · rw [set_getD hsz, if_neg (by omega)]; exact hm j hj
        · rw [hget]
          by_cases hij : j = i
          · subst hij; rw [hv] at hj; cases hj; simp [hLi]
          · rw [if_neg (hap i j d y d' y' hv hj (Ne.symm hij)), hat.dst j d' y' hj, hLj j hij]
        · rw [hget, if_neg (hs i d y hv), hat.rest s hs]
        · by_cases hij : j = i
          · subst hij; rw [hLi] at hjf; cases hjf
          · rw [hLj j hij] at hjf
            have hf := hfree j oj dj hoj hjm hdj hcr hjf
            obtain ⟨f1, f2⟩ := hfr j oj dj hoj hjm hdj hcr
            have f1 : y.allLeaf (freeLeaf dj) = true := (f1 i d y (Ne.symm hij) hv).elim id fun f1 => by
              have := reach_listed hc i i j o ho h2 f1
              rw [hjf] at this; cases this
            simp only [St.free, Bool.and_eq_true, decide_eq_true_eq] at hf ⊢
            refine ⟨hf.1, by rw [e2]; exact freeT_put f1 hf.2.1, ?_⟩
            rw [e3]
            have hfb := hf.2.2
            rw [hat.boxes] at hfb
            have hset : ∀ (bx : List (List AV)) (k : Nat) (c c' : List AV), freeB dj (bx.set k c) = true -> allLeafs (freeLeaf dj) c' = true -> freeB dj (bx.set k c') = true := by
              intro bx
              induction bx with
              | nil => intro k c c' _ _; rfl
              | cons b bx ihb =>
                intro k c c' h1 h2
                cases k with
                | zero => simp only [List.set_cons_zero, freeB, Bool.and_eq_true] at h1 ⊢; exact ⟨h2, h1.2⟩
                | succ k => simp only [List.set_cons_succ, freeB, Bool.and_eq_true] at h1 ⊢; exact ⟨h1.1, ihb k c c' h1.2 h2⟩
            exact hset _ _ _ _ hfb (f2 _)
        · by_cases hij : j = i
          · subst hij; rw [hLi] at hjf; cases hjf
          · rw [hLj j hij] at hjf
            obtain ⟨q1, q2⟩ := hph j N hjm hjA hjE hjL hjf
            obtain ⟨_, _, _, f1, f2⟩ := hA j N hjm hjA
            refine ⟨by rw [e2]; exact noPbT_put (f1 i d y (Ne.symm hij) hv) q1, ?_⟩
            rw [e3]
            rw [hat.boxes] at q2
            have := noPbB_set _ i0 _ q2 (f2 (posE E fun k => (listed.setIfInBounds i true).getD k false))
            rw [List.set_set] at this
            exact this
      refine ⟨fun hiL => ?_, fun hnL => ?_⟩
      · obtain ⟨_, hiE, hfr'⟩ := hp.fr i hiL
        obtain ⟨d', hfront⟩ := hfr' o ho
        obtain rfl : d = d' := by have := hfront.dst; rw [hd] at this; simpa using this
        rw [if_neg hiE, if_pos hiL] at hstep
        rw [if_neg hiE, Nat.add_zero] at hpos
        obtain ⟨v, hv', hex⟩ := hstep G a w h.good (fun x hx => by rw [hevs x hx]; exact h.ev x)
        have hs' := h.add (.refl G w) h.good (fun _ _ h => h) (d := some d) (x := y) (v := v) (by simp [dstOk, hat.n, hdn]) hv'
        exact front_run hN hfront fuel listed a w v hl.size hc hi hex (hgo (τ' := τ.put (some d) y) rfl rfl (by rw [put_boxes, hat.boxes, hpos]) hs')
      by_cases hiE : i ∈ E
      case neg =>
        rw [if_neg hiE, if_neg hnL] at hstep
        rw [if_neg hiE, Nat.add_zero] at hpos
        cases hlA : lookA A i with
        | some N =>
          rw [hlA] at hstep
          obtain ⟨hgd, rfl, T, q, z, hop, hq, hz, hzo, hbN⟩ := hstep
          obtain ⟨a1, a2, a3, _, _⟩ := hA i N him hlA
          obtain ⟨p1, p2⟩ := hph i N him hlA hiE hnL h1
          have hbN' : τ.boxes[N]? = some (List.replicate q.1 .any) := by rw [hat.boxes, List.getElem?_set_ne (Ne.symm a1)]; exact hbN
          obtain ⟨hu, hun⟩ := h.unbox a2 a3 p1 p2 hbN'
          simp only [zeroOk, Bool.and_eq_true, decide_eq_true_eq] at hzo
          obtain ⟨_, hone⟩ := ofConst_cells (S := fun _ => False) (w := w) z hzo.2
          have hr := hu.realize (d := d) (z := z) (T := T) a2 hun (by rw [hzo.1]; exact hbN') hone (by rw [hat.n]; exact hdn)
          obtain ⟨sz, by_, zz⟩ := q
          simp only at hz
          subst hz
          obtain ⟨ti, hti, _, _, hzz⟩ := tinfo_some hq
          have hrun : (execOp a.eval o).run P w = .ok (.value (.pointer (some ⟨w.heap.size, 0, none⟩))) (w.alloc (.cells z.cells T)) := by
            simp [execOp, hop, Instr.alloc, newVar, newRow, zeroValue, typeInfo, hti, hzz]
          simp only [Go.wpOp, ho]
          rw [if_pos (by simp [Region.wanted, hgd])]
          refine .inl ?_
          simp only [Oper.wp, hrun, Oper.upon, hd]
          exact hgo (τ' := τ.put (some d) (.pb N 0)) rfl rfl (by rw [put_boxes, hat.boxes, hpos]) hr
        | none =>
        rw [hlA] at hstep
        have hops : ∀ x ∈ o.op.operands, ∀ {G}, SRel G0 w0 τ G a w -> VRel G w ((puts σ (vs.take i)).ev x) (a.eval x) := fun x hx G h => by rw [hevs x hx]; exact h.ev x
        have hgo2 : ∀ {G' a' w'}, SRel G0 w0 (τ.put (some d) y) G' a' w' -> wpAny P .any ops Q fuel (listed.setIfInBounds i true) a' w' := fun hs' =>
          hgo (τ' := τ.put (some d) y) rfl rfl (by rw [put_boxes, hat.boxes, hpos]) hs'
        have hrun : StepOk P o d (puts σ (vs.take i)).ev (σ.boxes.set i0 (blankC E (C 0))) y -> o.wp P a w (wpAny P .any ops Q fuel (listed.setIfInBounds i true)) Q := by
          intro hstep
          have key : ∀ {G}, SRel G0 w0 τ G a w -> (creates o.op = true -> Fresh d G) -> o.wp P a w (wpAny P .any ops Q fuel (listed.setIfInBounds i true)) Q := fun {G} h hfr' =>
            hstep _ G a w h.good ((show BRel _ G w (σ.boxes.set i0 (C (posE E fun k => listed.getD k false))) from by rw [<- hat.boxes]; exact h.boxes).blank (hC _) fun hE0 => by rw [hE0]; rfl) hfr' (fun x hx => hops x hx h) _ _ fun v w' G' g1 g2 g3 g4 =>
              hgo2 (by rw [hd]; exact h.add g2 g3 g4.boxes (by simp [dstOk, hat.n, hdn]) g1)
          by_cases hcr : creates o.op = true
          · obtain ⟨hs, hf⟩ := h.fresh (hfree i o d ho him hd hcr h1) h0
            exact key hs fun _ => hf
          · exact key h fun hc' => absurd hc' hcr
        simp only [Go.wpOp, ho]
        rcases hstep with ⟨hg, hstep⟩ | ⟨j, want, g, c, hg, hgs, hgv, hc2⟩ | ⟨j, want, g, vs', hg, hgs, hgv, rfl⟩
        · rw [if_pos (by simp [Region.wanted, hg])]
          exact .inl (hrun hstep)
        · have hgm : g ∈ slotsG ops o := by simp [slotsG, guardS, hg, hgs]
          have hv2 := h.slots g
          rw [<- hsame g hgm, hgv] at hv2
          have hy := yielded_bool hgs hv2.sc_inv
          rcases hc2 with ⟨rfl, hstep⟩ | ⟨hne, rfl⟩
          · rw [if_pos (by simp [Region.wanted, hg, hy])]
            exact .inl (hrun hstep)
          · rw [if_neg (by simp [Region.wanted, hg, hy, hne])]
            have hs' := h.add (.refl G w) h.good (fun _ _ h => h) (d := o.dst) (x := .sc undef) (v := undef) (by rw [hd]; simp [dstOk, hat.n, hdn]) (.froz (.sc _))
            exact hgo2 (G' := G) (by rw [hd] at hs' ⊢; exact hs')
        · have hgm : g ∈ slotsG ops o := by simp [slotsG, guardS, hg, hgs]
          have hv2 := h.slots g
          rw [<- hsame g hgm, hgv] at hv2
          have hy := yielded_none hgs hv2.sc_inv
          rw [if_neg (by simp [Region.wanted, hg, hy])]
          have hs' := h.add (.refl G w) h.good (fun _ _ h => h) (d := o.dst) (x := .sc undef) (v := undef) (by rw [hd]; simp [dstOk, hat.n, hdn]) (.froz (.sc _))
          exact hgo2 (G' := G) (by rw [hd] at hs' ⊢; exact hs')
      case pos =>
        rw [if_pos hiE] at hstep
        rw [if_pos hiE] at hpos
        obtain ⟨hg, fid, args, As, r, c1, hop, hpb, hnt, hnt0, hcon, hr1, hr2, hye, hce⟩ := hstep
        -- all effects ahead of it are listed, none behind it is
        have hposi : posE E (fun k => listed.getD k false) = (E.filter fun e => decide (e < i)).length := by
          unfold posE
          congr 1
          refine List.filter_congr fun e he => ?_
          rcases Nat.lt_trichotomy e i with hlt' | heq | hgt
          · have := reach_listed hc ops.size i e o ho h2 (hE.chain e he i hiE hlt')
            simp [hlt', this]
          · subst heq; simp [h1]
          · have hnl : listed.getD e false = false := by
              cases hb : listed.getD e false
              · rfl
              · have hel := hE.lt e he
                obtain ⟨p, hpe⟩ : ∃ p, ops[e]? = some p := ⟨ops[e]'(by have := hp.le; omega), by have := hp.le; simp [show e < ops.size by omega]⟩
                have := reach_listed hc ops.size e i p hpe (fun k hk => hc e p hpe hb k hk) (hE.chain i hiE e he hgt)
                rw [h1] at this; cases this
            simp [hnl]; omega
        have hargs : args.toList.map (puts σ (vs.take i)).ev = args.toList.map τ.ev := by
          refine List.map_congr_left fun x hx => hevs x ?_
          simp [hop, Op.operands, Call.operands]
          exact .inr (by simpa using hx)
        rw [hargs] at hpb hnt hcon
        have hcr : creates o.op = true := by simp [creates, hop]
        have hfd := hfree i o d ho him hd hcr h1
        -- the variable is there
        have hva : ∀ G, SRel G0 w0 τ G a w -> PW (VRel G w) (args.toList.map τ.ev) (args.map a.eval).toList := fun G hs => by
          rw [Array.toList_map]
          refine ⟨by simp, fun j x u hx hu => ?_⟩
          simp only [List.getElem?_map] at hx hu
          cases hj : args.toList[j]? with
          | none => simp [hj] at hx
          | some c => simp [hj] at hx hu; subst hx; subst hu; exact hs.ev c
        have hi0 : i0 < σ.boxes.length := by
          obtain ⟨b, hb⟩ := pbss_real (i := i0) _ _ (hva G h) (dedup_mem _ (by rw [hpb]; simp))
          have := h.blt b i0 hb
          rw [hat.boxes] at this; simpa using this
        have hbx : getAll τ.boxes [i0] = some [C (posE E fun k => listed.getD k false)] := by
          simp only [getAll, hat.boxes, List.getElem?_set, if_true, hi0]
        have hlen : τ.boxes.length = σ.boxes.length := by rw [hat.boxes]; simp
        rw [<- hposi] at hcon hnt0 hce
        have hcall : CallB P fid (args.toList.map τ.ev) [i0] d τ fun σ' => σ'.n = τ.n /\ σ'.tmps = putT τ.tmps d y /\ σ'.boxes = σ.boxes.set i0 (C (posE E (fun k => listed.getD k false) + 1)) := by
          refine ⟨hfd, by rw [hat.n]; exact hdn, hnt, rfl, _, hbx, hnt0, hcon.mono ?_⟩
          rintro r' bx ⟨rfl, rfl⟩
          refine ⟨hr1, hr2, rfl, by rw [hlen, <- hye]; rfl, ?_⟩
          rw [put_boxes]
          have hce' : mapB (outLeaf (64 * (d + 1)) [i0] σ.boxes.length) [c1] = [C (posE E (fun k => listed.getD k false) + 1)] := hce.symm
          simp only [List.length_singleton, List.take_succ_cons, List.take_zero, List.drop_succ_cons, List.drop_nil, hlen, hce', mapB, setAll, List.append_nil]
          rw [hat.boxes, List.set_set]
        obtain ⟨⟨fn, hfn, hname, hbody⟩, hcalls⟩ := CallB.sound hcall h h0 hva (fun G hs j hj => by
          simp at hj; subst hj
          exact pbss_real _ _ (hva G hs) (dedup_mem _ (by rw [hpb]; simp)))
        have hrun : (execOp a.eval o).run P w = .ok (.enter fid (args.map a.eval)) w := by
          have hname' : ¬ fn.name = "runtime.NumGoroutine" := by simpa using hname
          have hbody' : ¬ fn.body = none := by intro h; rw [h] at hbody; simp at hbody
          have hfe : a.eval (.func fid) = .func (.func fid) #[] #[] := rfl
          simp [execOp, hop, resolve, hfe, Deferred.ofValue, invoke, callFunc, hfn, hname', hbody']
        simp only [Go.wpOp, ho]
        rw [if_pos (by simp [Region.wanted, hg])]
        refine .inl ?_
        unfold Oper.wp
        rw [hrun, Oper.upon_enter]
        refine hcalls.mono ?_
        rintro e w' ⟨v, σ', G', rfl, ⟨e1, e2, e3⟩, hs'⟩
        exact hgo e1 e2 (by rw [e3, hpos]) (by rw [hd]; exact hs')
end
def noVar : AV -> Bool
 | .pb _ _ => false
 | .cl _ _ => false
 | _ => true
theorem noVar_noPb {N : Nat} : ∀ x : AV, noVar x = true -> noPb N x = true := fun x h => by cases x <;> simp_all [noVar, noPb]
def AllocK (P : Program) (o : Oper) (N : Nat) (σ : St) (K : St -> Prop) : Prop :=
 ∃ d, o.dst = some d /\ d < σ.n /\ AllocP P σ.boxes o N (.pb N 0) /\ K (σ.put (some d) (.pb N 0))
def headF (P : Program) (ops : Array Oper) (n0 i0 : Nat) (E LF : List Nat) (A : List (Nat × Nat)) : Nat -> List Oper -> St -> List AV -> (St -> List AV -> Prop) -> Prop
 | _, [], σ, c, K => K σ c
 | k, o :: r, σ, c, K => if E.contains k = true then EffK P n0 i0 o σ c fun σ' c' => allLeafs noVar c' = true /\ headF P ops n0 i0 E LF A (k + 1) r σ' c' K else if LF.contains k = true then frB P o σ fun σ' => headF P ops n0 i0 E LF A (k + 1) r σ' c K else match lookA A k with
  | some N => AllocK P o N σ fun σ' => headF P ops n0 i0 E LF A (k + 1) r σ' c K
  | none => headG P ops o σ fun σ' => headF P ops n0 i0 E LF A (k + 1) r σ' c K
section
variable {P : Program} {ops : Array Oper} {n0 i0 : Nat} {E LF : List Nat} {A : List (Nat × Nat)}
theorem headF_vals (hn : E.Nodup) : ∀ (l : List Oper) (k : Nat) (σ : St) (c : List AV) (K : St -> List AV -> Prop), headF P ops n0 i0 E LF A k l σ c K -> allLeafs noTag c = true -> allLeafs noVar c = true -> ∃ (vs : List (Nat × AV)) (C : Nat -> List AV), vs.length = l.length /\ (∀ j, j <= cntE E k -> C j = c) /\ (∀ j, (C j).length = c.length /\ allLeafs noTag (C j) = true /\ allLeafs noVar (C j) = true) /\ K (puts σ vs) (C (cntE E (k + l.length))) /\
  ∀ i o, l[i]? = some o -> ∃ d y, vs[i]? = some (d, y) /\ o.dst = some d /\ d < σ.n /\
   if k + i ∈ E then EffC P ⟨0, [], List.replicate n0 []⟩ i0 o d (puts σ (vs.take i)).ev (C (cntE E (k + i))) y (C (cntE E (k + i) + 1)) else if k + i ∈ LF then FrontC P o (puts σ (vs.take i)).ev y else match lookA A (k + i) with | some N => AllocP P σ.boxes o N y | none => StepG P ops o d (puts σ (vs.take i)) σ.boxes y
 | [], k, σ, c, K, h, hc, hn0 => ⟨[], fun _ => c, rfl, fun _ _ => rfl, fun _ => ⟨rfl, hc, hn0⟩, h, fun i o hi => by simp at hi⟩
 | o :: l, k, σ, c, K, h, hc, hn0 => by
  unfold headF at h
  have hcs := cntE_succ hn k
  by_cases hk : k ∈ E
  ·rw [if_pos (by simpa using hk)] at h
   rw [if_pos hk] at hcs
   obtain ⟨d, y, c', h1, h2, h3, h4, h5, h7, h6⟩ := h
   obtain ⟨vs, C, g1, g2, g3, g4, g5⟩ := headF_vals hn l (k + 1) _ c' K h6 h5 h7
   refine ⟨(d, y) :: vs, fun j => if j <= cntE E k then c else C j, by simp [g1], fun j hj => if_pos hj, fun j => ?_, ?_, fun i o' hi => ?_⟩
   ·simp only
    split
    ·exact ⟨rfl, hc, hn0⟩
    ·exact ⟨(g3 j).1.trans h4, (g3 j).2⟩
   ·simp only [puts, List.length_cons]
    rw [show k + (l.length + 1) = k + 1 + l.length by omega]
    have : ¬ cntE E (k + 1 + l.length) <= cntE E k := by
     have : ∀ t, cntE E (k + 1) <= cntE E (k + 1 + t) := fun t => by
      induction t with
      | zero => exact Nat.le_refl _
      | succ t ih => have := cntE_succ hn (k + 1 + t); rw [show k + 1 + (t + 1) = k + 1 + t + 1 by omega]; omega
     have := this l.length; omega
    rw [if_neg this]; exact g4
   ·cases i with
    | zero =>
     simp at hi; subst hi
     refine ⟨d, y, rfl, h1, h2, ?_⟩
     rw [Nat.add_zero, if_pos hk]
     dsimp only
     rw [if_pos (Nat.le_refl _), if_neg (by omega), <- hcs, g2 _ (Nat.le_refl _)]
     exact h3
    | succ i =>
     obtain ⟨d', y', k1, k2, k3, k4⟩ := g5 i o' (by simpa using hi)
     rw [put_n] at k3
     refine ⟨d', y', by simpa using k1, k2, k3, ?_⟩
     rw [show k + (i + 1) = k + 1 + i by omega]
     have hge : ∀ t, cntE E (k + 1) <= cntE E (k + 1 + t) := fun t => by
      induction t with
      | zero => exact Nat.le_refl _
      | succ t ih => have := cntE_succ hn (k + 1 + t); rw [show k + 1 + (t + 1) = k + 1 + t + 1 by omega]; omega
     have := hge i
     dsimp only
     rw [if_neg (show ¬ cntE E (k + 1 + i) <= cntE E k by omega), if_neg (show ¬ cntE E (k + 1 + i) + 1 <= cntE E k by omega)]
     rw [put_boxes] at k4
     exact k4
  ·rw [if_neg (by simpa using hk)] at h
   rw [if_neg hk, Nat.add_zero] at hcs
   obtain ⟨d, y, h1, h2, h3, h4⟩ : ∃ d y, o.dst = some d /\ d < σ.n /\ headF P ops n0 i0 E LF A (k + 1) l (σ.put (some d) y) c K /\ if k ∈ LF then FrontC P o σ.ev y else match lookA A k with | some N => AllocP P σ.boxes o N y | none => StepG P ops o d σ σ.boxes y := by
    by_cases hkL : k ∈ LF
    ·rw [if_pos (by simpa using hkL)] at h
     obtain ⟨d, y, h1, h2, h3, h4⟩ := frB_sound h
     exact ⟨d, y, h1, h2, h3, by rw [if_pos hkL]; exact h4⟩
    ·rw [if_neg (by simpa using hkL)] at h
     cases hlA : lookA A k with
     | some N =>
      rw [hlA] at h
      obtain ⟨d, h1, h2, h4, h3⟩ := h
      exact ⟨d, _, h1, h2, h3, by rw [if_neg hkL]; exact h4⟩
     | none =>
      rw [hlA] at h
      obtain ⟨d, y, h1, h2, h3, h4⟩ := headG_sound h
      exact ⟨d, y, h1, h2, h3, by rw [if_neg hkL]; exact h4⟩
   obtain ⟨vs, C, g1, g2, g3, g4, g5⟩ := headF_vals hn l (k + 1) _ c K h3 hc hn0
   refine ⟨(d, y) :: vs, C, by simp [g1], fun j hj => g2 j (by omega), g3, ?_, fun i o' hi => ?_⟩
   ·simp only [puts, List.length_cons]
    rw [show k + (l.length + 1) = k + 1 + l.length by omega]; exact g4
   ·cases i with
    | zero =>
     simp at hi; subst hi
     refine ⟨d, y, rfl, h1, h2, ?_⟩
     rw [Nat.add_zero, if_neg hk]; exact h4
    | succ i =>
     obtain ⟨d', y', k1, k2, k3, k4⟩ := g5 i o' (by simpa using hi)
     rw [put_n] at k3
     rw [put_boxes] at k4
     refine ⟨d', y', by simpa using k1, k2, k3, ?_⟩
     rw [show k + (i + 1) = k + 1 + i by omega]; exact k4
def pbBut (N d : Nat) : List (Nat × AV) -> Bool
 | [] => true
 | (s, v) :: r => (s == d || v.allLeaf (noPb N)) && pbBut N d r
theorem pbBut_look {N d : Nat} : ∀ {l : List (Nat × AV)}, pbBut N d l = true -> ∀ s, s ≠ d -> (lookT l s).allLeaf (noPb N) = true
 | [], _, _, _ => rfl
 | (s', v) :: r, h, s, hs => by
  simp only [pbBut, Bool.and_eq_true, Bool.or_eq_true, beq_iff_eq] at h
  unfold lookT
  split
  ·rename_i he
   rcases h.1 with h1 | h1
   ·exact absurd (he.symm.trans h1) (by intro e; exact hs e)
   ·exact h1
  ·exact pbBut_look h.2 s hs
def keptOk (ops : Array Oper) (l : List (Nat × AV)) : List (Nat × Nat) -> Bool
 | [] => true
 | (i, N) :: r => (match (ops[i]?).bind (·.dst) with
  | some d => pbBut N d l
  | none => false) && keptOk ops l r
def keptFree (σ : St) : List (Nat × Nat) -> Bool
 | [] => true
 | (_, N) :: r => (decide (σ.boxes.length <= N) && (noPbT N σ.tmps && noPbB N σ.boxes)) && keptFree σ r
theorem keptOk_mem {l : List (Nat × AV)} : ∀ {A : List (Nat × Nat)}, keptOk ops l A = true -> ∀ i N, lookA A i = some N -> ∃ d, (ops[i]?).bind (·.dst) = some d /\ pbBut N d l = true
 | [], _, i, N, h => by simp [lookA] at h
 | (k, M) :: r, h, i, N, hi => by
  simp only [keptOk, Bool.and_eq_true] at h
  simp only [lookA] at hi
  split at hi
  ·rename_i e; subst e; cases hi
   have h1 := h.1
   split at h1
   ·rename_i d hd; exact ⟨d, hd, h1⟩
   ·cases h1
  ·exact keptOk_mem h.2 i N hi
theorem keptFree_mem {σ : St} : ∀ {A : List (Nat × Nat)}, keptFree σ A = true -> ∀ i N, lookA A i = some N -> σ.boxes.length <= N /\ noPbT N σ.tmps = true /\ noPbB N σ.boxes = true
 | [], _, i, N, h => by simp [lookA] at h
 | (k, M) :: r, h, i, N, hi => by
  simp only [keptFree, Bool.and_eq_true, decide_eq_true_eq] at h
  simp only [lookA] at hi
  split at hi
  ·cases hi; exact h.1
  ·exact keptFree_mem h.2 i N hi
def anyB (ph : List Nat) : List (List AV) := ph.map fun k => List.replicate k .any
theorem noPbB_any {N : Nat} : ∀ ph : List Nat, noPbB N (anyB ph) = true
 | [] => rfl
 | k :: r => by
  show (allLeafs (noPb N) (List.replicate k .any) && noPbB N (anyB r)) = true
  rw [noPbB_any r, Bool.and_true]
  induction k with
  | zero => rfl
  | succ k ih => rw [List.replicate_succ]; simp only [allLeafs, ih, Bool.and_true]; rfl
theorem noPbB_app {N : Nat} : ∀ (x y : List (List AV)), noPbB N (x ++ y) = (noPbB N x && noPbB N y)
 | [], y => by simp [noPbB]
 | c :: x, y => by rw [List.cons_append, noPbB, noPbB, noPbB_app x y, Bool.and_assoc]
theorem SRel.kept {G0 w0 σ G a w} (h : SRel G0 w0 σ G a w) (ph : List Nat) : SRel G0 w0 { σ with boxes := σ.boxes ++ anyB ph } G a w :=
 { h with
  boxes := ⟨fun i vs hv => by have := h.boxes.low i vs hv; simp only [List.length_append]; omega, fun i cs hi => by
   simp only at hi
   by_cases hlt : i < σ.boxes.length
   ·rw [List.getElem?_append_left hlt] at hi; exact h.boxes.cell i cs hi
   ·rw [List.getElem?_append_right (by omega)] at hi
    refine .inr (.inr ⟨by cases hgh : G0.gh i with | none => rfl | some vs => have := h.boxes.low _ vs hgh; omega, fun b hb => by have := h.blt b i hb; omega, fun x hx v => ?_⟩)
    unfold anyB at hi
    rw [List.getElem?_map] at hi
    cases hp : ph[i - σ.boxes.length]? with
    | none => simp [hp] at hi
    | some k => simp [hp] at hi; subst hi; rw [(List.mem_replicate.1 hx).2]; exact .froz (.any _)⟩
  blt := fun b i hb => by have := h.blt b i hb; simp only [List.length_append]; omega }
theorem freeB_kept {d : Nat} : ∀ ph : List Nat, freeB d (anyB ph) = true
 | [] => rfl
 | k :: r => by
  show (allLeafs (freeLeaf d) (List.replicate k .any) && freeB d (anyB r)) = true
  rw [freeB_kept r, Bool.and_true]
  induction k with
  | zero => rfl
  | succ k ih => rw [List.replicate_succ]; simp only [allLeafs, ih, Bool.and_true]; rfl
theorem freeB_two {d : Nat} : ∀ (x y : List (List AV)), freeB d (x ++ y) = (freeB d x && freeB d y)
 | [], y => by simp [freeB]
 | c :: x, y => by rw [List.cons_append, freeB, freeB, freeB_two x y, Bool.and_assoc]
theorem freeAll_kept {σ : St} (ph : List Nat) : ∀ {ds : List Nat}, freeAll σ ds = true -> freeAll { σ with boxes := σ.boxes ++ anyB ph } ds = true
 | [], _ => rfl
 | d :: r, h => by
  simp only [freeAll, Bool.and_eq_true] at h ⊢
  refine ⟨?_, freeAll_kept ph h.2⟩
  have h1 := h.1
  simp only [St.free, Bool.and_eq_true] at h1 ⊢
  exact ⟨h1.1, h1.2.1, by rw [freeB_two, h1.2.2, freeB_kept]; rfl⟩
def hasD (d s : Nat) : List (Nat × Nat) -> Bool
 | [] => false
 | (a, b) :: r => (a == d && b == s) || hasD d s r
def freeButD (D : List (Nat × Nat)) (d : Nat) : List (Nat × AV) -> Bool
 | [] => true
 | (s, v) :: r => (s == d || (hasD d s D || v.allLeaf (freeLeaf d))) && freeButD D d r
def freeOthersD (D : List (Nat × Nat)) (l : List (Nat × AV)) : List Nat -> Bool
 | [] => true
 | d :: r => freeButD D d l && freeOthersD D l r
theorem freeButD_look {D : List (Nat × Nat)} {d : Nat} : ∀ {l : List (Nat × AV)}, freeButD D d l = true -> ∀ s, s ≠ d -> hasD d s D = true \/ (lookT l s).allLeaf (freeLeaf d) = true
 | [], _, _, _ => .inr rfl
 | (s', v) :: r, h, s, hs => by
  simp only [freeButD, Bool.and_eq_true, Bool.or_eq_true, beq_iff_eq] at h
  unfold lookT
  split
  ·rename_i he
   rcases h.1 with h1 | h1 | h1
   ·exact absurd (he.symm.trans h1) (by intro e; exact hs e)
   ·rw [<- he]; exact .inl h1
   ·exact .inr h1
  ·exact freeButD_look h.2 s hs
theorem freeOthersD_mem {D : List (Nat × Nat)} {l : List (Nat × AV)} : ∀ {ds : List Nat}, freeOthersD D l ds = true -> ∀ d ∈ ds, freeButD D d l = true
 | d' :: r, h, d, hd => by
  simp only [freeOthersD, Bool.and_eq_true] at h
  rcases List.mem_cons.1 hd with rfl | hd
  ·exact h.1
  ·exact freeOthersD_mem h.2 d hd
def lateP (ops : Array Oper) (m d s : Nat) : Bool := (List.range m).all fun i => match ops[i]? with
 | some o => (o.dst != some s) || (List.range m).all fun j => match ops[j]? with
  | some o' => (o'.dst != some d) || reach ops i i j
  | none => true
 | none => true
def lateD (ops : Array Oper) (m : Nat) : List (Nat × Nat) -> Bool
 | [] => true
 | (d, s) :: r => lateP ops m d s && lateD ops m r
theorem lateD_has {ops : Array Oper} {m d s : Nat} : ∀ {D : List (Nat × Nat)}, lateD ops m D = true -> hasD d s D = true -> lateP ops m d s = true
 | (a, b) :: r, h, hd => by
  simp only [lateD, Bool.and_eq_true] at h
  simp only [hasD, Bool.or_eq_true, Bool.and_eq_true, beq_iff_eq] at hd
  rcases hd with ⟨rfl, rfl⟩ | hd
  ·exact h.1
  ·exact lateD_has h.2 hd
theorem lateP_spec {ops : Array Oper} {m d s i j : Nat} {o o' : Oper} (h : lateP ops m d s = true) (hi : ops[i]? = some o) (him : i < m) (hd : o.dst = some s) (hj : ops[j]? = some o') (hjm : j < m) (hd' : o'.dst = some d) : reach ops i i j = true := by
 unfold lateP at h
 have h1 := List.all_eq_true.1 h i (List.mem_range.2 him)
 rw [hi] at h1
 simp only [hd, bne_self_eq_false, Bool.false_or] at h1
 have h2 := List.all_eq_true.1 h1 j (List.mem_range.2 hjm)
 rw [hj] at h2
 simpa only [hd', bne_self_eq_false, Bool.false_or] using h2
theorem DrawN.effP {σ0 : St} {K : St -> Prop} (A : List (Nat × Nat)) (ph : List Nat) (D : List (Nat × Nat)) (i0 : Nat) (E LF : List Nat) (m : Nat) (tr : Tr) (sg : Option (Nat × Tr)) (c : List AV) (hok : lateOk ops m E LF tr sg = true) (hE : effOk ops m E = true) (hD : lateD ops m D = true) (hc : (σ0.boxes ++ anyB ph)[i0]? = some c) (hi0 : i0 < σ0.boxes.length) (hnt : allLeafs noTag c = true) (hnv : allLeafs noVar c = true) (hfree : freeAll σ0 (creators ops m) = true) (hkf : keptFree σ0 A = true)
  (h : headF P ops (σ0.boxes ++ anyB ph).length i0 E LF A 0 (ops.toList.take m) { σ0 with boxes := (σ0.boxes ++ anyB ph).set i0 (blankC E c) } c fun σ' c' => (freeOthersD D σ'.tmps (creators ops m) = true /\ keptOk ops σ'.tmps A = true) /\ treeA P ops tr { σ' with boxes := σ'.boxes.set i0 c' } K /\ sgA P ops sg { σ' with boxes := σ'.boxes.set i0 c' } K) : DrawN P ops σ0 K := by
 intro G0 w0 G a w Q h0 hs0 hN hQ
 have hs := hs0.kept ph
 have hkf := fun i N => keptFree_mem hkf i N
 have hfree : freeAll { σ0 with boxes := σ0.boxes ++ anyB ph } (creators ops m) = true := freeAll_kept ph hfree
 have hall : ∀ N, noPbB N σ0.boxes = true -> noPbB N (σ0.boxes ++ anyB ph) = true := fun N hN => by rw [noPbB_app, hN, noPbB_any]; rfl
 obtain ⟨σ, hσ⟩ : ∃ σ : St, σ = { σ0 with boxes := σ0.boxes ++ anyB ph } := ⟨_, rfl⟩
 have hσb : σ.boxes = σ0.boxes ++ anyB ph := by rw [hσ]
 have hσt : σ.tmps = σ0.tmps := by rw [hσ]
 have hσn : σ.n = σ0.n := by rw [hσ]
 rw [<- hσ] at hs hfree
 have h : headF P ops σ.boxes.length i0 E LF A 0 (ops.toList.take m) { σ with boxes := σ.boxes.set i0 (blankC E c) } c fun σ' c' => (freeOthersD D σ'.tmps (creators ops m) = true /\ keptOk ops σ'.tmps A = true) /\ treeA P ops tr { σ' with boxes := σ'.boxes.set i0 c' } K /\ sgA P ops sg { σ' with boxes := σ'.boxes.set i0 c' } K := by
  rw [hσ]; exact h
 rw [<- hσb] at hc
 have hp := lateOk_plan hok
 simp only [effOk, Bool.and_eq_true, List.all_eq_true, decide_eq_true_eq, Bool.or_eq_true, Bool.not_eq_true', decide_eq_false_iff_not] at hE
 have hpE : PlanE ops m E := ⟨nodupE_spec hE.1.1, hE.1.2, fun e he e' he' hlt => (hE.2 e he e' he').resolve_left (fun hn => hn hlt)⟩
 obtain ⟨vs, C, hvl, hC0, hC, ⟨⟨hoth, hkp⟩, hK, hK2⟩, hst⟩ := headF_vals hpE.nodup _ _ _ _ _ h hnt hnv
 have hlen : (ops.toList.take m).length = m := by have := hp.le; simp; omega
 rw [hlen] at hvl
 have hcm : cntE E (0 + (ops.toList.take m).length) = E.length := by
  rw [hlen, Nat.zero_add]
  unfold cntE posE
  rw [List.filter_eq_self.2 fun e he => by simpa using hpE.lt e he]
 rw [hcm] at hK hK2
 have hst' : ∀ i o, i < m -> ops[i]? = some o -> ∃ d y, vs[i]? = some (d, y) /\ o.dst = some d /\ d < σ.n /\
   if i ∈ E then EffC P σ i0 o d (puts σ (vs.take i)).ev (C (E.filter fun e => decide (e < i)).length) y (C ((E.filter fun e => decide (e < i)).length + 1)) else if i ∈ LF then FrontC P o (puts σ (vs.take i)).ev y else match lookA A i with | some N => AllocP P σ.boxes o N y | none => StepG P ops o d (puts σ (vs.take i)) (σ.boxes.set i0 (blankC E (C 0))) y := fun i o hi ho => by
  obtain ⟨d, y, k1, k2, k3, k4⟩ := hst i o (by rw [List.getElem?_take, if_pos hi]; simpa using ho)
  refine ⟨d, y, k1, k2, k3, ?_⟩
  rw [Nat.zero_add] at k4
  split
  ·rename_i hiE
   rw [if_pos hiE, puts_ev] at k4
   unfold EffC at k4 ⊢
   simp only [List.length_replicate] at k4
   exact k4
  ·rename_i hiE
   rw [if_neg hiE] at k4
   rw [hC0 0 (Nat.zero_le _)]
   split
   ·rename_i hiL
    rw [if_pos hiL, puts_ev] at k4
    exact k4
   rename_i hiL
   rw [if_neg hiL] at k4
   cases hlA : lookA A i with
   | some N =>
    rw [hlA] at k4
    have hNi : i0 ≠ N := fun e => by have := (hkf i N hlA).1; omega
    obtain ⟨q1, q2, T, q, z, q3, q4, q5, q6, q7⟩ := k4
    simp only [List.getElem?_set_ne hNi] at q7
    exact ⟨q1, q2, T, q, z, q3, q4, q5, q6, q7⟩
   | none =>
   rw [hlA] at k4
   unfold StepG at k4 ⊢
   rw [puts_ev] at k4
   simp only [puts_get] at k4
   exact k4
 have hap : Apart vs := by
  intro i j d y d' y' h1 h2 hij
  have hil : i < m := by have := (List.getElem?_eq_some_iff.1 h1).1; omega
  have hjl : j < m := by have := (List.getElem?_eq_some_iff.1 h2).1; omega
  have hle := hp.le
  obtain ⟨oi, hoi⟩ : ∃ p, ops[i]? = some p := ⟨ops[i]'(by omega), by simp [show i < ops.size by omega]⟩
  obtain ⟨oj, hoj⟩ : ∃ p, ops[j]? = some p := ⟨ops[j]'(by omega), by simp [show j < ops.size by omega]⟩
  obtain ⟨_, _, k1, k2, _⟩ := hst' i oi hil hoi
  obtain ⟨_, _, k3, k4, _⟩ := hst' j oj hjl hoj
  rw [h1] at k1; cases k1
  rw [h2] at k3; cases k3
  obtain ⟨d1, e1, _, e2⟩ := hp.head j oj hoj hjl
  rw [k4] at e1; cases e1
  exact (e2 i oi d hil hij hoi k2).1
 have hs' := hs
 have hgd : ∀ i, (Array.replicate ops.size false).getD i false = false := fun i => by
  by_cases hi : i < ops.size <;> simp [hi]
 have hcrm : ∀ i o d, ops[i]? = some o -> i < m -> o.dst = some d -> creates o.op = true -> d ∈ creators ops m := fun i o d ho hi hd hcr => by
  unfold creators
  refine List.mem_filterMap.2 ⟨o, ?_, by rw [if_pos hcr]; exact hd⟩
  refine List.mem_of_getElem? (i := i) ?_
  rw [List.getElem?_take, if_pos hi]; simpa using ho
 have hset : ∀ c', (puts { σ with boxes := σ.boxes.set i0 (blankC E c) } vs).boxes.set i0 c' = σ.boxes.set i0 c' := fun c' => by rw [puts_boxes, List.set_set]
 refine head_runP (P := P) (A := A) hp hpE h0 hN hQ hvl hap (fun j => by rw [(hC j).1, (hC 0).1]) ?_ ?_ hst' (fun i N hi hlA => ⟨fun e => by have := (hkf i N hlA).1; omega, ?_, fun b hb e => ?_, fun j d' y hji hj => ?_, fun j => allLeafs_mono noVar_noPb _ (hC j).2.2⟩) (fun i o d ho hi hd hcr => ⟨fun j d' y hji hj => ?_, fun j => allLeafs_mono noTag_free _ (hC j).2.1⟩) ops.size (Array.replicate ops.size false) (List.range ops.size) σ G a _ ⟨by simp, List.nodup_range, fun i => ?_⟩ (by simp) (fun i _ => hgd i)
  (fun i o _ hi => absurd (show (Array.replicate ops.size false).getD i false = true from hi) (by rw [hgd]; simp)) ⟨rfl, ?_, fun i d y _ => by simp only [hgd]; simp, fun _ _ => rfl⟩ hs' (fun i o d ho hi hd hcr _ => freeAll_mem hfree d (hcrm i o d ho hi hd hcr)) (fun i N hi hlA _ _ _ => ⟨by rw [hσt]; exact (hkf i N hlA).2.1, by rw [hσb]; exact hall N (hkf i N hlA).2.2⟩)
 ·rw [hset] at hK
  rw [puts_eq] at hK ⊢
  exact hK
 ·rw [hset] at hK2
  rw [puts_eq] at hK2 ⊢
  exact hK2
 ·have := (hkf i N hlA).1
  cases hgh : G0.gh N with
  | none => rfl
  | some vs => have := hs0.boxes.low _ vs hgh; omega
 ·have h1 := hs0.stat b hb (fun t ht => by rw [e] at ht; cases ht)
  rw [e] at h1
  have := hs0.blt b N h1
  have := (hkf i N hlA).1
  omega
 ·obtain ⟨di, hdi, hbut⟩ := keptOk_mem hkp i N hlA
  obtain ⟨oi, hoi⟩ : ∃ p, ops[i]? = some p := ⟨ops[i]'(by have := hp.le; omega), by have := hp.le; simp [show i < ops.size by omega]⟩
  rw [hoi, Option.bind_some] at hdi
  obtain ⟨_, yi, k1, k2, _⟩ := hst' i oi hi hoi
  rw [hdi] at k2; cases k2
  have hne := hap i j di yi d' y k1 hj (Ne.symm hji)
  have hpa := puts_at m vs { σ with boxes := σ.boxes.set i0 (blankC E c) } hap
  rw [List.take_of_length_le (by omega)] at hpa
  have hjm : j < m := by have := (List.getElem?_eq_some_iff.1 hj).1; omega
  have hg := hpa.dst j d' y hj
  simp only [hjm, decide_true, if_true] at hg
  rw [<- hg]
  exact pbBut_look hbut d' (Ne.symm hne)
 ·have hb := freeOthersD_mem hoth d (hcrm i o d ho hi hd hcr)
  obtain ⟨oi, yi, k1, k2, _⟩ := hst' i o hi ho
  rw [hd] at k2; cases k2
  have hne := hap i j d yi d' y k1 hj (Ne.symm hji)
  have hpa := puts_at m vs { σ with boxes := σ.boxes.set i0 (blankC E c) } hap
  rw [List.take_of_length_le (by omega)] at hpa
  have hjm : j < m := by have := (List.getElem?_eq_some_iff.1 hj).1; omega
  have hg := hpa.dst j d' y hj
  simp only [hjm, decide_true, if_true] at hg
  rw [<- hg]
  rcases freeButD_look hb d' (Ne.symm hne) with h1 | h1
  ·obtain ⟨oj, hoj⟩ : ∃ p, ops[j]? = some p := ⟨ops[j]'(by have := hp.le; omega), by have := hp.le; simp [show j < ops.size by omega]⟩
   obtain ⟨_, yj, q1, q2, _⟩ := hst' j oj hjm hoj
   rw [hj] at q1; cases q1
   exact .inr (lateP_spec (lateD_has hD h1) hoj hjm q2 ho hi hd)
  ·exact .inl h1
 ·rw [List.mem_range, hgd]; simp
 ·have : posE E (fun i => (Array.replicate ops.size false).getD i false) = 0 := by
   unfold posE
   rw [List.filter_eq_nil_iff.2 fun e _ => by rw [hgd]; simp]; rfl
  rw [this, hC0 0 (Nat.zero_le _)]
  have hi := (List.getElem?_eq_some_iff.1 hc).1
  rw [<- (List.getElem?_eq_some_iff.1 hc).2, List.set_getElem_self]
end
def headZ (P : Program) (ops : Array Oper) (_n0 i0 : Nat) (_E _LF : List Nat) (A : List (Nat × Nat)) (D : List (Nat × Nat)) (ds : List Nat) (tr : Tr) (sg : Option (Nat × Tr)) (σ : St) (c : List AV) (K : St -> Prop) : Prop :=
 (freeOthersD D σ.tmps ds = true /\ keptOk ops σ.tmps A = true) /\ treeA P ops tr { σ with boxes := σ.boxes.set i0 c } K /\ sgA P ops sg { σ with boxes := σ.boxes.set i0 c } K
def headY (P : Program) (ops : Array Oper) (n0 i0 : Nat) (E LF : List Nat) (A : List (Nat × Nat)) (D : List (Nat × Nat)) (ds : List Nat) (tr : Tr) (sg : Option (Nat × Tr)) : Nat -> Nat -> List Oper -> St -> List AV -> (St -> Prop) -> Prop
 | _, 0, _, σ, c, K => headZ P ops n0 i0 E LF A D ds tr sg σ c K
 | _, _ + 1, [], σ, c, K => headZ P ops n0 i0 E LF A D ds tr sg σ c K
 | k, m + 1, o :: r, σ, c, K => if E.contains k = true then EffK P n0 i0 o σ c fun σ' c' => allLeafs noVar c' = true /\ headY P ops n0 i0 E LF A D ds tr sg (k + 1) m r σ' c' K else if LF.contains k = true then frB P o σ fun σ' => headY P ops n0 i0 E LF A D ds tr sg (k + 1) m r σ' c K else match lookA A k with
  | some N => AllocK P o N σ fun σ' => headY P ops n0 i0 E LF A D ds tr sg (k + 1) m r σ' c K
  | none => headG P ops o σ fun σ' => headY P ops n0 i0 E LF A D ds tr sg (k + 1) m r σ' c K
theorem headY_eq {P : Program} {ops : Array Oper} {n0 i0 : Nat} {E LF : List Nat} {A D : List (Nat × Nat)} {ds : List Nat} {tr : Tr} {sg : Option (Nat × Tr)} {K : St -> Prop} : ∀ (m k : Nat) (l : List Oper) (σ : St) (c : List AV), headY P ops n0 i0 E LF A D ds tr sg k m l σ c K =
  headF P ops n0 i0 E LF A k (l.take m) σ c fun σ' c' => headZ P ops n0 i0 E LF A D ds tr sg σ' c' K
 | 0, k, l, σ, c => by cases l <;> rfl
 | m + 1, k, [], σ, c => rfl
 | m + 1, k, o :: l, σ, c => by
  have ih : ∀ σ' c', headY P ops n0 i0 E LF A D ds tr sg (k + 1) m l σ' c' K = headF P ops n0 i0 E LF A (k + 1) (l.take m) σ' c' fun σ' c' => headZ P ops n0 i0 E LF A D ds tr sg σ' c' K := fun σ' c' => headY_eq m (k + 1) l σ' c'
  simp only [headY, List.take_succ_cons, headF, ih]
theorem DrawK.news0 {P : Program} {l : List Oper} {σ : St} {K : St -> Prop} (A : List (Nat × Nat)) (ph : List Nat) (D : List (Nat × Nat)) (i0 : Nat) (E LF : List Nat) (m : Nat) (tr : Tr) (sg : Option (Nat × Tr)) (c : List AV) (hm : P.follows .mixedOrders = true) (hok : lateOk l.toArray m E LF tr sg = true) (hE : effOk l.toArray m E = true) (hD : lateD l.toArray m D = true) (hc : (σ.boxes ++ anyB ph)[i0]? = some c) (hi0 : i0 < σ.boxes.length) (hnt : allLeafs noTag c = true /\ allLeafs noVar c = true)
  (hfree : freeAll σ (crs (l.take m)) = true /\ keptFree σ A = true)
  (h : headY P l.toArray (σ.boxes ++ anyB ph).length i0 E LF A D (crs (l.take m)) tr sg 0 m l ⟨σ.n, σ.tmps, (σ.boxes ++ anyB ph).set i0 (blankC E c)⟩ c K) : DrawK P l.toArray σ K :=
 DrawK.ofN hm (DrawN.effP A ph D i0 E LF m tr sg c hok hE hD hc hi0 hnt.1 hnt.2 (by rw [crs_creators]; exact hfree.1) hfree.2 (by rw [crs_creators]; rw [headY_eq] at h; exact h))
section
variable {P : Program} {n : Nat} {t : List (Nat × AV)} {b : List (List AV)} {ops : Array Oper} {n0 i0 k m : Nat} {E LF ds : List Nat} {A D : List (Nat × Nat)} {tr : Tr} {sg : Option (Nat × Tr)} {l : List Oper} {c : List AV} {K : St -> Prop}
variable {d : Nat} {T : TypeId} {pos : String} {af : Array Edge} {g : Option (Nat × Bool)}
@[congr] theorem headY_congr {n0' k' : Nat} {σ σ' : St} {c' : List AV} (h0 : n0 = n0') (h1 : k = k') (h : mkd σ = σ') (h2 : c = c') : headY P ops n0 i0 E LF A D ds tr sg k m l σ c K = headY P ops n0' i0 E LF A D ds tr sg k' m l σ' c' K := by subst_vars; rfl
def selN (o : Option Nat) (f : Nat -> Prop) (p : Prop) : Prop := match o with
 | some N => f N
 | none => p
@[congr] theorem selN_congr {o o' : Option Nat} {f : Nat -> Prop} {p : Prop} (h : o = o') : selN o f p = selN o' f p := by subst_vars; rfl
@[go_sem] theorem selN_some {N : Nat} {f : Nat -> Prop} {p : Prop} : selN (some N) f p = f N := rfl
@[go_sem] theorem selN_none {f : Nat -> Prop} {p : Prop} : selN none f p = p := rfl
@[go_sem] theorem headY_zero : headY P ops n0 i0 E LF A D ds tr sg k 0 l ⟨n, t, b⟩ c K = andK (freeOthersD D t ds = true) (andK (keptOk ops t A = true) (andK (treeA P ops tr ⟨n, t, b.set i0 c⟩ K) (sgA P ops sg ⟨n, t, b.set i0 c⟩ K))) := by
 cases l <;> (simp only [headY, headZ, andK]; exact propext and_assoc)
@[go_sem] theorem headY_succ {dst : Option Tmp} {op : Op} : headY P ops n0 i0 E LF A D ds tr sg k (m + 1) (⟨dst, op, T, pos, af, none⟩ :: l) ⟨n, t, b⟩ c K = selK (E.contains k) (EffK P n0 i0 ⟨dst, op, T, pos, af, none⟩ ⟨n, t, b⟩ c fun σ' c' => andK (allLeafs noVar c' = true) (headY P ops n0 i0 E LF A D ds tr sg (k + 1) m l σ' c' K))
  (selK (LF.contains k) (frB P ⟨dst, op, T, pos, af, none⟩ ⟨n, t, b⟩ fun σ' => headY P ops n0 i0 E LF A D ds tr sg (k + 1) m l σ' c K) (selN (lookA A k) (fun N => AllocK P ⟨dst, op, T, pos, af, none⟩ N ⟨n, t, b⟩ fun σ' => headY P ops n0 i0 E LF A D ds tr sg (k + 1) m l σ' c K) (headOp P ⟨dst, op, T, pos, af, none⟩ ⟨n, t, b⟩ fun σ' => headY P ops n0 i0 E LF A D ds tr sg (k + 1) m l σ' c K))) := by
 rw [selK_ite, selK_ite]
 show (if E.contains k = true then _ else if LF.contains k = true then _ else _) = _
 cases lookA A k <;> rfl
@[congr] theorem AllocK_congr {o : Oper} {N : Nat} {σ σ' : St} {K : St -> Prop} (h : mkd σ = σ') : AllocK P o N σ K = AllocK P o N σ' K := by subst_vars; rfl
@[go_sem] theorem AllocK_eq {N : Nat} : AllocK P ⟨some d, .alloc T, k, pos, af, none⟩ N ⟨n, t, b⟩ K = andK (d < n) (caseO (tinfo P T) fun q => caseO q.2.2 fun z => andK (zeroOk q.1 z = true) (caseO b[N]? fun cs => andK (cs = List.replicate q.1 .any) (K (St.put ⟨n, t, b⟩ (some d) (.pb N 0))))) := by
 unfold AllocK AllocP andK caseO
 apply propext
 constructor
 ·rintro ⟨d', hd, h1, ⟨_, _, T', q, z, h3, h4, h5, h6, h7⟩, h8⟩
  cases hd; cases h3
  exact ⟨h1, q, h4, z, h5, h6, _, h7, rfl, h8⟩
 ·rintro ⟨h1, q, h4, z, h5, h6, cs, h7, rfl, h8⟩
  exact ⟨d, rfl, h1, ⟨rfl, rfl, T, q, z, rfl, h4, h5, h6, h7⟩, h8⟩
attribute [go_sem] freeOthersD freeButD hasD lookA keptOk pbBut keptFree noPbT noPbB noPb noVar anyB
end
end Go.AM
namespace Go.AM
open Go Go.Proofs Go.RowKit
set_option maxRecDepth 100000
def rollA (l : List Int) (at_ : Nat) : Nat -> Nat
 | 0 => at_
 | n + 1 => pickA l (rollA l at_ n)
def rollV (l : List Int) (at_ : Nat) (most : Int) : Nat -> List Int
 | 0 => []
 | n + 1 => rollV l at_ most n ++ [pickV l (rollA l at_ n) (most + 1)]
theorem rollA_le {l : List Int} {at_ : Nat} (h : at_ <= l.length) : ∀ n, rollA l at_ n <= l.length
 | 0 => h
 | n + 1 => pickA_le (rollA_le h n)
theorem rollV_len {l : List Int} {at_ : Nat} {most : Int} : ∀ n, (rollV l at_ most n).length = n
 | 0 => rfl
 | n + 1 => by rw [rollV, List.length_append, rollV_len n]; rfl
theorem rollV_low {l : List Int} {at_ : Nat} {most : Int} (h : 0 <= most) : ∀ n, ∀ x ∈ rollV l at_ most n, 0 <= x /\ x <= most
 | 0 => fun x hx => by cases hx
 | n + 1 => fun x hx => by
  rw [rollV, List.mem_append] at hx
  rcases hx with hx | hx
  ·exact rollV_low h n x hx
  ·simp only [List.mem_cons, List.not_mem_nil, or_false] at hx
   have := pickV_lt (l := l) (at_ := rollA l at_ n) (n := most + 1) (by omega)
   subst hx; omega
theorem Con.freezeB {P : Program} {f : FuncId} {args : List AV} {bx : List (List AV)} {post : AV -> List (List AV) -> Prop} (p : Nat -> Bool) (h : Con P f args bx post) : Con P f args bx fun r' b' => ∃ r b, post r b /\ r' = r.freeze p /\ b' = b.map fun cs => cs.map (AV.freeze p) :=
 ⟨h.1, fun G w vs h1 h2 h3 h4 h5 => (h.2 G w vs h1 h2 h3 h4 h5).mono fun e w' ⟨v, r, bx', G', he, hq, hr, hg, hbx, hlt, e1, e2, e3, e4, e5, e6⟩ => by
  have hbox : ∀ k i, freezeG p G' k = .box i ↔ G' k = .box i := fun k i => by
   unfold freezeG; split
   ·rename_i t ht; split <;> simp [ht]
   ·exact Iff.rfl
  refine ⟨v, _, bx'.map (fun cs => cs.map (AV.freeze p)), freezeG p G', he, ⟨r, bx', hq, rfl, rfl⟩, hr.freeze, hg.freeze, ⟨fun i vs hv => by simp [noGh] at hv, fun i cs hi => ?_⟩, fun k i hk => by simpa using hlt k i ((hbox k i).1 hk), e1, e2, e3, e4, fun k hk => ?_, e6⟩
  ·rw [List.getElem?_map] at hi
   cases hc : bx'[i]? with
   | none => simp [hc] at hi
   | some cs' =>
    simp [hc] at hi; subst hi
    exact (hbx.cell i cs' hc).map (fun x v hr => hr.freeze) (fun k hk => ⟨(hbox k i).2 hk, rfl⟩) fun h0 k hk => h0 k ((hbox k i).1 hk)
  ·have := e5 k hk
   unfold freezeG
   split
   ·rename_i t ht; rw [this] at ht; exact absurd ht (h2 k t)
   ·exact this⟩
theorem con_ints (l : List Int) (at_ : Nat) (n : Nat) (most : Int) (hs : Seeds l) (ha : at_ <= l.length) (hn : n <= 6) (hm : 0 <= most /\ most <= 100) : Con Tryz.prog 24 [.pb 0 0, vi n, vi most] [diceA l at_]
  fun r b => r = vs 2 (rollV l at_ most n) /\ b = [diceA l (rollA l at_ n)] := by
 refine Con.intro Tryz.func24 rfl Tryz.ntmps24 Tryz.results24 (by kernel_rfl) (by simp) 1 (by simp) ?_
 simp only [go_sem]
 refine LoopK.intro (fun i : Nat => ⟨22, [(0, .pb 0 0), (1, vi n), (2, vi most), (7, vs 1344 (rollV l at_ most i)), (8, vi i)], [diceA l (rollA l at_ i)]⟩)
  (fun i => n - i) (fun i => i <= n) 0 (by omega) ?_ ?_
 ·simp only [go_sem, rollV, rollA, List.map_nil]
 rintro i hi
 by_cases h : i < n
 ·have hw : IntKind.i64.wrap (i + 1) = i + 1 := wrap_in (by omega) (by omega)
  have hw2 : IntKind.i64.wrap (most + 1) = most + 1 := wrap_in (by omega) (by omega)
  simp only [go_sem, h, hw2]
  refine CallU.boxes (i := 0) (is := []) (bx0 := [diceA l (rollA l at_ i)]) (con_pickF l (rollA l at_ i) (most + 1) hs (rollA_le ha i) (by omega)) (by simp only [go_sem]) (by simp only [go_sem]) (by simp only [go_sem]) (by simp only [go_sem]) (by simp only [go_sem]) ?_
  rintro r b ⟨rfl, rfl⟩
  have hr : roomFor ((rollV l at_ most i).length + 1) 8 := by rw [rollV_len]; simp only [roomFor]; omega
  simp only [go_sem, hr, hw]
  refine roundK.intro (i + 1) (by omega) (by omega) ?_
  simp only [go_sem, rollV, rollA, List.map_append, List.map_cons, List.map_nil]
 ·have e : i = n := by omega
  subst e
  simp only [go_sem, h]
theorem con_intsF (l : List Int) (at_ : Nat) (n : Nat) (most : Int) (hs : Seeds l) (ha : at_ <= l.length) (hn : n <= 6) (hm : 0 <= most /\ most <= 100) : Con Tryz.prog 24 [.pb 0 0, vi n, vi most] [diceA l at_]
  fun r b => r = vs 0 (rollV l at_ most n) /\ b = [diceA l (rollA l at_ n)] :=
 ((con_ints l at_ n most hs ha hn hm).freezeB fun _ => true).mono fun r b ⟨r1, b1, ⟨h1, h2⟩, h3, h4⟩ => by
  subst h1; subst h2; subst h3; subst h4
  refine ⟨?_, ?_⟩
  ·rfl
  ·rfl
def kidN (n : Int) : AV := .ag [vi n, .nil]
def cfgN (t s : Nat) (v : List Int) : AV := .ag [vi 0, .sl t 2 (((s : Int) :: v).map kidN)]
attribute [go_sem] kidN cfgN
theorem con_config28 (s : Nat) (v : List Int) (hv : v.length <= 100) : Con Tryz.prog 25 [vi s, vs 0 v] [] fun r _ => r = cfgN 2 s v := by
 refine Con.intro Tryz.func25 rfl Tryz.ntmps25 Tryz.results25 (by kernel_rfl) (by simp) 0 (by simp) ?_
 simp only [go_sem]
 refine LoopK.intro (fun i : Nat => ⟨28, [(0, vi s), (1, vs 0 v), (4, .pb 0 0), (5, .pb 1 0), (6, vi i)], [[.any, .any], [vi 0, .sl 640 2 (((s : Int) :: v.take i).map kidN)]]⟩)
  (fun i => v.length - i) (fun i => i <= v.length) 0 (by omega) ?_ ?_
 ·simp only [go_sem, List.take_zero, List.map_cons, List.map_nil]
 rintro i hi
 by_cases h : i < v.length
 ·have hw : IntKind.i64.wrap (i + 1) = i + 1 := wrap_in (by omega) (by omega)
  have hg := getv h
  have e : v.take (i + 1) = v.take i ++ [v[i]!] := by rw [List.take_add_one, List.getElem?_eq_getElem h, getElem!_pos v i h]; rfl
  simp only [go_sem, h, List.map_cons]
  refine DrawK.walk 8 mixed (by kernel_rfl) ?_
  simp only [go_sem, h, hw, hg, List.map_cons]
  refine ⟨by simp only [roomFor, List.length_take]; omega, roundK.intro (i + 1) (by omega) (by omega) ?_⟩
  simp only [go_sem, e, List.map_append, List.map_cons, List.map_nil]
 ·have e : i = v.length := by omega
  subst e
  simp only [go_sem, h, List.take_length, List.map_cons]
def rollS (l : List Int) (at_ ns : Nat) : Nat := (pickV l at_ ns).toNat
theorem rollS_lt {l : List Int} {at_ ns : Nat} (h : 1 <= ns) : rollS l at_ ns < ns /\ pickV l at_ ns = rollS l at_ ns := by
 have := pickV_lt (l := l) (at_ := at_) (n := ns) (by omega)
 unfold rollS; omega
set_option maxHeartbeats 8000000
theorem con_rEnabled (m : MD) (i s : Nat) (v : List Int) (h : GoodM m) (hi : i < m.rules.length) (hc : GoodC m s v) : Con Tryz.prog 123 [vM m, vi i, vV (cfgC s v)] [] fun x _ => x = .tup [vb (enF m.rules[i]! s v), vi 0] := by
 have e0 := vV_eq (cfgC s v)
 rw [e0]
 refine Con.intro Tryz.func123 rfl Tryz.ntmps123 Tryz.results123 (by kernel_rfl) (by simp) 0 (by simp) ?_
 have h2 := h.places
 have hg := getRule hi
 have hr := (rule_fine (h.rules _ (mem_bangI hi)).1).right
 unfold RightR at hr
 have hl := hc.len
 simp only [go_sem, vM, cM, vss]
 refine CallU.free (con_rfault m i h hi) (by simp only [go_sem]) (by simp only [go_sem, vM, cM, vss]) ?_
 rintro r bx rfl
 simp only [go_sem]
 refine CallU.free (con_rmvalid m (cfgC s v) h hc.conf) (by simp only [go_sem]) (by simp only [go_sem, vM, cM, vss, e0]) ?_
 rintro r bx rfl
 simp only [go_sem]
 refine DrawK.walk 7 mixed (by kernel_rfl) ?_
 simp only [go_sem, hi, hg]
 refine CallY.mk (con_renabled m.rules[i]! s v (by omega) (by omega)) (by simp only [go_sem, e0]) (by simp only [go_sem]) (.inl (by simp only [go_sem])) ?_
 simp only [go_sem]
theorem fill_round {L : List Int} {i k : Nat} (hl : L.length = k) (h : i < k) : ((L.take i ++ List.replicate (k - i) 0).map vi).modify i (updElem 0 [.sc (.int .i64 L[i]!)]) = (L.take (i + 1) ++ List.replicate (k - (i + 1)) 0).map vi := by
 have h1 : (L.take i).length = i := by rw [List.length_take]; omega
 have e1 : List.replicate (k - i) (0 : Int) = 0 :: List.replicate (k - (i + 1)) 0 := by rw [show k - i = (k - (i + 1)) + 1 by omega, List.replicate_succ]
 have e2 : L.take (i + 1) = L.take i ++ [L[i]!] := by rw [List.take_add_one, List.getElem?_eq_getElem (by omega), getElem!_pos L i (by omega)]; rfl
 rw [modify_vi, e2, e1, List.set_append_right _ _ (by omega), h1, Nat.sub_self, List.set_cons_zero, List.append_assoc]
 rfl
theorem fill_at {L : List Int} {i k : Nat} (hl : L.length = k) (h : i < k) : ((L.take i ++ List.replicate (k - i) 0).map vi)[i]? = some (.sc (.int .i64 0)) := by
 have h1 : (L.take i).length = i := by rw [List.length_take]; omega
 have e1 : List.replicate (k - i) (0 : Int) = 0 :: List.replicate (k - (i + 1)) 0 := by rw [show k - i = (k - (i + 1)) + 1 by omega, List.replicate_succ]
 rw [List.getElem?_map, List.getElem?_append_right (by omega), h1, Nat.sub_self, e1]; rfl
theorem fill_len {L : List Int} {i k : Nat} (hl : L.length = k) (h : i <= k) : (L.take i ++ List.replicate (k - i) 0).length = k := by
 rw [List.length_append, List.length_take, List.length_replicate]; omega
def leftL (v n : List Int) : List Int := (List.range v.length).map fun i => v[i]! - n[i]!
theorem left_len (v n : List Int) : (leftL v n).length = v.length := by simp [leftL]
theorem left_at {v n : List Int} {i : Nat} (h : i < v.length) : (leftL v n)[i]! = v[i]! - n[i]! := by
 rw [getElem!_pos _ i (by rw [left_len]; exact h)]; simp [leftL]
theorem con_rapplyB (m : MD) (i s : Nat) (v : List Int) (h : GoodM m) (hst : m.rules.all stillB = true) (hi : i < m.rules.length) (hc : GoodC m s v) (hb : ∀ j, j < v.length -> (fireF m.rules[i]! v)[j]! <= 1048576) (he : enF m.rules[i]! s v = true) :
  Con Tryz.prog 89 [vM m, vi i, vV (cfgC s v)] [] fun x _ => x = .tup [cfgN 2 m.rules[i]!.dst.toNat (fireF m.rules[i]! v), vi 0] := by
 have e0 := vV_eq (cfgC s v)
 have hE := con_rEnabled m i s v h hi hc
 rw [he] at hE
 rw [e0] at hE ⊢
 refine Con.intro Tryz.func89 rfl Tryz.ntmps89 Tryz.results89 (by kernel_rfl) (by simp) 0 (by simp) ?_
 have h2 := h.places
 have hg := getRule hi
 have hfr := rule_fine (h.rules _ (mem_bangI hi)).1
 have hmv : m.rules[i]!.move = [] := by
  have := List.all_eq_true.1 hst _ (mem_bangI hi)
  unfold stillB at this
  rw [beq_iff_eq] at this
  exact List.eq_nil_of_length_eq_zero this
 have hl := hc.len
 have hlow := hc.low
 have hgv : ∀ x ∈ m.rules[i]!.give, 0 <= x /\ x <= 16 := by
  have h3 := (h.rules _ (mem_bangI hi)).1
  unfold ruleB changesB smallB betweenB at h3
  simp only [Bool.and_eq_true, decide_eq_true_eq, List.all_eq_true] at h3
  exact h3.1.2.2
 have hnd : ∀ x ∈ m.rules[i]!.need, 0 <= x /\ x <= 16 := by
  have h3 := (h.rules _ (mem_bangI hi)).1
  unfold ruleB changesB smallB betweenB at h3
  simp only [Bool.and_eq_true, decide_eq_true_eq, List.all_eq_true] at h3
  exact h3.1.2.1.2
 generalize m.rules[i]! = r at *
 obtain ⟨r1, r2, r3, r4, r5, r6⟩ := hfr.right
 have hnl : r.need.length = v.length := by omega
 have hgl : r.give.length = v.length := by omega
 simp only [go_sem, vM, cM, vss]
 refine CallU.free hE (by simp only [go_sem]) (by simp only [go_sem, vM, cM, vss]) ?_
 rintro x bx rfl
 simp only [go_sem, hi, hg, hmv, List.map_nil, List.length_nil]
 refine ⟨Nat.le_refl _, by omega, by omega, ?_⟩
 have hrep : List.replicate r.need.length (AV.sc (.int .i64 0)) = (List.replicate v.length (0 : Int)).map vi := by rw [List.map_replicate, hnl]; rfl
 rw [hrep]
 have hll := left_len v r.need
 refine LoopK.intro (fun j : Nat => ⟨116, [(3, .pb 0 0), (5, .pb 1 0), (6, .pb 2 0), (7, vi 0), (10, .pb 3 0), (11, vs 2496 ((leftL v r.need).take j ++ List.replicate (v.length - j) 0)), (12, vi j)], [cM m, [vi (cfgC s v).n, .sl 0 2 ((cfgC s v).kids.map vV)], [.any, .any], [vStr r.name, vi r.src, vi r.dst, vs 0 r.need, vs 0 r.give, .sl 0 1 [], vi r.channel, vi r.act, vi r.letter, vs 0 r.path, vs 0 r.next, .sl 0 3 (r.takes.map vTake), vs 0 r.makes, vi r.second]]⟩)
  (fun j => v.length - j) (fun j => j <= v.length) 0 (by omega) ?_ ?_
 ·simp only [go_sem, List.take_zero, List.nil_append, Nat.sub_zero, cM, vss]
 rintro j hj
 have hfl := fill_len (L := leftL v r.need) (i := j) hll hj
 by_cases hjl : j < v.length
 ·have gn := getv (l := r.need) (i := j) (by omega)
  have hjn : j < r.need.length := by omega
  have hk := cfg_kid (s := s) (v := v) (i := j) hjl
  have hw : IntKind.i64.wrap (j + 1) = j + 1 := wrap_in (by omega) (by omega)
  have hw2 : IntKind.i64.wrap (1 + (j : Int)) = ((j + 1 : Nat) : Int) := by rw [wrap_in (by omega) (by omega)]; omega
  have ht : ((j : Int) + 1).toNat = j + 1 := by omega
  have hk2 : Option.map vV (cfgC s v).kids[j + 1]? = some (.ag [.sc (.int .i64 v[j]!), .sl 0 2 []]) := by rw [<- List.getElem?_map]; exact hk
  have kl := cfg_klen (s := s) (v := v)
  have hkl2 : (j : Int) + 1 < ((cfgC s v).kids.length : Int) := by omega
  have hf1 := fill_at (L := leftL v r.need) hll hjl
  have hf2 := fill_round (L := leftL v r.need) hll hjl
  rw [left_at hjl] at hf2
  have hv1 := hlow _ (mem_bangI hjl)
  have hn1 := hfr.need _ (mem_bangI hjn)
  have w1 : IntKind.i64.wrap (v[j]! - r.need[j]!) = v[j]! - r.need[j]! := wrap_in (by omega) (by omega)
  have w2 : IntKind.i64.wrap (0 + (v[j]! - r.need[j]!)) = v[j]! - r.need[j]! := by rw [wrap_in (by omega) (by omega)]; omega
  simp only [go_sem, hfl, hjl, cM, vss, List.length_nil]
  refine DrawK.walk 19 mixed (by kernel_rfl) ?_
  simp only [go_sem, hfl, hjl, hf1, hw2, ht, hk2, hkl2, hjn, gn, w1, w2, hf2, hw]
  refine ⟨by omega, roundK.intro (j + 1) (by omega) (by omega) ?_⟩
  simp only [go_sem]
 ·have e1 : (leftL v r.need).take j ++ List.replicate (v.length - j) 0 = leftL v r.need := by
   rw [List.take_of_length_le (by omega), show v.length - j = 0 by omega]; simp
  rw [e1]
  simp only [go_sem, hll, hjl, cM, vss]
  have hds : r.dst = ((r.dst.toNat : Nat) : Int) := by omega
  have hfl2 : (fireF r v).length = v.length := fireL_len hnl hgl
  refine LoopK.intro (fun j : Nat => ⟨116, [(3, .pb 0 0), (5, .pb 1 0), (6, .pb 2 0), (7, vi 0), (10, .pb 3 0), (11, vs 2496 (leftL v r.need)), (14, .pb 4 0), (15, vi j)], [cM m, [vi (cfgC s v).n, .sl 0 2 ((cfgC s v).kids.map vV)], [.any, .any], [vStr r.name, vi r.src, vi r.dst, vs 0 r.need, vs 0 r.give, .sl 0 1 [], vi r.channel, vi r.act, vi r.letter, vs 0 r.path, vs 0 r.next, .sl 0 3 (r.takes.map vTake), vs 0 r.makes, vi r.second], [vi 0, .sl 5120 2 ((r.dst :: (fireF r v).take j).map kidN)]]⟩)
   (fun j => v.length - j) (fun j => j <= v.length) 0 (by omega) ?_ ?_
  ·simp only [go_sem, List.take_zero, List.map_cons, List.map_nil, cM, vss]
  rintro j hj
  by_cases hjl : j < v.length
  ·have g1 := getv (l := leftL v r.need) (i := j) (by omega)
   have g2 := getv (l := r.give) (i := j) (by omega)
   have hjL : j < (leftL v r.need).length := by omega
   have hjG : j < r.give.length := by omega
   rw [left_at hjl] at g1
   have hw : IntKind.i64.wrap (j + 1) = j + 1 := wrap_in (by omega) (by omega)
   have hv1 := hlow _ (mem_bangI hjl)
   have hv2 := hlow _ (mem_bangI hjl)
   have hv3 := hb j hjl
   have hg1 := hgv _ (mem_bangI hjG)
   have hn1 := hnd _ (mem_bangI (show j < r.need.length by omega))
   have hF : (fireF r v)[j]! = v[j]! - r.need[j]! + r.give[j]! := fireL_at hnl hgl hjl
   have w1 : IntKind.i64.wrap (v[j]! - r.need[j]! + r.give[j]!) = (fireF r v)[j]! := by rw [hF]; exact wrap_in (by omega) (by omega)
   have hnot : ¬ (1048576 : Int) < (fireF r v)[j]! := by omega
   have e : (fireF r v).take (j + 1) = (fireF r v).take j ++ [(fireF r v)[j]!] := by rw [List.take_add_one, List.getElem?_eq_getElem (by omega), getElem!_pos _ j (by omega)]; rfl
   have hro : roomFor (((fireF r v).take j).length + 1 + 1) 32 := by simp only [roomFor, List.length_take]; omega
   simp only [go_sem, hll, hjl, cM, vss, List.map_cons]
   refine DrawK.walk 11 mixed (by kernel_rfl) ?_
   simp only [go_sem, hjG, hjl, hll, g1, g2, w1, hnot]
   refine DrawK.walk 14 mixed (by kernel_rfl) ?_
   simp only [go_sem, hjG, hjl, hll, g1, g2, w1, hw, hro]
   refine roundK.intro (j + 1) (by omega) (by omega) ?_
   simp only [go_sem, cM, vss, e, List.map_append, List.map_cons, List.map_nil]
  ·have e2 : (fireF r v).take j = fireF r v := List.take_of_length_le (by omega)
   rw [hds]
   simp only [go_sem, hll, hjl, cM, vss, e2, List.map_cons]
theorem con_r22yesB (m : MD) (i s : Nat) (v : List Int) (h : GoodM m) (hst : m.rules.all stillB = true) (hi : i < m.rules.length) (hc : GoodC m s v) (hb : ∀ j, j < v.length -> (fireF m.rules[i]! v)[j]! <= 1048576) (he : enF m.rules[i]! s v = true) : Con Tryz.prog 67 [vM m, vi i, vV (cfgC s v)] [] fun x _ => x = .tup [.sl 2 2 [cfgN 0 m.rules[i]!.dst.toNat (fireF m.rules[i]! v)], vi 0] := by
 have e0 := vV_eq (cfgC s v)
 have hA := con_rapplyB m i s v h hst hi hc hb he
 rw [e0] at hA ⊢
 refine Con.intro Tryz.func67 rfl Tryz.ntmps67 Tryz.results67 (by kernel_rfl) (by simp) 0 (by simp) ?_
 have hk := h.kind
 have a1 : ¬ ((i : Int) < -1) := by omega
 have a2 : ¬ ((m.rules.length : Int) <= (i : Int)) := by omega
 have a3 : ((i : Int) == -1) = false := beq_eq_false_iff_ne.2 (by omega)
 simp only [go_sem, vM, cM, vss, hk]
 refine CallU.free (con_rkind m h) (by simp only [go_sem]) (by simp only [go_sem, vM, cM, vss, hk]) ?_
 rintro x bx rfl
 simp only [go_sem, a1, a2, List.length_map]
 refine CallU.free (con_rmvalid m (cfgC s v) h hc.conf) (by simp only [go_sem]) (by simp only [go_sem, vM, cM, vss, hk, e0]) ?_
 rintro x bx rfl
 simp only [go_sem, a3]
 refine CallU.free hA (by simp only [go_sem]) (by simp only [go_sem, vM, cM, vss, hk]) ?_
 rintro x bx rfl
 simp only [go_sem]
def vSt (x : StD) : AV := .ag [vi x.rule, vi 0, .sl 0 2 (((x.state : Int) :: x.v).map kidN)]
attribute [go_sem] vSt
theorem flat_cons (x : AV) (l : List AV) : flat (x :: l) = x.cells ++ flat l := by simp [flat]
theorem kids_pw : ∀ l : List Int, PW Sub (flat (l.map kidN)) (flat ((l.map fun n => CV.mk n []).map vV))
 | [] => PW.nil _
 | n :: l => by
  rw [List.map_cons, List.map_cons, List.map_cons, flat_cons, flat_cons, vV_eq]
  exact PW.append (PW.cons (Sub.refl _) (PW.cons (Sub.nil 2) (PW.nil _))) (kids_pw l)
theorem cfg_le (s : Nat) (v : List Int) : leV (cfgN 0 s v) (vV (cfgC s v)) := by
 rw [vV_eq]
 refine leV_ag ⟨leV_refl _, ?_, trivial⟩
 show leV (.sl 0 2 (((s : Int) :: v).map kidN)) (.sl 0 2 ((((s : Int) :: v).map fun n => CV.mk n []).map vV))
 exact leV_slE (by simp) (fun y hy => by
  obtain ⟨x, _, rfl⟩ := List.mem_map.1 hy
  rw [vV_eq]; rfl) (kids_pw _)
def ruleN (r : RD) : AV := .ag [vStr r.name, vi r.src, vi r.dst, vs 0 r.need, vs 0 r.give, .nil, vi 0, vi 0, vi 0, .nil, .nil, .nil, .nil, vi 0]
attribute [go_sem] ruleN
def ThinR (r : RD) : Prop := r = bareR r.name r.src r.dst r.need r.give []
theorem rules_pw : ∀ l : List RD, (∀ r ∈ l, ThinR r) -> PW Sub (flat (l.map ruleN)) (flat (l.map vRule))
 | [], _ => PW.nil _
 | r :: l, h => by
  rw [List.map_cons, List.map_cons, flat_cons, flat_cons]
  refine PW.append ?_ (rules_pw l fun x hx => h x (List.mem_cons_of_mem _ hx))
  rw [h r (List.mem_cons_self ..)]
  have e1 : Sub .nil (vs 0 []) := Sub.nil 1
  have e3 : Sub .nil (.sl 0 3 (([] : List (Int × Int × Int)).map vTake)) := Sub.nil 3
  exact PW.cons (Sub.refl _) (PW.cons (Sub.refl _) (PW.cons (Sub.refl _) (PW.cons (Sub.refl _) (PW.cons (Sub.refl _) (PW.cons e1 (PW.cons (Sub.refl _) (PW.cons (Sub.refl _) (PW.cons (Sub.refl _) (PW.cons e1 (PW.cons e1 (PW.cons e3 (PW.cons e1 (PW.cons (Sub.refl _) (PW.nil _))))))))))))))
def modelN (m : MD) (t s0 : Nat) (v0 : List Int) : AV := .ag [vi 1, vss m.states, vss m.places, .nil, .nil, vi 0, vi 0, .sl t 14 (m.rules.map ruleN), vi 0, .sl t 2 (((s0 : Int) :: v0).map kidN)]
attribute [go_sem] modelN
theorem model_le {m : MD} {s0 : Nat} {v0 : List Int} (h : GoodM m) (hr : ∀ r ∈ m.rules, ThinR r) (hs : m.start = cfgC s0 v0) : leV (modelN m 0 s0 v0) (vM m) := by
 have hc := cfg_le s0 v0
 rw [vV_eq] at hc
 unfold modelN vM cM
 rw [h.kind, h.letters, h.ranks, h.levels, h.age, hs]
 refine leV_ag ⟨leV_refl _, leV_refl _, leV_refl _, leV_nil 0 1, leV_nil 0 1, leV_refl _, leV_refl _, ?_, leV_refl _, ?_, trivial⟩
 ·exact leV_slE (by simp) (fun y hy => by obtain ⟨x, _, rfl⟩ := List.mem_map.1 hy; rfl) (rules_pw _ hr)
 ·show leV (.sl 0 2 (((s0 : Int) :: v0).map kidN)) (.sl 0 2 ((((s0 : Int) :: v0).map fun n => CV.mk n []).map vV))
  exact leV_slE (by simp) (fun y hy => by
   obtain ⟨x, _, rfl⟩ := List.mem_map.1 hy
   rw [vV_eq]; rfl) (kids_pw _)
end Go.AM
