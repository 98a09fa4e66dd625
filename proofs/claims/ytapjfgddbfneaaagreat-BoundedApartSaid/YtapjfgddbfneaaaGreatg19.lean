/- CrD CrE CrF CrL -/
import Derived.Test.YtapjfgddbfneaaaGreatg18
import Derived.Test.YtapjfgddbfneaaaGreatg14
namespace Go.AM
open Go Go.Proofs Go.RowKit
set_option maxRecDepth 100000
set_option maxHeartbeats 8000000
theorem con_rtypeOfP (m : MD) (h : PreM m) : Con Tryz.prog 85 [vM m] [] fun r _ => r = flatT 2 (partsP m.states.length m.places.length) := by
 refine Con.intro Tryz.func85 rfl Tryz.ntmps85 Tryz.results85 (by kernel_rfl) (by simp) 0 (by simp) ?_
 have h2 := h.places
 unfold vM cM
 rw [h.kind, h.letters]
 simp only [go_sem, vss, List.length_map, List.map_nil, List.length_nil]
 refine LoopK.intro (fun i : Nat => ⟨96, [(1, .pb 0 0), (2, .pb 1 0), (3, .pb 2 0), (4, .pb 3 0), (8, vi i)], [vi 1, .sl 0 1 (m.states.map vStr), .sl 0 1 (m.places.map vStr), .sl 0 1 [], vs 0 m.ranks, vi m.levels, vi m.age, .sl 0 14 (m.rules.map vRule), vi m.start.n, .sl 0 2 (m.start.kids.map vV)] :: [.any, .any, .any, .any] :: [vi 3, vi 0, .nil, .sl 960 4 ((partsP m.states.length i).map vPT)] :: [.any, .any, .any, .any] :: Rk 4 i⟩)
  (fun i => m.places.length - i) (fun i => i <= m.places.length) 0 (by omega) ?_ ?_
 ·simp only [go_sem, partsP, List.replicate_zero, List.map_cons, List.map_nil]
  all_goals exact leB_self _
 rintro i hi
 by_cases hlt : i < m.places.length
 ·have hw : IntKind.i64.wrap (i + 1) = i + 1 := wrap_in (by omega) (by omega)
  have hB := Rk_len 4 i
  have n0 := fun L : List (List AV) => app_at0 (L := L) hB
  have s0 := fun (L : List (List AV)) z => app_set0 (L := L) (z := z) hB
  have e := parts_succ m.states.length i
  simp only [go_sem, hlt, hw, hB, n0, s0, List.length_map]
  refine ⟨by simp only [roomFor, parts_len]; omega, ?_⟩
  refine roundK.intro (i + 1) (by omega) (by omega) ?_
  simp only [go_sem, Rk_succ, e, List.map_append, List.map_cons, List.map_nil]
  exact leB_RkA ⟨leC_any _ 4 rfl, trivial⟩
 ·obtain rfl : i = m.places.length := by omega
  simp only [go_sem, hlt, List.length_map]
theorem con_rtypeOf (m : MD) (h : GoodM m) : Con Tryz.prog 85 [vM m] [] fun r _ => r = flatT 2 (partsP m.states.length m.places.length) :=
 con_rtypeOfP m h.pre
theorem con_rvalidLeaf (p : Int × Int) (d : Int) (hp : LeafP p) (hd : d ≠ 0) : Con Tryz.prog 149 [vPT p, vi d] [] fun r _ => r = vb true := by
 refine Con.intro Tryz.func149 rfl Tryz.ntmps149 Tryz.results149 (by kernel_rfl) (by simp) 0 (by simp) ?_
 have hd0 : (d == 0) = false := beq_eq_false_iff_ne.2 hd
 obtain ⟨k, s⟩ := p
 rcases hp with hp | ⟨rfl, h1, h2⟩
 ·cases hp
  simp only [go_sem, hd0]
 ·simp only [go_sem, hd0, h1, h2]
theorem con_rvalidFlat (ps : List (Int × Int)) (hl : 1 <= ps.length) (hl2 : ps.length <= 8) (hp : ∀ p ∈ ps, LeafP p) : Con Tryz.prog 149 [flatT 0 ps, vi 8] [] fun r _ => r = vb true := by
 refine Con.intro Tryz.func149 rfl Tryz.ntmps149 Tryz.results149 (by kernel_rfl) (by simp) 0 (by simp) ?_
 have a1 : ¬ ((ps.length : Int) < 1) := by omega
 have a2 : ¬ ((8 : Int) < (ps.length : Int)) := by omega
 simp only [go_sem, a1, a2]
 refine LoopK.intro (fun i : Nat => ⟨132, [(1, vi 8), (2, .pb 0 0), (5, vi i)], [[vi 3, vi 0, .nil, .sl 0 4 (ps.map vPT)]]⟩)
  (fun i => ps.length - i) (fun i => i <= ps.length) 0 (by omega) ?_ ?_
 ·simp only [go_sem]
 rintro i hi
 by_cases h : i < ps.length
 ·have hg := getPT h
  have hw : IntKind.i64.wrap (i + 1) = i + 1 := wrap_in (by omega) (by omega)
  simp only [go_sem, h, hg]
  refine CallU.free (con_rvalidLeaf ps[i]! 7 (hp _ (mem_bangI h)) (by omega)) (by simp only [go_sem]) (by simp only [go_sem]; rfl) ?_
  rintro r bx rfl
  simp only [go_sem, hw]
  refine roundK.intro (i + 1) (by omega) (by omega) ?_
  simp only [go_sem]
 ·simp only [go_sem, h]
theorem con_rtcheck (ps : List (Int × Int)) (hl : 1 <= ps.length) (hl2 : ps.length <= 8) (hp : ∀ p ∈ ps, LeafP p) : Con Tryz.prog 110 [flatT 0 ps] [] fun r _ => r = vi 0 := by
 refine Con.intro Tryz.func110 rfl Tryz.ntmps110 Tryz.results110 (by kernel_rfl) (by simp) 0 (by simp) ?_
 simp only [go_sem]
 refine CallU.free (con_rvalidFlat ps hl hl2 hp) (by simp only [go_sem]) (by simp only [go_sem]) ?_
 rintro r bx rfl
 simp only [go_sem]
theorem con_rsizeLeaf (v : CV) (most : Int) (hk : v.kids = []) : Con Tryz.prog 111 [vV v, vi most] [] fun r _ => r = vi 1 := by
 rw [vV_eq]
 refine Con.intro Tryz.func111 rfl Tryz.ntmps111 Tryz.results111 (by kernel_rfl) (by simp) 0 (by simp) ?_
 rw [hk]
 simp only [go_sem, List.map_nil]
 refine LoopK.intro (fun _ : Nat => ⟨31, [(1, vi most), (2, .pb 0 0), (5, vi 1), (6, vi 0)], [[vi v.n, .sl 0 2 []]]⟩) (fun i => i) (fun _ => True) 0 trivial ?_ ?_
 ·simp only [go_sem]
 rintro i _
 simp only [go_sem, List.length_nil]
theorem con_rsize (v : CV) (hk : ∀ x ∈ v.kids, x.kids = []) (hl : v.kids.length <= 100) : Con Tryz.prog 111 [vV v, vi 128] [] fun r _ => r = vi (1 + v.kids.length) := by
 rw [vV_eq]
 refine Con.intro Tryz.func111 rfl Tryz.ntmps111 Tryz.results111 (by kernel_rfl) (by simp) 0 (by simp) ?_
 simp only [go_sem]
 refine LoopK.intro (fun i : Nat => ⟨31, [(1, vi 128), (2, .pb 0 0), (5, vi (1 + i)), (6, vi i)], [[vi v.n, .sl 0 2 (v.kids.map vV)]]⟩) (fun i => v.kids.length - i) (fun i => i <= v.kids.length) 0 (by omega) ?_ ?_
 ·simp only [go_sem]
  all_goals exact leV_refl _
 rintro i hi
 by_cases h : i < v.kids.length
 ·have hg := getvV h
  have hw : IntKind.i64.wrap (i + 1) = i + 1 := wrap_in (by omega) (by omega)
  have hw2 : IntKind.i64.wrap (1 + (i : Int) + 1) = 1 + (i + 1) := by rw [wrap_in (by omega) (by omega)]; omega
  have hw3 : IntKind.i64.wrap (128 - (1 + (i : Int))) = 128 - (1 + i) := wrap_in (by omega) (by omega)
  have h8 : 1 + (i : Int) <= 128 := by omega
  simp only [go_sem, h, h8, hg, hw3]
  refine CallU.free (con_rsizeLeaf v.kids[i]! (128 - (1 + i)) (hk _ (mem_bangI h))) (by simp only [go_sem]) (by simp only [go_sem, vV_eq]) ?_
  rintro r bx rfl
  simp only [go_sem, hw, hw2]
  refine roundK.intro (i + 1) (by omega) (by omega) ?_
  simp only [go_sem]
 ·have e : i = v.kids.length := by omega
  subst e
  simp only [go_sem, h]
theorem con_rofLeaf (p : Int × Int) (v : CV) (hp : LeafP p) (h : leafOk p v = true) : Con Tryz.prog 112 [vPT p, vV v] [] fun r _ => r = vb true := by
 rw [vV_eq]
 refine Con.intro Tryz.func112 rfl Tryz.ntmps112 Tryz.results112 (by kernel_rfl) (by simp) 0 (by simp) ?_
 obtain ⟨k, s⟩ := p
 rcases hp with hp | ⟨rfl, h1, h2⟩
 ·cases hp
  unfold leafOk at h
  rw [if_pos rfl] at h
  simp only [Bool.and_eq_true, decide_eq_true_eq, beq_iff_eq] at h
  obtain ⟨⟨g1, g2⟩, g3⟩ := h
  have e : v.kids = [] := List.eq_nil_of_length_eq_zero g3
  simp only [go_sem, g1, g2, e, List.map_nil, List.length_nil]
 ·unfold leafOk at h
  rw [if_neg (show ¬ ((2 : Int) = 1) by decide)] at h
  simp only [Bool.and_eq_true, decide_eq_true_eq, beq_iff_eq] at h
  obtain ⟨⟨g1, g2⟩, g3⟩ := h
  have e : v.kids = [] := List.eq_nil_of_length_eq_zero g3
  simp only [go_sem, g1, g2, e, List.map_nil, List.length_nil]
theorem con_rofFlat (ps : List (Int × Int)) (v : CV) (hp : ∀ p ∈ ps, LeafP p) (hl : ps.length <= 1000000) (h : flatOk ps v = true) : Con Tryz.prog 112 [flatT 0 ps, vV v] [] fun r _ => r = vb true := by
 rw [vV_eq]
 refine Con.intro Tryz.func112 rfl Tryz.ntmps112 Tryz.results112 (by kernel_rfl) (by simp) 0 (by simp) ?_
 unfold flatOk at h
 simp only [Bool.and_eq_true, beq_iff_eq, decide_eq_true_eq, List.all_eq_true, List.mem_range] at h
 obtain ⟨⟨g1, g2⟩, g3⟩ := h
 have hn : ((v.kids.length : Int) != (ps.length : Int)) = false := by rw [g2]; simp
 simp only [go_sem, g1, hn]
 refine LoopK.intro (fun i : Nat => ⟨169, [(2, .pb 0 0), (3, .pb 1 0), (5, vi i)], [[vi 3, vi 0, .nil, .sl 0 4 (ps.map vPT)], [vi 0, .sl 0 2 (v.kids.map vV)]]⟩) (fun i => v.kids.length - i) (fun i => i <= v.kids.length) 0 (by omega) ?_ ?_
 ·simp only [go_sem]
  all_goals exact leB_self _
 rintro i hi
 by_cases h : i < v.kids.length
 ·have hip : i < ps.length := by omega
  have hg := getvV h
  have hg2 := getPT hip
  have hw : IntKind.i64.wrap (i + 1) = i + 1 := wrap_in (by omega) (by omega)
  simp only [go_sem, h]
  refine DrawK.walk 12 mixed (by kernel_rfl) ?_
  simp only [go_sem, h, hip, hg, hg2]
  refine CallY.mk (con_rofLeaf ps[i]! v.kids[i]! (hp _ (mem_bangI hip)) (g3 i hip)) (by simp only [go_sem, vV_eq]) (by simp only [go_sem]) (.inl (by simp only [go_sem])) ?_
  simp only [go_sem, hw]
  refine roundK.intro (i + 1) (by omega) (by omega) ?_
  simp only [go_sem]
 ·simp only [go_sem, h]
theorem con_rvalid (ns np : Nat) (v : CV) (h1 : 1 <= ns) (h2 : ns <= 16) (h3 : np <= 7) (hc : confB ns np v = true) : Con Tryz.prog 84 [flatT 0 (partsP ns np), vV v] [] fun r _ => r = vb true := by
 have e0 := vV_eq v
 rw [e0]
 refine Con.intro Tryz.func84 rfl Tryz.ntmps84 Tryz.results84 (by kernel_rfl) (by simp) 0 (by simp) ?_
 obtain ⟨_, hlen⟩ := conf_ok (by omega) hc
 have hkids : ∀ x ∈ v.kids, x.kids = [] := by
  intro x hx
  have hf := hc
  rw [<- conf_flat] at hf
  unfold flatOk at hf
  simp only [Bool.and_eq_true, beq_iff_eq, decide_eq_true_eq, List.all_eq_true, List.mem_range] at hf
  obtain ⟨i, hi, e⟩ := List.getElem_of_mem hx
  have h4 := hf.2 i (by omega)
  rw [getElem!_pos v.kids i hi, e] at h4
  unfold leafOk at h4
  split at h4
  ·simp only [Bool.and_eq_true, beq_iff_eq] at h4; exact List.eq_nil_of_length_eq_zero h4.2
  ·simp only [Bool.and_eq_true, beq_iff_eq] at h4; exact List.eq_nil_of_length_eq_zero h4.2
 simp only [go_sem]
 refine CallU.free (con_rtcheck (partsP ns np) (by rw [parts_len]; omega) (by rw [parts_len]; omega) (parts_leaf h1 h2)) (by simp only [go_sem]) (by simp only [go_sem]) ?_
 rintro r bx rfl
 simp only [go_sem]
 refine CallU.free (con_rsize v hkids (by omega)) (by simp only [go_sem]) (by simp only [go_sem, vV_eq]) ?_
 rintro r bx rfl
 have h8 : 1 + (v.kids.length : Int) <= 128 := by omega
 simp only [go_sem, h8]
 refine CallU.free (con_rofFlat (partsP ns np) v (parts_leaf h1 h2) (by rw [parts_len]; omega) (by rw [conf_flat]; exact hc)) (by simp only [go_sem]) (by simp only [go_sem, vV_eq]) ?_
 rintro r bx rfl
 simp only [go_sem]
theorem con_rmcheck (m : MD) (h : GoodM m) : Con Tryz.prog 75 [vM m] [] fun r _ => r = vi 0 := by
 refine Con.intro Tryz.func75 rfl Tryz.ntmps75 Tryz.results75 (by kernel_rfl) (by simp) 0 (by simp) ?_
 have h1 := h.states; have h2 := h.places; have h3 := h.few
 have hk := h.kind
 have b1 := con_rbetween 1 1 6
 rw [between_true (by omega) (by omega)] at b1
 simp only [go_sem, vM, cM, vss, hk]
 refine CallU.free b1 (by simp only [go_sem]) (by simp only [go_sem]) ?_
 rintro r bx rfl
 simp only [go_sem]
 refine CallU.free (con_rnumbers m h) (by simp only [go_sem]) (by simp only [go_sem, vM, cM, vss, hk]) ?_
 rintro r bx rfl
 simp only [go_sem]
 refine CallU.free (con_rranks m h) (by simp only [go_sem]) (by simp only [go_sem, vM, cM, vss, hk]) ?_
 rintro r bx rfl
 simp only [go_sem]
 refine CallU.free (con_rnames m h) (by simp only [go_sem]) (by simp only [go_sem, vM, cM, vss, hk]) ?_
 rintro r bx rfl
 simp only [go_sem]
 refine LoopK.intro (fun i : Nat => ⟨52, [(1, .pb 0 0), (2, vi 0), (3, vi i)], [[vi 1, .sl 0 1 (m.states.map vStr), .sl 0 1 (m.places.map vStr), .sl 0 1 (m.letters.map vStr), vs 0 m.ranks, vi m.levels, vi m.age, .sl 0 14 (m.rules.map vRule), vi m.start.n, .sl 0 2 (m.start.kids.map vV)]]⟩)
  (fun i => m.rules.length - i) (fun i => i <= m.rules.length) 0 (by omega) ?_ ?_
 ·simp only [go_sem]
 rintro i hi
 by_cases hlt : i < m.rules.length
 ·have hg := getRule hlt
  have hw : IntKind.i64.wrap (i + 1) = i + 1 := wrap_in (by omega) (by omega)
  simp only [go_sem, hlt]
  refine DrawK.walk 8 mixed (by kernel_rfl) ?_
  simp only [go_sem, hlt, hg]
  refine CallY.mk (con_rright m m.rules[i]! h (mem_bangI hlt)) (by simp only [go_sem, vM, cM, vss, hk]) (by simp only [go_sem]) (.inl (by simp only [go_sem])) ?_
  simp only [go_sem, hw]
  refine roundK.intro (i + 1) (by omega) (by omega) ?_
  simp only [go_sem]
 ·simp only [go_sem, hlt]
  refine DrawK.walk 6 mixed (by kernel_rfl) ?_
  simp only [go_sem]
  refine CallY.mk (con_rtypeOf m h) (by simp only [go_sem, vM, cM, vss, hk]) (by simp only [go_sem]) (.inl (by simp only [go_sem])) ?_
  simp only [go_sem]
  refine CallY.mk (con_rvalid m.states.length m.places.length m.start (by omega) (by omega) (by omega) h.start) (by simp only [go_sem, vV_eq]) (by simp only [go_sem]) (.inr (by simp only [go_sem])) ?_
  simp only [go_sem]
theorem con_rmvalid (m : MD) (c : CV) (h : GoodM m) (hc : confB m.states.length m.places.length c = true) : Con Tryz.prog 66 [vM m, vV c] [] fun r _ => r = vb true := by
 rw [vV_eq c]
 refine Con.intro Tryz.func66 rfl Tryz.ntmps66 Tryz.results66 (by kernel_rfl) (by simp) 0 (by simp) ?_
 have h1 := h.states; have h2 := h.places
 simp only [go_sem, vM, cM, vss]
 refine DrawK.walk 10 mixed (by kernel_rfl) ?_
 simp only [go_sem]
 refine CallY.mk (con_rmcheck m h) (by simp only [go_sem, vM, cM, vss]) (by simp only [go_sem]) (.inl (by simp only [go_sem])) ?_
 simp only [go_sem]
 refine CallY.mk (con_rtypeOf m h) (by simp only [go_sem, vM, cM, vss]) (by simp only [go_sem]) (.inl (by simp only [go_sem])) ?_
 simp only [go_sem]
 refine CallY.mk (con_rvalid m.states.length m.places.length c (by omega) (by omega) (by omega) hc) (by simp only [go_sem, vV_eq]) (by simp only [go_sem]) (.inr (by simp only [go_sem])) ?_
 simp only [go_sem]
theorem con_rplain (m : MD) (h : GoodM m) (hs : m.rules.all stillB = true) : Con Tryz.prog 53 [vM m] [] fun r _ => r = vi 0 := by
 refine Con.intro Tryz.func53 rfl Tryz.ntmps53 Tryz.results53 (by kernel_rfl) (by simp) 0 (by simp) ?_
 have h3 := h.few
 have hk := h.kind
 simp only [go_sem, vM, cM, vss, hk]
 refine CallU.free (con_rmcheck m h) (by simp only [go_sem]) (by simp only [go_sem, vM, cM, vss, hk]) ?_
 rintro r bx rfl
 simp only [go_sem]
 refine LoopK.intro (fun i : Nat => ⟨28, [(1, .pb 0 0), (4, vi i)], [[vi 1, .sl 0 1 (m.states.map vStr), .sl 0 1 (m.places.map vStr), .sl 0 1 (m.letters.map vStr), vs 0 m.ranks, vi m.levels, vi m.age, .sl 0 14 (m.rules.map vRule), vi m.start.n, .sl 0 2 (m.start.kids.map vV)]]⟩)
  (fun i => m.rules.length - i) (fun i => i <= m.rules.length) 0 (by omega) ?_ ?_
 ·simp only [go_sem]
 rintro i hi
 by_cases hlt : i < m.rules.length
 ·have hg := getRule hlt
  have hw : IntKind.i64.wrap (i + 1) = i + 1 := wrap_in (by omega) (by omega)
  have hst := List.all_eq_true.1 hs _ (mem_bangI hlt)
  unfold stillB at hst
  rw [beq_iff_eq] at hst
  have hmv : m.rules[i]!.move = [] := List.eq_nil_of_length_eq_zero hst
  simp only [go_sem, hlt, hg, hmv, hw, List.map_nil, List.length_nil]
  refine roundK.intro (i + 1) (by omega) (by omega) ?_
  simp only [go_sem]
 ·simp only [go_sem, hlt]
theorem tail_step {L : List CV} {i : Nat} (h1 : 1 <= i) (h : i < L.length) : ((L.take (i + 1)).drop 1).map CV.n = ((L.take i).drop 1).map CV.n ++ [L[i]!.n] := by
 rw [List.take_add_one, List.getElem?_eq_getElem h, getElem!_pos L i h, Option.toList, List.drop_append_of_le_length (by rw [List.length_take]; omega), List.map_append]; rfl
theorem con_rNumbers (n : Int) (x : CV) (l : List CV) (hl : l.length <= 1000000) : Con Tryz.prog 15 [.ag [vi n, .sl 0 2 ((x :: l).map vV)]] [] fun r _ => r = vs 2 (l.map CV.n) := by
 refine Con.intro Tryz.func15 rfl Tryz.ntmps15 Tryz.results15 (by kernel_rfl) (by simp) 0 (by simp) ?_
 obtain ⟨L, hL⟩ : ∃ L, L = x :: l := ⟨_, rfl⟩
 have hLl : L.length = l.length + 1 := by rw [hL]; rfl
 have e : l.map CV.n = ((L.take L.length).drop 1).map CV.n := by rw [List.take_length, hL]; rfl
 rw [e, <- hL]
 simp only [go_sem]
 refine LoopK.intro (fun i : Nat => ⟨22, [(1, .pb 0 0), (3, vs 1344 (((L.take i).drop 1).map CV.n)), (4, vi i)], [[vi n, .sl 0 2 (L.map vV)]]⟩) (fun i => L.length - i) (fun i => 1 <= i /\ i <= L.length) 1 ⟨by omega, by omega⟩ ?_ ?_
 ·have e1 : (L.take 1).drop 1 = [] := by rw [hL]; rfl
  simp only [go_sem, e1, List.map_nil]
  all_goals exact leV_int rfl
 rintro i ⟨hi1, hi⟩
 by_cases h : i < L.length
 ·have hg := getvV h
  have hw : IntKind.i64.wrap (i + 1) = i + 1 := wrap_in (by omega) (by omega)
  have hr : roomFor (((L.take i).drop 1).length + 1) 8 := by simp only [roomFor, List.length_drop, List.length_take]; omega
  have e2 := tail_step hi1 h
  simp only [go_sem, h, hg, hw, hr]
  refine roundK.intro (i + 1) ⟨by omega, by omega⟩ (by omega) ?_
  simp only [go_sem, e2, List.map_append, List.map_cons, List.map_nil]
 ·obtain rfl : i = L.length := by omega
  simp only [go_sem, h]
theorem con_rkind (m : MD) (h : GoodM m) : Con Tryz.prog 65 [vM m] [] fun r _ => r = vi 0 := by
 refine Con.intro Tryz.func65 rfl Tryz.ntmps65 Tryz.results65 (by kernel_rfl) (by simp) 0 (by simp) ?_
 have hk := h.kind
 simp only [go_sem, vM, cM, vss, hk]
 refine CallU.free (con_rmcheck m h) (by simp only [go_sem]) (by simp only [go_sem, vM, cM, vss, hk]) ?_
 rintro r bx rfl
 simp only [go_sem]
theorem con_rquiet (m : MD) (c : CV) (h : GoodM m) (hc : confB m.states.length m.places.length c = true) : Con Tryz.prog 86 [vM m, vV c] [] fun r _ => r = .tup [.nil, vi 0] := by
 have e0 := vV_eq c
 rw [e0]
 refine Con.intro Tryz.func86 rfl Tryz.ntmps86 Tryz.results86 (by kernel_rfl) (by simp) 0 (by simp) ?_
 have hk := h.kind
 simp only [go_sem, vM, cM, vss, hk]
 refine CallU.free (con_rkind m h) (by simp only [go_sem]) (by simp only [go_sem, vM, cM, vss, hk]) ?_
 rintro r bx rfl
 simp only [go_sem]
 refine CallU.free (con_rmvalid m c h hc) (by simp only [go_sem]) (by simp only [go_sem, vM, cM, vss, hk, e0]) ?_
 rintro r bx rfl
 simp only [go_sem]
theorem con_rfault (m : MD) (i : Nat) (h : GoodM m) (hi : i < m.rules.length) : Con Tryz.prog 163 [vM m, vi i] [] fun r _ => r = vi 0 := by
 refine Con.intro Tryz.func163 rfl Tryz.ntmps163 Tryz.results163 (by kernel_rfl) (by simp) 0 (by simp) ?_
 have hk := h.kind
 have a1 : ¬ ((i : Int) < 0) := by omega
 have a2 : ¬ ((m.rules.length : Int) <= (i : Int)) := by omega
 simp only [go_sem, vM, cM, vss, hk]
 refine CallU.free (con_rmcheck m h) (by simp only [go_sem]) (by simp only [go_sem, vM, cM, vss, hk]) ?_
 rintro r bx rfl
 simp only [go_sem, a1, a2, List.length_map]
def enF (r : RD) (s : Nat) (v : List Int) : Bool := ((s : Int) == r.src) && (List.range r.need.length).all fun i => decide (r.need[i]! <= v[i]!)
theorem cfg_kid {s : Nat} {v : List Int} {i : Nat} (h : i < v.length) : ((cfgC s v).kids.map vV)[i + 1]? = some (.ag [.sc (.int .i64 v[i]!), .sl 0 2 []]) := by
 show ((CV.mk s [] :: v.map fun n => CV.mk n []).map vV)[i + 1]? = _
 rw [List.map_cons, List.getElem?_cons_succ, List.getElem?_map, List.getElem?_map, List.getElem?_eq_getElem h, getElem!_pos v i h]
 show some (vV (CV.mk v[i] [])) = _
 rw [vV_eq]; rfl
theorem cfg_first {s : Nat} {v : List Int} : ((cfgC s v).kids.map vV)[0]? = some (.ag [.sc (.int .i64 s), .sl 0 2 []]) := by
 show ((CV.mk s [] :: v.map fun n => CV.mk n []).map vV)[0]? = _
 rw [List.map_cons, List.getElem?_cons_zero, vV_eq]; rfl
theorem cfg_klen {s : Nat} {v : List Int} : (cfgC s v).kids.length = v.length + 1 := by
 show (CV.mk s [] :: v.map fun n => CV.mk n []).length = _
 simp
theorem con_renabled (r : RD) (s : Nat) (v : List Int) (hl : r.need.length = v.length) (h6 : v.length <= 6) : Con Tryz.prog 164 [vRule r, vV (cfgC s v)] [] fun x _ => x = vb (enF r s v) := by
 rw [vV_eq (cfgC s v)]
 refine Con.intro Tryz.func164 rfl Tryz.ntmps164 Tryz.results164 (by kernel_rfl) (by simp) 0 (by simp) ?_
 have g0 := cfg_first (s := s) (v := v)
 have kl := cfg_klen (s := s) (v := v)
 have k0 : 0 < (cfgC s v).kids.length := by rw [kl]; omega
 simp only [go_sem]
 refine DrawK.walk 8 mixed (by kernel_rfl) ?_
 simp only [go_sem, k0, g0]
 by_cases hs : (s : Int) = r.src
 case neg =>
  have hn : ((s : Int) != r.src) = true := bne_iff_ne.2 hs
  have e : enF r s v = false := by unfold enF; rw [beq_eq_false_iff_ne.2 hs]; rfl
  simp only [go_sem, hn, e]
 have hn : ((s : Int) != r.src) = false := by rw [hs]; simp
 simp only [go_sem, hn]
 refine LoopK.intro (fun i : Nat => ⟨34, [(2, .pb 0 0), (3, .pb 1 0), (5, vi i)], [[vStr r.name, vi r.src, vi r.dst, vs 0 r.need, vs 0 r.give, vs 0 r.move, vi r.channel, vi r.act, vi r.letter, vs 0 r.path, vs 0 r.next, .sl 0 3 (r.takes.map vTake), vs 0 r.makes, vi r.second], [vi (cfgC s v).n, .sl 0 2 ((cfgC s v).kids.map vV)]]⟩)
  (fun i => r.need.length - i) (fun i => i <= r.need.length /\ ∀ j, j < i -> r.need[j]! <= v[j]!) 0 ⟨by omega, fun j hj => by omega⟩ ?_ ?_
 ·simp only [go_sem]
  all_goals exact leB_self _
 rintro i ⟨hi, hb⟩
 by_cases h : i < r.need.length
 ·have hg := getv h
  have hk := cfg_kid (s := s) (v := v) (i := i) (by omega)
  have hkl : i + 1 < (cfgC s v).kids.length := by rw [kl]; omega
  have hw : IntKind.i64.wrap (i + 1) = i + 1 := wrap_in (by omega) (by omega)
  have hw2 : IntKind.i64.wrap (1 + (i : Int)) = ((i + 1 : Nat) : Int) := by rw [wrap_in (by omega) (by omega)]; omega
  simp only [go_sem, h]
  refine DrawK.walk 13 mixed (by kernel_rfl) ?_
  have ht : ((i : Int) + 1).toNat = i + 1 := by omega
  have hk2 : Option.map vV (cfgC s v).kids[i + 1]? = some (.ag [.sc (.int .i64 v[i]!), .sl 0 2 []]) := by rw [<- List.getElem?_map]; exact hk
  have hkl2 : (i : Int) + 1 < ((cfgC s v).kids.length : Int) := by omega
  simp only [go_sem, h, hg, hw2, ht, hk2, hkl2]
  refine ⟨by omega, ?_⟩
  by_cases hq : v[i]! < r.need[i]!
  ·have e : enF r s v = false := by
    unfold enF
    rw [Bool.and_eq_false_iff]
    right
    rw [List.all_eq_false]
    exact ⟨i, List.mem_range.2 h, by rw [decide_eq_false (by omega)]; simp⟩
   simp only [go_sem, hq, e]
  ·simp only [go_sem, hq, hw]
   refine roundK.intro (i + 1) ⟨by omega, fun j hj => ?_⟩ (by omega) ?_
   ·by_cases hji : j = i
    ·subst hji; omega
    ·exact hb j (by omega)
   ·simp only [go_sem]
 ·have e : enF r s v = true := by
   unfold enF
   rw [beq_iff_eq.2 hs, Bool.true_and, List.all_eq_true]
   intro j hj
   have := List.mem_range.1 hj
   exact decide_eq_true (hb j (by omega))
  simp only [go_sem, h, e]
end Go.AM
