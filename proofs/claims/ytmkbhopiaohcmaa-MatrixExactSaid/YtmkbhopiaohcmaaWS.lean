/-
  Walks: MatrixExact.
-/
import Derived.Test.YtmkbhopiaohcmaaWR
import Derived.Test.YtmkbhopiaohcmaaWF
namespace Go.AM
open Go Go.Proofs Go.RowKit

/-- less is known of the arguments -/
theorem Con.args {P : Program} {f : FuncId} {args args0 : List AV} {bx : List (List AV)} {post : AV → List (List AV) → Prop} (h : Con P f args bx post) (hl : leC args0 args) : Con P f args0 bx post :=
  ⟨h.1, fun G w vs h1 h2 h3 h4 h5 => h.2 G w vs h1 h2 h3 h4 (leC_pw hl h5)⟩

abbrev Mx := List (List Int)
def pairA (p : Mx × Mx) : AV := .ag [vm 0 p.1, vm 0 p.2]
/-- the variables of the first i rounds -/
def Bx (PS : List (Mx × Mx)) (i : Nat) : List (List AV) := (PS.take i).map fun p => [vm 0 p.1, vm 0 p.2]

theorem Bx_len {PS : List (Mx × Mx)} {i : Nat} (h : i ≤ PS.length) : (Bx PS i).length = i := by simp [Bx]; omega
theorem Bx_free {d : Nat} : ∀ (L : List (Mx × Mx)), freeB d (L.map fun p => [vm 0 p.1, vm 0 p.2]) = true
  | [] => rfl
  | p :: L => by
    have := Bx_free (d := d) L
    simp only [List.map_cons, freeB, this, Bool.and_true]
    simp [allLeafs, AV.allLeaf, freeLeaf, vm, root]
@[go_sem] theorem freeB_Bx {d i : Nat} {PS : List (Mx × Mx)} : freeB d (Bx PS i) = true := Bx_free _
theorem Bx_map {f : AV → AV} (hf : ∀ m, f (vm 0 m) = vm 0 m) : ∀ (L : List (Mx × Mx)), mapB f (L.map fun p => [vm 0 p.1, vm 0 p.2]) = L.map fun p => [vm 0 p.1, vm 0 p.2]
  | [] => rfl
  | p :: L => by
    have h1 := hf p.1
    have h2 := hf p.2
    simp only [vm] at h1 h2
    simp only [List.map_cons, mapB, mapTops, AV.mapTop, vm, h1, h2]
    have := Bx_map hf L
    simp only [vm] at this
    rw [this]
@[go_sem] theorem mapB_frz {p : Nat → Bool} {i : Nat} {PS : List (Mx × Mx)} : mapB (freezeLeaf p) (Bx PS i) = Bx PS i := Bx_map (fun m => by simp [vm, freezeLeaf]) _
@[go_sem] theorem mapB_kill {t : Nat} {i : Nat} {PS : List (Mx × Mx)} : mapB (killLeaf (t + 2)) (Bx PS i) = Bx PS i := Bx_map (fun m => by simp [vm, killLeaf]) _
theorem leC_refl : ∀ l : List AV, leC l l
  | [] => trivial
  | _ :: l => ⟨leV_refl _, leC_refl l⟩
theorem leB_refl : ∀ l : List (List AV), leB l l
  | [] => trivial
  | x :: l => ⟨leC_refl x, leB_refl l⟩
@[go_sem] theorem leB_Bx {i : Nat} {PS : List (Mx × Mx)} : leB (Bx PS i) (Bx PS i) = True := eq_true (leB_refl _)
theorem Bx_snoc {PS : List (Mx × Mx)} {i : Nat} (h : i < PS.length) {x : List AV} : (Bx PS i ++ [x]).set i [.sl 0 1 (PS[i]!.1.map (vs 0)), .sl 0 1 (PS[i]!.2.map (vs 0))] = Bx PS (i + 1) := by
  have hl := Bx_len (PS := PS) (i := i) (by omega)
  have e : (Bx PS i ++ [x]).set i [.sl 0 1 (PS[i]!.1.map (vs 0)), .sl 0 1 (PS[i]!.2.map (vs 0))] = Bx PS i ++ [[.sl 0 1 (PS[i]!.1.map (vs 0)), .sl 0 1 (PS[i]!.2.map (vs 0))]] := by
    rw [List.set_append_right _ _ (by omega), hl, Nat.sub_self]; rfl
  rw [e]
  unfold Bx
  rw [List.take_add_one, List.map_append, List.getElem?_eq_getElem h, ← getElem!_pos PS i h]; rfl
theorem Bx_new {PS : List (Mx × Mx)} {i : Nat} (h : i ≤ PS.length) {x : List AV} : (Bx PS i ++ [x])[i]? = some x := by
  have hl := Bx_len h
  rw [List.getElem?_append_right (by omega), hl, Nat.sub_self]; rfl
theorem Bx_last {PS : List (Mx × Mx)} {i : Nat} (h : i < PS.length) : (Bx PS (i + 1))[i]? = some [.sl 0 1 (PS[i]!.1.map (vs 0)), .sl 0 1 (PS[i]!.2.map (vs 0))] := by
  unfold Bx
  rw [List.getElem?_map, List.getElem?_take, if_pos (by omega), List.getElem?_eq_getElem h, ← getElem!_pos PS i h]; rfl

/-- a pair of results, of which less is known -/
theorem Con.tup {P : Program} {f : FuncId} {args : List AV} {bx : List (List AV)} {r r' : List AV} (h : Con P f args bx fun x _ => x = .tup r) (hl : leC r r') : Con P f args bx fun x _ => x = .tup r' :=
  ⟨h.1, fun G w vs h1 h2 h3 h4 h5 => (h.2 G w vs h1 h2 h3 h4 h5).mono fun e w' ⟨v, x, bx', G', he, hq, hr, rest⟩ => by
    subst hq
    obtain ⟨ws, rfl, hw⟩ := hr.tup_inv
    have := leC_pw hl hw
    exact ⟨_, _, bx', G', he, rfl, .tup _ _ this.1 this.2, rest⟩⟩

theorem fits_nil : Fits [] := ⟨by simp, by simp⟩
theorem trans_le {m : Mx} : leV (if (transR m).2 = 0 then vm 2 (transR m).1 else .nil) (vm 2 (transR m).1) ∧ leV (if (transR m).2 = 0 then vt 2 (transR m).1 else .nil) (vt 2 (transR m).1) ∧ Fits (transR m).1 := by
  unfold transR
  split
  · rename_i h; simp only [h, if_false]; exact ⟨leV_nil 2 1, leV_nilso (by omega), fits_nil⟩
  · rename_i h
    have hV := check_ok (by simpa using h)
    refine ⟨by simp only [if_true]; exact leV_refl _, by simp only [if_true]; exact leV_refl _, by have := hV.cle; simp only [transF, List.length_map, List.length_range]; omega, fun row hr => ?_⟩
    simp only [transF, List.mem_map] at hr
    obtain ⟨_, _, rfl⟩ := hr
    have := hV.le; simp only [List.length_map]; omega
theorem mult_le {a b : Mx} : leV (if (multR a b).2 = 0 then vt 2 (multR a b).1 else .nil) (vt 2 (multR a b).1) ∧ leV (if (multR a b).2 = 0 then vm 2 (multR a b).1 else .nil) (vm 2 (multR a b).1) ∧ Fits (multR a b).1 := by
  unfold multR
  split
  · rename_i h; simp only [h, if_false]; exact ⟨leV_nilso (by omega), leV_nil 2 1, fits_nil⟩
  · rename_i h
    have hV := check_ok (by simpa using h)
    split
    · rename_i h; simp only [h, if_false]; exact ⟨leV_nilso (by omega), leV_nil 2 1, fits_nil⟩
    · rename_i h
      have hW := check_ok (by simpa using h)
      split
      · exact ⟨leV_nilso (by omega), leV_nil 2 1, fits_nil⟩
      · refine ⟨by simp only [if_true]; exact leV_refl _, by simp only [if_true]; exact leV_refl _, by have := hV.le; simp only [multF, List.length_map]; omega, fun row hr => ?_⟩
        simp only [multF, List.mem_map] at hr
        obtain ⟨_, _, rfl⟩ := hr
        have := hW.cle; simp only [List.length_map, List.length_range]; omega
theorem kernGo_fits {m : Mx} {rows cols : List Int} {all : Int} {n : Nat} : ∀ f, (kernGo m rows cols all n f).length ≤ f ∧ ∀ row ∈ kernGo m rows cols all n f, row.length = n
  | 0 => by simp [kernGo]
  | f + 1 => by
    have ih := kernGo_fits (m := m) (rows := rows) (cols := cols) (all := all) (n := n) f
    simp only [kernGo]
    split
    · exact ⟨by omega, ih.2⟩
    · refine ⟨by simp; omega, fun row hr => ?_⟩
      rcases List.mem_append.1 hr with h | h
      · exact ih.2 row h
      · simp at h; subst h; rw [prim_len]; exact kvGo_len ..
theorem kern_le {m : Mx} : leV (if (kernF m).2 = 0 then vm 2 (kernF m).1 else .nil) (vm 2 (kernF m).1) ∧ Fits (kernF m).1 := by
  unfold kernF
  split
  · rename_i h
    have hV := check_ok h
    have := hV.cle
    have hg := kernGo_fits (m := m) (rows := (leadF m).1) (cols := (leadF m).2) (all := detF m (leadF m).1 (leadF m).2) (n := m[0]!.length) m[0]!.length
    exact ⟨by simp only [if_true]; exact leV_refl _, by dsimp only; omega, fun row hr => by rw [hg.2 row hr]; omega⟩
  · rename_i h; simp only [h, if_false]; exact ⟨leV_nil 2 1, fits_nil⟩
theorem apply_le {m : Mx} {v : List Int} (hm : Fits m) : leV (if (applyF m v).2 ≠ 0 then .nil else vs 2 (applyF m v).1) (vs 2 (applyF m v).1) ∧ (applyF m v).1.length ≤ 140737488355328 := by
  unfold applyF
  split
  · rename_i h; simp only [h, if_true]; exact ⟨leV_nil 2 1, by simp⟩
  · split
    · exact ⟨leV_nil 2 1, by simp⟩
    · split
      · exact ⟨leV_nil 2 1, by simp⟩
      · exact ⟨leV_refl _, by simp; exact hm.1⟩

theorem con_T1 (m : Mx) (hm : Fits m) : Con Try.prog 17 [vm 0 m] [] fun r _ => r = .tup [vm 2 (transR m).1, vi (transR m).2] := Con.tup (con_transpose m hm) ⟨trans_le.1, leV_refl _, trivial⟩
theorem con_T2 (m : Mx) (hm : Fits m) : Con Try.prog 21 [vm 0 m] [] fun r _ => r = .tup [vt 2 (transR m).1, vi (transR m).2] := Con.tup (con_refTranspose m hm) ⟨trans_le.2.1, leV_refl _, trivial⟩
theorem con_M1 (a b : Mx) (ha : Fits a) (hb : Fits b) : Con Try.prog 23 [vm 0 a, vm 0 b] [] fun r _ => r = .tup [vt 2 (multR a b).1, vi (multR a b).2] := Con.tup (con_multiply a b ha hb) ⟨mult_le.1, leV_refl _, trivial⟩
theorem con_M2 (a b : Mx) (ha : Fits a) (hb : Fits b) : Con Try.prog 24 [vm 0 a, vm 0 b] [] fun r _ => r = .tup [vm 2 (multR a b).1, vi (multR a b).2] := Con.tup (con_refMultiply a b ha hb) ⟨mult_le.2.1, leV_refl _, trivial⟩
theorem con_K1 (m : Mx) (hm : Fits m) : Con Try.prog 13 [vm 0 m] [] fun r _ => r = .tup [vm 2 (kernF m).1, vi (kernF m).2] := Con.tup (con_kernel m hm) ⟨kern_le.1, leV_refl _, trivial⟩
theorem con_K2 (m : Mx) (hm : Fits m) : Con Try.prog 25 [vm 0 m] [] fun r _ => r = .tup [vm 2 (kernF m).1, vi (kernF m).2] := Con.tup (con_refKernel m hm) ⟨kern_le.1, leV_refl _, trivial⟩
theorem con_A1 (m : Mx) (v : List Int) (hm : Fits m) (hv : v.length ≤ 140737488355328) : Con Try.prog 16 [vm 0 m, vs 0 v] [] fun r _ => r = .tup [vs 2 (applyF m v).1, vi (applyF m v).2] := Con.tup (con_apply m v hm hv) ⟨(apply_le hm).1, leV_refl _, trivial⟩
theorem con_A2 (m : Mx) (v : List Int) (hm : Fits m) (hv : v.length ≤ 140737488355328) : Con Try.prog 27 [vm 0 m, vs 0 v] [] fun r _ => r = .tup [vs 2 (applyF m v).1, vi (applyF m v).2] := Con.tup (con_refApply m v hm hv) ⟨(apply_le hm).1, leV_refl _, trivial⟩
theorem con_eqAll (a : Mx) (ha : Fits a) : Con Try.prog 22 [vm 0 a, vm 0 a] [] fun r _ => r = .sc (.bool true) := (con_sameAll a a ha).mono fun r bx h => by rw [h]; simp
theorem con_eq (a : List Int) (ha : a.length ≤ 140737488355328) : Con Try.prog 28 [vs 0 a, vs 0 a] [] fun r _ => r = .sc (.bool true) := (con_same a a ha).mono fun r bx h => by rw [h]; simp

set_option maxRecDepth 100000 in
theorem con_narrowL (m : Mx) (hl : m.length ≤ 9223372036854775807) : Con Try.prog 18 [vm 0 m] [] fun r _ => r = .sc (.bool (narrowF m)) := by
  refine Con.intro Try.func18 rfl Try.ntmps18 Try.results18 (by kernel_rfl) (by simp) 0 (by simp) ?_
  simp only [go_sem]
  refine LoopK.intro (fun i : Nat => ⟨19, [(0, vm 0 m), (5, vi m.length), (6, vi i)], []⟩)
    (fun i => m.length - i) (fun i => i ≤ m.length ∧ ∀ j, j < i → (decide (20 < m[j]!.length)) = false) 0 ⟨by omega, fun j hj => by omega⟩ ?_ ?_
  · simp only [go_sem]
  rintro i ⟨hi, hb⟩
  by_cases h : i < m.length
  · have hg := getm h
    have hw : IntKind.i64.wrap (i + 1) = i + 1 := wrap_in (by omega) (by omega)
    by_cases hn : 20 < m[i]!.length
    · simp only [go_sem, h, hg, hn, narrowF]
      rw [any_stop h (by simp only [hn, decide_true])]; rfl
    · simp only [go_sem, h, hg, hn, hw]
      refine roundK.intro (i + 1) ⟨by omega, fun j hj => ?_⟩ (by omega) ?_
      · by_cases hji : j = i
        · rw [hji]; exact decide_eq_false hn
        · exact hb j (by omega)
      · simp only [go_sem]
  · have e := any_none (p := fun r : List Int => decide (20 < r.length)) (fun j hj => hb j (by omega))
    simp only [go_sem, h, narrowF, e]

theorem narrow_fits {m : Mx} (h : narrowF m = true) : Fits m := by
  unfold narrowF at h
  rw [Bool.and_eq_true] at h
  obtain ⟨h1, h2⟩ := h
  have h2 : m.length ≤ 20 := by simpa using h2
  refine ⟨by omega, fun row hr => ?_⟩
  have h1 : m.any (fun r => decide (20 < r.length)) = false := by simpa using h1
  rw [List.any_eq_false] at h1
  have := h1 row hr
  simp at this; omega

set_option maxRecDepth 100000 in
set_option maxHeartbeats 4000000 in
theorem con_exactLaw (l : List Int) (a b : Mx) (v : List Int) (hal : a.length ≤ 9223372036854775807) (hbl : b.length ≤ 9223372036854775807) : Con Try.prog 6 [vs 0 l, vm 0 a, vm 0 b, vs 0 v] [] fun r _ => r = .sc (.bool true) := by
  refine Con.intro Try.func6 rfl Try.ntmps6 Try.results6 (by kernel_rfl) (by simp) 0 (by simp) ?_
  simp only [go_sem]
  refine CallU.free awake (by simp only [go_sem]) (by simp only [go_sem]) ?_
  rintro r bx rfl
  simp only [go_sem]
  refine CallU.free (con_few l 0 (by omega)) (by simp only [go_sem]) (by simp only [go_sem]) ?_
  rintro r bx rfl
  by_cases hf : ¬ l.length ≤ 400
  · simp only [go_sem, hf]
    refine CallU.free awake (by simp only [go_sem]) (by simp only [go_sem]) ?_
    rintro r bx rfl
    simp only [go_sem]
  have hf : l.length ≤ 400 := by omega
  have hl : l.length ≤ 140737488355328 := by omega
  simp only [go_sem, hf]
  refine CallU.free (con_narrowL a hal) (by simp only [go_sem]) (by simp only [go_sem]) ?_
  rintro r bx rfl
  cases hna : narrowF a
  · simp only [go_sem]
    refine CallU.free awake (by simp only [go_sem]) (by simp only [go_sem]) ?_
    rintro r bx rfl
    simp only [go_sem]
  simp only [go_sem]
  refine CallU.free (con_narrowL b hbl) (by simp only [go_sem]) (by simp only [go_sem]) ?_
  rintro r bx rfl
  cases hnb : narrowF b
  · simp only [go_sem]
    refine CallU.free awake (by simp only [go_sem]) (by simp only [go_sem]) ?_
    rintro r bx rfl
    simp only [go_sem]
  by_cases hvl : 20 < v.length
  · simp only [go_sem, hvl]
    refine CallU.free awake (by simp only [go_sem]) (by simp only [go_sem]) ?_
    rintro r bx rfl
    simp only [go_sem]
  simp only [go_sem, hvl]
  have ha := narrow_fits hna
  have hb := narrow_fits hnb
  have hv : v.length ≤ 140737488355328 := by omega
  refine CallU.news (bx0 := []) (con_new l) (by simp only [go_sem]) (by simp only [go_sem]) (by simp only [go_sem]) (by simp only [go_sem]) (by simp only [go_sem]) ?_
  rintro r bx ⟨rfl, rfl⟩
  simp only [go_sem]
  refine CallU.boxes (i := 0) (is := []) (bx0 := [deckA l 0 11400714819323198485]) (con_next l 0 11400714819323198485 6 (by omega) hl (by omega)) (by simp only [go_sem]) (by simp only [go_sem]) (by simp only [go_sem]) (by simp only [go_sem]) (by simp only [go_sem]) ?_
  rintro r bx ⟨v1, a1, s1, rfl, p1, p2, p3, rfl⟩
  obtain ⟨n, hn, hn1, hn4⟩ : ∃ n : Nat, IntKind.i64.wrap (1 + v1) = n ∧ 1 ≤ n ∧ n ≤ 6 := ⟨(1 + v1).toNat, by rw [wrap_in (by omega) (by omega)]; omega, by omega, by omega⟩
  simp only [go_sem, hn]
  refine CallU.boxes (i := 0) (is := []) (bx0 := [deckA l a1 s1]) (con_next l a1 s1 12 p3 hl (by omega)) (by simp only [go_sem]) (by simp only [go_sem]) (by simp only [go_sem]) (by simp only [go_sem]) (by simp only [go_sem]) ?_
  rintro r bx ⟨v2, a2, s2, rfl, q1, q2, q3, rfl⟩
  obtain ⟨c, hc, hc1, hc4⟩ : ∃ c : Nat, IntKind.i64.wrap (1 + v2) = c ∧ 1 ≤ c ∧ c ≤ 12 := ⟨(1 + v2).toNat, by rw [wrap_in (by omega) (by omega)]; omega, by omega, by omega⟩
  simp only [go_sem, hc]
  refine CallU.boxes (i := 0) (is := []) (bx0 := [deckA l a2 s2]) (con_matrix l a2 s2 n c q3 hl (by omega) (by omega)) (by simp only [go_sem]) (by simp only [go_sem]) (by simp only [go_sem]) (by simp only [go_sem]) (by simp only [go_sem]) ?_
  rintro _ bx ⟨X, a3, s3, rfl, m1, m2, m3, rfl⟩
  simp only [go_sem]
  refine CallU.boxes (i := 0) (is := []) (bx0 := [deckA l a3 s3]) (con_next l a3 s3 6 m3 hl (by omega)) (by simp only [go_sem]) (by simp only [go_sem]) (by simp only [go_sem]) (by simp only [go_sem]) (by simp only [go_sem]) ?_
  rintro r bx ⟨v3, a4, s4, rfl, e1, e2, e3, rfl⟩
  obtain ⟨d, hd, hd1, hd4⟩ : ∃ d : Nat, IntKind.i64.wrap (1 + v3) = d ∧ 1 ≤ d ∧ d ≤ 6 := ⟨(1 + v3).toNat, by rw [wrap_in (by omega) (by omega)]; omega, by omega, by omega⟩
  simp only [go_sem, hd]
  refine CallU.boxes (i := 0) (is := []) (bx0 := [deckA l a4 s4]) (con_matrix l a4 s4 c d e3 hl (by omega) (by omega)) (by simp only [go_sem]) (by simp only [go_sem]) (by simp only [go_sem]) (by simp only [go_sem]) (by simp only [go_sem]) ?_
  rintro _ bx ⟨Y, a5, s5, rfl, y1, y2, y3, rfl⟩
  simp only [go_sem]
  refine CallU.boxes (i := 0) (is := []) (bx0 := [deckA l a5 s5]) (con_matrix l a5 s5 c n y3 hl (by omega) (by omega)) (by simp only [go_sem]) (by simp only [go_sem]) (by simp only [go_sem]) (by simp only [go_sem]) (by simp only [go_sem]) ?_
  rintro _ bx ⟨Z, a6, s6, rfl, z1, z2, z3, rfl⟩
  simp only [go_sem]
  refine CallU.boxes (i := 0) (is := []) (bx0 := [deckA l a6 s6]) (con_matrix l a6 s6 (7 : Nat) (7 : Nat) z3 hl (by omega) (by omega)) (by simp only [go_sem]) (by simp only [go_sem]) (by simp only [go_sem]) (by simp only [go_sem]; try rfl) (by simp only [go_sem]) ?_
  rintro _ bx ⟨U, a7, s7, rfl, u1, u2, u3, rfl⟩
  simp only [go_sem]
  have okf : ∀ {M : Mx} {r k : Nat}, M.length = r → (∀ row ∈ M, RowOk k row) → r ≤ 12 → k ≤ 12 → Fits M := fun h1 h2 h3 h4 => ⟨by omega, fun row hr => by rw [(h2 row hr).1]; omega⟩
  have hXf := okf m1 m2 (by omega) (by omega)
  have hYf := okf y1 y2 (by omega) (by omega)
  have hZf := okf z1 z2 (by omega) (by omega)
  have hUf := okf u1 u2 (by omega) (by omega)
  obtain ⟨PS, hPS⟩ : ∃ PS : List (Mx × Mx), PS = [(a, b), (X, Y), (Z, X), (X, a), (U, X)] := ⟨_, rfl⟩
  have hPl : PS.length = 5 := by rw [hPS]; rfl
  have hPf : ∀ i, i < 5 → Fits PS[i]!.1 ∧ Fits PS[i]!.2 := fun i hi => by
    have h : i = 0 ∨ i = 1 ∨ i = 2 ∨ i = 3 ∨ i = 4 := by omega
    rw [hPS]
    rcases h with rfl | rfl | rfl | rfl | rfl
    · exact ⟨ha, hb⟩
    · exact ⟨hXf, hYf⟩
    · exact ⟨hZf, hXf⟩
    · exact ⟨hXf, ha⟩
    · exact ⟨hUf, hXf⟩
  refine LoopK.intro (fun p : Nat × Nat × Int => ⟨215, [(3, vs 0 v), (9, .pb 0 0), (11, vi c), (90, .sl 5824 2 (PS.map pairA)), (91, vi 5), (92, vi p.1)], deckA l p.2.1 p.2.2 :: Bx PS p.1⟩)
    (fun p => 5 - p.1) (fun p => p.1 ≤ 5 ∧ p.2.1 ≤ l.length) (0, a7, s7) ⟨by omega, u3⟩ ?_ ?_
  · simp only [go_sem, Bx, List.take_zero, List.map_nil, hPS, List.map_cons, pairA]
  rintro ⟨i, at_, st⟩ ⟨hi, hat⟩
  simp only at hi hat
  by_cases h : i < 5
  case neg =>
    have h5 : ¬ ((i : Int) < 5) := by omega
    simp only [go_sem, h5]
  have h5 : (i : Int) < 5 := by omega
  have hBl := Bx_len (PS := PS) (i := i) (by omega)
  have hgP : (PS.map pairA)[i]? = some (.ag [.sl 0 1 (PS[i]!.1.map (vs 0)), .sl 0 1 (PS[i]!.2.map (vs 0))]) := by
    rw [List.getElem?_map, List.getElem?_eq_getElem (by omega), ← getElem!_pos PS i (by omega)]; rfl
  have hil : i < PS.length := by omega
  have hBn := fun x => Bx_new (PS := PS) (i := i) (x := x) (by omega)
  have hBs := fun x => Bx_snoc (PS := PS) (i := i) (x := x) hil
  have hBx := Bx_last hil
  obtain ⟨hf1, hf2⟩ := hPf i h
  simp only [go_sem, h5, hgP, hil, hBl, hBn, hBs, hBx]
  refine DrawK.walk 6 mixed (by kernel_rfl) ?_
  obtain ⟨m, hm⟩ : ∃ m, m = PS[i]!.1 := ⟨_, rfl⟩
  obtain ⟨o, ho⟩ : ∃ o, o = PS[i]!.2 := ⟨_, rfl⟩
  rw [← hm] at hf1
  rw [← ho] at hf2
  rw [← hm, ← ho] at hBx
  simp only [go_sem, hBx, ← hm, ← ho]
  refine CallU.free (con_check m hf1) (by simp only [go_sem]) (by simp only [go_sem]) ?_
  rintro r bx rfl
  simp only [go_sem]
  refine CallU.free (con_refCheck m hf1) (by simp only [go_sem]) (by simp only [go_sem]) ?_
  rintro r bx rfl
  simp only [go_sem, bne_self_eq_false]
  refine CallU.free (con_T1 m hf1) (by simp only [go_sem]) (by simp only [go_sem]) ?_
  rintro r bx rfl
  simp only [go_sem]
  refine CallU.free (con_T2 m hf1) (by simp only [go_sem]) (by simp only [go_sem]) ?_
  rintro r bx rfl
  simp only [go_sem, bne_self_eq_false]
  refine CallU.flat (con_eqAll (transR m).1 trans_le.2.2) (by simp only [go_sem]) (by simp only [go_sem]) ?_
  rintro r bx rfl
  simp only [go_sem]
  refine CallU.free (con_M1 m o hf1 hf2) (by simp only [go_sem]) (by simp only [go_sem]) ?_
  rintro r bx rfl
  simp only [go_sem]
  refine CallU.free (con_M2 m o hf1 hf2) (by simp only [go_sem]) (by simp only [go_sem]) ?_
  rintro r bx rfl
  simp only [go_sem, bne_self_eq_false]
  refine CallU.flat (con_eqAll (multR m o).1 mult_le.2.2) (by simp only [go_sem]) (by simp only [go_sem]) ?_
  rintro r bx rfl
  simp only [go_sem]
  refine CallU.free (con_K1 m hf1) (by simp only [go_sem]) (by simp only [go_sem]) ?_
  rintro r bx rfl
  simp only [go_sem]
  refine CallU.free (con_K2 m hf1) (by simp only [go_sem]) (by simp only [go_sem]) ?_
  rintro r bx rfl
  simp only [go_sem, bne_self_eq_false]
  refine CallU.flat (con_eqAll (kernF m).1 kern_le.2) (by simp only [go_sem]) (by simp only [go_sem]) ?_
  rintro r bx rfl
  simp only [go_sem]
  refine CallU.free (con_rank m hf1) (by simp only [go_sem]) (by simp only [go_sem]) ?_
  rintro r bx rfl
  simp only [go_sem]
  refine CallU.free (con_refRank m hf1) (by simp only [go_sem]) (by simp only [go_sem]) ?_
  rintro r bx rfl
  simp only [go_sem, bne_self_eq_false]
  refine CallU.boxes (i := 0) (is := []) (bx0 := [deckA l at_ st]) (con_small l at_ st c 9 hat hl (by omega) (by omega) (by omega)) (by simp only [go_sem]) (by simp only [go_sem]) (by simp only [go_sem]) (by simp only [go_sem]) (by simp only [go_sem]) ?_
  rintro _ bx ⟨w2, at2, st2, rfl, w1, w3, w4, rfl⟩
  simp only [go_sem, List.append_nil]
  obtain ⟨VS, hVS⟩ : ∃ VS : Mx, VS = [v, w2] := ⟨_, rfl⟩
  have hVl : VS.length = 2 := by rw [hVS]; rfl
  have hVf : ∀ k, k < 2 → VS[k]!.length ≤ 140737488355328 := fun k hk => by
    have h : k = 0 ∨ k = 1 := by omega
    rw [hVS]
    rcases h with rfl | rfl
    · exact hv
    · show w2.length ≤ _; omega
  have hwi : IntKind.i64.wrap (i + 1) = i + 1 := wrap_in (by omega) (by omega)
  refine LoopK.intro (fun k : Nat => ⟨215, [(3, vs 0 v), (9, .pb 0 0), (11, vi c), (15, vm 0 m), (90, .sl 5824 2 (PS.map pairA)), (91, vi 5), (92, vi i), (186, vm 11968 VS), (187, vi 2), (188, vi k)], deckA l at2 st2 :: Bx PS (i + 1)⟩)
    (fun k => 2 - k) (fun k => k ≤ 2) 0 (by omega) ?_ ?_
  · simp only [go_sem, hVS, List.map_cons, List.map_nil, vs]
  intro k hk
  by_cases h2 : k < 2
  case neg =>
    have h2' : ¬ ((k : Int) < 2) := by omega
    simp only [go_sem, h2', hwi]
    refine roundK.intro (i + 1, at2, st2) ⟨by omega, w4⟩ (by simp only; omega) ?_
    simp only [go_sem]
  have h2' : (k : Int) < 2 := by omega
  have hkl : k < VS.length := by omega
  have hgk := getm hkl
  have hvk := hVf k h2
  have hwk : IntKind.i64.wrap (k + 1) = k + 1 := wrap_in (by omega) (by omega)
  simp only [go_sem, h2', hkl, hgk]
  refine CallU.free (con_A1 m VS[k]! hf1 hvk) (by simp only [go_sem]) (by simp only [go_sem]) ?_
  rintro r bx rfl
  simp only [go_sem]
  refine CallU.free (con_A2 m VS[k]! hf1 hvk) (by simp only [go_sem]) (by simp only [go_sem]) ?_
  rintro r bx rfl
  simp only [go_sem, bne_self_eq_false]
  refine CallU.flat (con_eq (applyF m VS[k]!).1 (apply_le hf1).2) (by simp only [go_sem]) (by simp only [go_sem]) ?_
  rintro r bx rfl
  simp only [go_sem, hwk]
  refine roundK.intro (k + 1) (by omega) (by omega) ?_
  simp only [go_sem]
end Go.AM
