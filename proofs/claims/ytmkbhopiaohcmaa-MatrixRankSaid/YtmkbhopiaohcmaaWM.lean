/-
  The walk of MatrixRank.
-/
import Derived.Test.YtmkbhopiaohcmaaWK
import Derived.Test.YtmkbhopiaohcmaaWG
import Derived.Test.YtmkbhopiaohcmaaLd
namespace Go.AM
open Go Go.Proofs Go.RowKit

theorem rank_small {m : List (List Int)} {n c : Nat} (hn : m.length = n) (h1 : 1 ≤ n) (h2 : n ≤ 6) (h3 : 1 ≤ c) (h4 : c ≤ 12) (hm : ∀ row ∈ m, RowOk c row) : rankF m = ((rkF m : Int), 0) := by
  have := check_small hn h1 h2 h3 h4 hm
  simp [rankF, this, rkF]
theorem valid_small {m : List (List Int)} {n c : Nat} (hn : m.length = n) (h1 : 1 ≤ n) (h2 : n ≤ 6) (h3 : 1 ≤ c) (h4 : c ≤ 12) (hm : ∀ row ∈ m, RowOk c row) : Valid m := check_ok (check_small hn h1 h2 h3 h4 hm)

def Three (c : Nat) (row : List Int) : Prop := row.length = c ∧ ∀ x ∈ row, -3 ≤ x ∧ x ≤ 3
theorem Three.ok {c : Nat} {row : List Int} (h : Three c row) : RowOk c row := ⟨h.1, fun x hx => by have := h.2 x hx; omega⟩
theorem Three.at {c : Nat} {row : List Int} (h : Three c row) {i : Nat} (hi : i < c) : -3 ≤ row[i]! ∧ row[i]! ≤ 3 := h.2 _ (mem_at (by rw [h.1]; exact hi))
theorem mapAt {α β : Type} [Inhabited α] [Inhabited β] {f : α → β} {l : List α} {i : Nat} (h : i < l.length) : (l.map f)[i]! = f l[i]! := by simp [h]
theorem rangeAt {n j : Nat} (h : j < n) : (List.range n)[j]! = j := by rw [getElem!_pos (List.range n) j (by rw [List.length_range]; exact h)]; simp
theorem mix_ok {m : List (List Int)} {c : Nat} (hl : 2 ≤ m.length) (h : ∀ row ∈ m, Three c row) : RowOk c (mixF m) := by
  have h0 := h m[0]! (mem_at (by omega))
  have h1 := h m[1]! (mem_at (by omega))
  refine ⟨by simp only [mixF, List.length_map, List.length_range]; exact h0.1, fun x hx => ?_⟩
  simp only [mixF, List.mem_map, List.mem_range] at hx
  obtain ⟨k, hk, rfl⟩ := hx
  rw [h0.1] at hk
  have := h0.at hk
  have := h1.at hk
  omega
theorem trans_len {m : List (List Int)} {c : Nat} (h0 : m[0]!.length = c) : (transF m).length = c := by simp only [transF, List.length_map, List.length_range, h0]
theorem trans_at {m : List (List Int)} {f : Nat} (hf : f < m[0]!.length) : (transF m)[f]! = m.map fun row => row[f]! := by
  simp only [transF]
  rw [mapAt (by rw [List.length_range]; exact hf), rangeAt hf]
theorem trans_ok {m : List (List Int)} {c : Nat} (h0 : m[0]!.length = c) (h : ∀ row ∈ m, Three c row) : ∀ row ∈ transF m, RowOk m.length row := by
  intro row hr
  simp only [transF, List.mem_map, List.mem_range] at hr
  obtain ⟨j, hj, rfl⟩ := hr
  refine ⟨by simp, fun x hx => ?_⟩
  simp only [List.mem_map] at hx
  obtain ⟨y, hy, rfl⟩ := hx
  have := (h y hy).at (show j < c by omega)
  omega
theorem three_of {m : List (List Int)} {c : Nat} {f : Int → Int} (hf : ∀ x, -3 ≤ f x ∧ f x ≤ 3) (h : ∀ row ∈ m, RowOk c row) : ∀ row ∈ m.map (fun r => r.map f), Three c row := by
  intro row hr
  simp only [List.mem_map] at hr
  obtain ⟨r, hr, rfl⟩ := hr
  refine ⟨by simp [(h r hr).1], fun x hx => ?_⟩
  simp only [List.mem_map] at hx
  obtain ⟨y, _, rfl⟩ := hx
  exact hf y

theorem modify_vs {l : List (List Int)} {i : Nat} {x : List Int} : (l.map (vs 0)).modify i (updElem 0 [.sl 0 1 (x.map vi)]) = (l.set i x).map (vs 0) := by
  apply List.ext_getElem?
  intro j
  rw [List.getElem?_modify, List.getElem?_map, List.getElem?_map, List.getElem?_set]
  by_cases h : i = j
  · subst h
    by_cases hi : i < l.length
    · simp [hi, updElem, vs]
    · simp [hi]
  · simp [h]

def clip3 (x : Int) : Int := min 3 (max (-3) x)

set_option maxRecDepth 100000 in
set_option maxHeartbeats 4000000 in
theorem con_rankLaw (l : List Int) : Con Try.prog 5 [vs 0 l] [] fun r _ => r = .sc (.bool true) := by
  refine Con.intro Try.func5 rfl Try.ntmps5 Try.results5 (by kernel_rfl) (by simp) 0 (by simp) ?_
  simp only [go_sem]
  refine CallU.free awake (by simp only [go_sem]) (by simp only [go_sem]) ?_
  rintro r bx rfl
  simp only [go_sem]
  refine CallU.free (con_few l 0 (by omega)) (by simp only [go_sem]) (by simp only [go_sem]) ?_
  rintro r bx rfl
  by_cases hf : ¬ l.length ≤ 400
  · simp only [go_sem, hf]
    refine CallU.free awake (by simp only [go_sem]) (by simp only [go_sem]) ?_
    rintro r bx rfl
    simp only [go_sem]
  have hf : l.length ≤ 400 := by omega
  have hl : l.length ≤ 140737488355328 := by omega
  simp only [go_sem, hf]
  refine CallU.news (bx0 := []) (con_new l) (by simp only [go_sem]) (by simp only [go_sem]) (by simp only [go_sem]) (by simp only [go_sem]) (by simp only [go_sem]) ?_
  rintro r bx ⟨rfl, rfl⟩
  simp only [go_sem]
  refine CallU.boxes (i := 0) (is := []) (bx0 := [deckA l 0 11400714819323198485]) (con_next l 0 11400714819323198485 3 (by omega) hl (by omega)) (by simp only [go_sem]) (by simp only [go_sem]) (by simp only [go_sem]) (by simp only [go_sem]) (by simp only [go_sem]) ?_
  rintro r bx ⟨v1, a1, s1, rfl, p1, p2, p3, rfl⟩
  obtain ⟨n, hn, hn1, hn4⟩ : ∃ n : Nat, IntKind.i64.wrap (2 + v1) = n ∧ 2 ≤ n ∧ n ≤ 4 := ⟨(2 + v1).toNat, by rw [wrap_in (by omega) (by omega)]; omega, by omega, by omega⟩
  simp only [go_sem, hn]
  refine CallU.boxes (i := 0) (is := []) (bx0 := [deckA l a1 s1]) (con_next l a1 s1 4 p3 hl (by omega)) (by simp only [go_sem]) (by simp only [go_sem]) (by simp only [go_sem]) (by simp only [go_sem]) (by simp only [go_sem]) ?_
  rintro r bx ⟨v2, a2, s2, rfl, q1, q2, q3, rfl⟩
  obtain ⟨c, hc, hc1, hc4⟩ : ∃ c : Nat, IntKind.i64.wrap (1 + v2) = c ∧ 1 ≤ c ∧ c ≤ 4 := ⟨(1 + v2).toNat, by rw [wrap_in (by omega) (by omega)]; omega, by omega, by omega⟩
  simp only [go_sem, hc]
  refine CallU.boxes (i := 0) (is := []) (bx0 := [deckA l a2 s2]) (con_matrixT l a2 s2 n c q3 hl (by omega) (by omega)) (by simp only [go_sem]) (by simp only [go_sem]) (by simp only [go_sem]) (by simp only [go_sem]) (by simp only [go_sem]) ?_
  rintro _ bx ⟨m, a3, s3, rfl, m1, m2, m3, rfl⟩
  simp only [go_sem, m1]
  refine LoopK.intro (fun i : Nat => ⟨172, [(4, vi n), (5, vt 2562 (upTo (fun r => r.map clip3) m i)), (41, vi n), (42, vi i)], [[.any, .any, .any]]⟩)
    (fun i => n - i) (fun i => i ≤ n) 0 (by omega) ?_ ?_
  · simp only [go_sem, upTo_zero]
  intro i hi
  by_cases h : i < n
  · have h' : i < m.length := by omega
    have hwi : IntKind.i64.wrap (i + 1) = i + 1 := wrap_in (by omega) (by omega)
    have hgi := gett (t := 2562) (i := i) (M := upTo (fun r => r.map clip3) m i) (by rw [upTo_len]; exact h')
    rw [upTo_at h'] at hgi
    have hri := (m2 m[i]! (mem_at h')).1
    simp only [go_sem, h, h', hgi, upTo_len]
    refine LoopK.intro (fun k : Nat => ⟨172, [(4, vi n), (5, vt 2562 ((upTo (fun r => r.map clip3) m i).set i (upTo clip3 m[i]! k))), (6, vi i), (41, vi n), (42, vi i), (49, vi m[i]!.length), (50, vi k)], [[.any, .any, .any]]⟩)
      (fun k => m[i]!.length - k) (fun k => k ≤ m[i]!.length) 0 (by omega) ?_ ?_
    · have e : (upTo (fun r => r.map clip3) m i).set i m[i]! = upTo (fun r => r.map clip3) m i := by
        have := setSelf (l := upTo (fun r => r.map clip3) m i) (k := i)
        rw [upTo_at h'] at this; exact this
      simp only [go_sem, upTo_zero, e]
    intro k hk
    have hl1 : i < (upTo (fun r => r.map clip3) m i).length := by rw [upTo_len]; exact h'
    have hg := gett (t := 2562) (i := i) (M := (upTo (fun r => r.map clip3) m i).set i (upTo clip3 m[i]! k)) (by rw [List.length_set]; exact hl1)
    rw [setAt hl1] at hg
    by_cases hk2 : k < m[i]!.length
    · have hwk : IntKind.i64.wrap (k + 1) = k + 1 := wrap_in (by omega) (by omega)
      have hgk := getv (l := upTo clip3 m[i]! k) (i := k) (by rw [upTo_len]; exact hk2)
      rw [upTo_at hk2] at hgk
      have hcl : min 3 (max (-3) m[i]![k]!) = clip3 m[i]![k]! := rfl
      simp only [go_sem, hk2]
      refine DrawK.walk 15 mixed (by kernel_rfl) ?_
      simp only [go_sem, h, h', hk2, hg, hgk, upTo_len, List.length_set, hcl, hwk]
      refine roundK.intro (k + 1) (by omega) (by omega) ?_
      simp only [go_sem, setAt hl1, List.set_set, upTo_set hk2]
    · have hkl : k = m[i]!.length := by omega
      subst hkl
      simp only [go_sem, hk2, hwi]
      refine roundK.intro (i + 1) (by omega) (by omega) ?_
      simp only [go_sem]
      exact leV_so (by
        have := upTo_set (f := fun r => List.map clip3 r) h'
        rw [upTo_end, this])
  have hil : i = m.length := by omega
  subst hil
  obtain ⟨M, hM⟩ : ∃ M, M = m.map fun r => r.map clip3 := ⟨_, rfl⟩
  simp only [go_sem, h, upTo_end, ← hM]
  have hMl : M.length = n := by rw [hM, List.length_map, m1]
  have hM3 : ∀ row ∈ M, Three c row := by rw [hM]; exact three_of (fun x => by simp only [clip3]; omega) m2
  have hMo : ∀ row ∈ M, RowOk c row := fun row hr => (hM3 row hr).ok
  have hM0 : M[0]!.length = c := (hM3 _ (mem_at (by omega))).1
  have hM1 : M[1]!.length = c := (hM3 _ (mem_at (by omega))).1
  have hMf : Fits M := ⟨by omega, fun row hr => by rw [(hM3 row hr).1]; omega⟩
  have hV := valid_small hMl (by omega) (by omega) (by omega) (by omega) hMo
  obtain ⟨X, hX⟩ : ∃ X, X = transF M := ⟨_, rfl⟩
  have hXl : X.length = c := by rw [hX]; exact trans_len hM0
  have hXo : ∀ row ∈ X, RowOk n row := by rw [hX, ← hMl]; exact trans_ok hM0 hM3
  have hX0 : X[0]!.length = n := (hXo _ (mem_at (by omega))).1
  have hXf : Fits X := ⟨by omega, fun row hr => by rw [(hXo row hr).1]; omega⟩
  have hVX := valid_small hXl (by omega) (by omega) (by omega) (by omega) hXo
  have hmo := mix_ok (m := M) (by omega) hM3
  have hYo : ∀ row ∈ M ++ [mixF M], RowOk c row := fun row hr => by
    rcases List.mem_append.1 hr with h | h
    · exact hMo row h
    · simp at h; subst h; exact hmo
  have hYl : (M ++ [mixF M]).length = n + 1 := by simp [hMl]
  have hYf : Fits (M ++ [mixF M]) := ⟨by omega, fun row hr => by rw [(hYo row hr).1]; omega⟩
  have hVY := valid_small hYl (by omega) (by omega) (by omega) (by omega) hYo
  have hZo : ∀ row ∈ M.set 0 (mixF M), RowOk c row := fun row hr => by
    rcases List.mem_or_eq_of_mem_set hr with h | h
    · exact hMo row h
    · subst h; exact hmo
  have hZl : (M.set 0 (mixF M)).length = n := by simp [hMl]
  have hZf : Fits (M.set 0 (mixF M)) := ⟨by omega, fun row hr => by rw [(hZo row hr).1]; omega⟩
  have hVZ := valid_small hZl (by omega) (by omega) (by omega) (by omega) hZo
  have eX : rkF X = rkF M := rk_flip hV hVX (by omega) (by omega) fun i f hi hf => by
    rw [hX, trans_at hf, mapAt hi]
  have eY := rk_more hV hVY (by omega)
  have eZ := rk_set hV hVZ (by omega)
  have hsm := rk_small M
  rw [hMl, hM0] at hsm
  have hzM : (rowsA 2562 M).map (freezeRow fun t => t == 2562) = M.map (vs 0) := rowsA_freeze (by decide)
  refine CallU.freeze (con_transpose M hMf) (by simp only [go_sem]) (by simp only [go_sem]) ?_
  rintro _ bx rfl
  have etr : transR M = (X, 0) := by
    unfold transR
    rw [check_small hMl (by omega) (by omega) (by omega) (by omega) hMo, ← hX]; simp
  rw [etr]
  simp only [go_sem, vpairm, hzM]
  refine CallU.free (con_rank M hMf) (by simp only [go_sem]) (by simp only [go_sem]) ?_
  rintro _ bx rfl
  rw [rank_small hMl (by omega) (by omega) (by omega) (by omega) hMo]
  simp only [go_sem]
  refine CallU.flat (con_rank X hXf) (by simp only [go_sem]) (by simp only [go_sem]) ?_
  rintro _ bx rfl
  rw [rank_small hXl (by omega) (by omega) (by omega) (by omega) hXo]
  have hg0 := getm (l := M) (i := 0) (by omega)
  have hg1 := getm (l := M) (i := 1) (by omega)
  have h0M : 0 < M.length := by omega
  have h1M : 1 < M.length := by omega
  simp only [go_sem, hg0, h0M]
  refine LoopK.intro (fun k : Nat => ⟨172, [(4, vi n), (5, vm 0 M), (9, vi 0), (10, vi (rkF M)), (11, vi 0), (12, vi (rkF X)), (13, vi 0), (14, .sl 6976 1 (((mixF M).take k).map vi)), (88, vi M[0]!.length), (89, vi k)], [[.any, .any, .any]]⟩)
    (fun k => c - k) (fun k => k ≤ c) 0 (by omega) ?_ ?_
  · simp only [go_sem]
  intro k hk
  by_cases hkc : k < c
  · have hk0 := getv (l := M[0]!) (i := k) (by omega)
    have hk1 := getv (l := M[1]!) (i := k) (by omega)
    have b0 := (hM3 M[0]! (mem_at (by omega))).at hkc
    have b1 := (hM3 M[1]! (mem_at (by omega))).at hkc
    have hwk : IntKind.i64.wrap (k + 1) = k + 1 := wrap_in (by omega) (by omega)
    have hw1 : IntKind.i64.wrap ((2 : Int) * M[1]![k]!) = (2 : Int) * M[1]![k]! := wrap_in (by omega) (by omega)
    have hw2 : IntKind.i64.wrap (M[0]![k]! + (2 : Int) * M[1]![k]!) = M[0]![k]! + (2 : Int) * M[1]![k]! := wrap_in (by omega) (by omega)
    simp only [go_sem, hM0, hkc]
    refine DrawK.walk 16 mixed (by kernel_rfl) ?_
    simp only [go_sem, h0M, h1M, hg0, hg1, hM0, hM1, hkc, hk0, hk1, hw1, hw2, hwk]
    refine ⟨by simp [roomFor, mixF]; omega, roundK.intro (k + 1) (by omega) (by omega) ?_⟩
    simp only [go_sem, hM0]
    refine leV_sl ?_
    have hml : k < (mixF M).length := by rw [hmo.1]; exact hkc
    have e : (mixF M).take (k + 1) = (mixF M).take k ++ [M[0]![k]! + (2 : Int) * M[1]![k]!] := by
      rw [List.take_add_one, List.getElem?_eq_getElem hml, ← getElem!_pos (mixF M) k hml, mix_at (by omega)]; rfl
    rw [e, List.map_append]; rfl
  have hkc' : k = c := by omega
  subst hkc'
  have e : (mixF M).take k = mixF M := List.take_of_length_le (by rw [hmo.1]; exact Nat.le_refl _)
  simp only [go_sem, hM0, hkc, e]
  refine ⟨by simp [roomFor]; omega, by simp [roomFor]; omega, ?_⟩
  have emap : M.map (vs 0) ++ [AV.sl 0 1 ((mixF M).map vi)] = (M ++ [mixF M]).map (vs 0) := by rw [List.map_append]; rfl
  rw [emap]
  refine CallU.flat (con_rank (M ++ [mixF M]) hYf) (by simp only [go_sem]) (by simp only [go_sem]) ?_
  rintro _ bx rfl
  rw [rank_small hYl (by omega) (by omega) (by omega) (by omega) hYo, eY]
  simp only [go_sem]
  refine ⟨by simp [roomFor]; omega, by omega, ?_⟩
  rw [modify_vs]
  refine CallU.flat (con_rank (M.set 0 (mixF M)) hZf) (by simp only [go_sem]) (by simp only [go_sem]) ?_
  rintro _ bx rfl
  rw [rank_small hZl (by omega) (by omega) (by omega) (by omega) hZo, eZ, eX]
  simp only [go_sem, h0M, hg0, hM0]
  rw [decide_eq_true (by omega : rkF M ≤ min n k)]
end Go.AM
