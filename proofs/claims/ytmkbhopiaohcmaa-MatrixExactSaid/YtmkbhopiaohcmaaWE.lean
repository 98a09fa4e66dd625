/-
  Walks: Kernel.
-/
import Derived.Test.YtmkbhopiaohcmaaWD
namespace Go.AM
open Go Go.Proofs Go.RowKit

def amtF (x : Int) : Int := max x (w64 (-x))
/-- Cramer's vector for the free column f, its first k leading places laid -/
def kvGo (m : List (List Int)) (rows cols : List Int) (all : Int) (f n : Nat) : Nat → List Int
  | 0 => (List.replicate n 0).set f (amtF all)
  | k + 1 => (kvGo m rows cols all f n k).set cols[k]!.toNat (if all < 0 then w64 (0 - w64 (0 - detF m rows (cols.set k f))) else w64 (0 - detF m rows (cols.set k f)))
theorem kvGo_len (m : List (List Int)) (rows cols : List Int) (all : Int) (f n : Nat) : ∀ k, (kvGo m rows cols all f n k).length = n
  | 0 => by simp [kvGo]
  | k + 1 => by simp [kvGo, kvGo_len m rows cols all f n k]
def kvF (m : List (List Int)) (rows cols : List Int) (all : Int) (f n : Nat) : List Int := kvGo m rows cols all f n cols.length
def kernGo (m : List (List Int)) (rows cols : List Int) (all : Int) (n : Nat) : Nat → List (List Int)
  | 0 => []
  | f + 1 => if (cols.any fun x => (f : Int) == x) = true then kernGo m rows cols all n f else kernGo m rows cols all n f ++ [primF (kvF m rows cols all f n)]
def kernF (m : List (List Int)) : List (List Int) × Int :=
  if checkF m = 0 then (kernGo m (leadF m).1 (leadF m).2 (detF m (leadF m).1 (leadF m).2) m[0]!.length m[0]!.length, 0) else ([], checkF m)
def vpairm (r : List (List Int) × Int) : AV := .tup [if r.2 = 0 then vm 2 r.1 else .nil, vi r.2]

theorem Valid.slight {m : List (List Int)} (h : Valid m) : Slight m := fun row hr x hx => (h.row row hr).2 x hx

theorem set_at {l : List Int} {i : Nat} {x : Int} (h : i < l.length) : (l.set i x)[i]! = x := by
  rw [getElem!_pos _ _ (by simpa using h)]; simp

theorem set_ne {l : List Int} {i j : Nat} {x : Int} (h : i ≠ j) : (l.set i x)[j]! = l[j]! := by
  by_cases hj : j < l.length
  · rw [getElem!_pos _ _ (by simpa using hj), getElem!_pos l j hj, List.getElem_set_ne h]
  · rw [getElem!_neg _ _ (by simpa using hj), getElem!_neg l j hj]
@[go_sem] theorem rep_vi {n : Nat} {x : Int} : List.replicate n (AV.sc (.int .i64 x)) = (List.replicate n x).map vi := by simp [vi]
theorem kv_bound {m : List (List Int)} {rows cols : List Int} {all : Int} {f n : Nat} (hall : -4611686018427387904 ≤ all ∧ all ≤ 4611686018427387904) (hd : ∀ k, k < cols.length → -1000000000000 ≤ detF m rows (cols.set k f) ∧ detF m rows (cols.set k f) ≤ 1000000000000) :
    ∀ k, k ≤ cols.length → ∀ x ∈ kvGo m rows cols all f n k, -4611686018427387904 ≤ x ∧ x ≤ 4611686018427387904
  | 0, _, x, hx => by
    simp only [kvGo] at hx
    rcases List.mem_or_eq_of_mem_set hx with h | h
    · have := List.eq_of_mem_replicate h; omega
    · have e : w64 (-all) = -all := wrap_in (by omega) (by omega)
      rw [h, amtF, e]; omega
  | k + 1, hk, x, hx => by
    simp only [kvGo] at hx
    have := hd k (by omega)
    have e : w64 (0 - detF m rows (cols.set k f)) = 0 - detF m rows (cols.set k f) := wrap_in (by omega) (by omega)
    have e2 : w64 (0 - (0 - detF m rows (cols.set k f))) = 0 - (0 - detF m rows (cols.set k f)) := wrap_in (by omega) (by omega)
    rw [e, e2] at hx
    rcases List.mem_or_eq_of_mem_set hx with h | h
    · exact kv_bound hall hd k (by omega) x h
    · split at h <;> omega

theorem kv_free {m : List (List Int)} {rows cols : List Int} {all : Int} {f n : Nat} (hf : f < n) (hnf : ∀ x ∈ cols, x.toNat ≠ f) : ∀ k, k ≤ cols.length → (kvGo m rows cols all f n k)[f]! = amtF all
  | 0, _ => by simp only [kvGo]; exact set_at (by simpa using hf)
  | k + 1, hk => by
    have h1 := kv_free (m := m) (rows := rows) (all := all) hf hnf k (by omega)
    have h2 := hnf cols[k]! (mem_at (by omega))
    have hl := kvGo_len m rows cols all f n k
    rw [← h1]
    simp only [kvGo]
    exact set_ne h2

set_option maxRecDepth 100000 in
set_option maxHeartbeats 4000000 in
theorem con_kernel (m : List (List Int)) (hm : Fits m) : Con Try.prog 13 [vm 0 m] [] fun r _ => r = vpairm (kernF m) := by
  refine Con.intro Try.func13 rfl Try.ntmps13 Try.results13 (by kernel_rfl) (by simp) 0 (by simp) ?_
  simp only [go_sem]
  refine CallU.free (con_check m hm) (by simp only [go_sem]) (by simp only [go_sem]) ?_
  rintro r bx rfl
  by_cases h1 : checkF m ≠ 0
  · have hb : (checkF m != 0) = true := bne_iff_ne.2 h1
    simp only [go_sem, hb, vpairm, kernF, h1]
  have h1 : checkF m = 0 := by omega
  have hV := check_ok h1
  have hle := hV.le
  have hcle := hV.cle
  have hp := hV.pos
  have hg0 := getm hp
  obtain ⟨n, hn⟩ : ∃ n, n = m[0]!.length := ⟨_, rfl⟩
  obtain ⟨L1, L2, L3, L4⟩ := lead_len hV
  obtain ⟨R, hR⟩ : ∃ R, R = (leadF m).1 := ⟨_, rfl⟩
  obtain ⟨C, hC⟩ : ∃ C, C = (leadF m).2 := ⟨_, rfl⟩
  obtain ⟨D, hD⟩ : ∃ D, D = detF m R C := ⟨_, rfl⟩
  have hW : Wide n m := by rw [hn]; exact hV.wide
  simp only [go_sem, h1]
  refine CallU.free (con_leading m n (by omega) hp (by omega) hW) (by simp only [go_sem]) (by simp only [go_sem]) ?_
  rintro r bx rfl
  rw [← hR] at L1 L2 L3
  rw [← hC] at L2 L4
  rw [← hR, ← hC]
  rw [← hn] at L4
  have hdet : ∀ cols, Below n cols → cols.length ≤ 6 → -1000000000000 ≤ detF m R cols ∧ detF m R cols ≤ 1000000000000 := fun cols hc hcl => by
    obtain ⟨e1, e2, e3⟩ := det_eq m n hW hV.slight R cols L3 hc L1 hcl
    have : (96 : Int) ^ R.length ≤ 1000000000000 := by
      have h : R.length = 0 ∨ R.length = 1 ∨ R.length = 2 ∨ R.length = 3 ∨ R.length = 4 ∨ R.length = 5 ∨ R.length = 6 := by omega
      rcases h with h | h | h | h | h | h | h <;> rw [h] <;> decide
    omega
  have hDb := hdet C L4 (by omega)
  rw [← hD] at hDb
  have hDne : D ≠ 0 := by rw [hD, hR, hC]; exact lead_ne m _
  simp only [go_sem]
  refine CallU.free (con_det m n (by omega) (by omega) hW R C L3 L4 (by omega) (by omega)) (by simp only [go_sem]) (by simp only [go_sem]) ?_
  rintro r bx rfl
  rw [← hD]
  simp only [go_sem, hp, hg0, ← hn]
  refine LoopK.intro (fun f : Nat => ⟨87, [(0, vm 0 m), (5, vs 0 R), (6, vs 0 C), (7, vi D), (8, vm 5440 (kernGo m R C D n f)), (31, vi n), (32, vi f)], []⟩)
    (fun f => n - f) (fun f => f ≤ n ∧ (kernGo m R C D n f).length ≤ f) 0 ⟨by omega, by simp [kernGo]⟩ ?_ ?_
  · simp only [go_sem, kernGo, List.map_nil]
  rintro f ⟨hf, hkl⟩
  by_cases h : f < n
  · have hwf : IntKind.i64.wrap (f + 1) = f + 1 := wrap_in (by omega) (by omega)
    simp only [go_sem, h]
    refine CallU.free (con_contains C f (by omega)) (by simp only [go_sem]) (by simp only [go_sem]) ?_
    rintro r bx rfl
    cases hc : C.any fun x => (f : Int) == x
    · have hnf : ∀ x ∈ C, x.toNat ≠ f := fun x hx hxf => by
        rw [List.any_eq_false] at hc
        have := L4 x hx
        exact hc x hx (by simp; omega)
      simp only [go_sem, hc, hp, hg0, ← hn]
      refine ⟨by omega, by omega, by omega, ?_⟩
      refine CallU.free (con_amount D) (by simp only [go_sem]) (by simp only [go_sem]) ?_
      rintro r bx rfl
      have ha : max D (w64 (-D)) = amtF D := rfl
      simp only [go_sem, h, ha, List.length_map, List.length_replicate]
      refine LoopK.intro (fun k : Nat => ⟨87, [(0, vm 0 m), (5, vs 0 R), (6, vs 0 C), (7, vi D), (8, vm 5440 (kernGo m R C D n f)), (9, vi f), (31, vi n), (32, vi f), (10, vs 2752 (kvGo m R C D f n k)), (48, vs 0 C), (49, vi C.length), (50, vi k)], []⟩)
        (fun k => C.length - k) (fun k => k ≤ C.length) 0 (by omega) ?_ ?_
      · simp only [go_sem, kvGo]
      intro k hk
      by_cases h2 : k < C.length
      · have hgk := getv h2
        have hwk : IntKind.i64.wrap (k + 1) = k + 1 := wrap_in (by omega) (by omega)
        have hck := L4.at h2
        have hct : C[k]!.toNat < n := by omega
        have hkv := kvGo_len m R C D f n k
        simp only [go_sem, h2, hgk]
        refine CallU.free (con_clone C (by omega)) (by simp only [go_sem]) (by simp only [go_sem]) ?_
        rintro r bx rfl
        simp only [go_sem, h2]
        have hB : Below n (C.set k f) := fun x hx => by
          rcases List.mem_or_eq_of_mem_set hx with h' | h'
          · exact L4 x h'
          · omega
        refine CallU.flat (con_det m n (by omega) (by omega) hW R (C.set k f) L3 hB (by omega) (by simp; omega)) (by simp only [go_sem]) (by simp only [go_sem]) ?_
        rintro r bx rfl
        have hset : (kvGo m R C D f n k).length = n := hkv
        by_cases hneg : D < 0
        · have hg2 : (((kvGo m R C D f n k).set C[k]!.toNat (IntKind.i64.wrap (0 - detF m R (C.set k f)))).map vi)[C[k]!.toNat]? = some (.sc (.int .i64 (IntKind.i64.wrap (0 - detF m R (C.set k f))))) := by
            rw [getv (by rw [List.length_set]; omega), set_at (by omega)]
          simp only [go_sem, hneg, hck, hset, List.length_set, hwk, hg2, List.set_set]
          refine roundK.intro (k + 1) (by omega) (by omega) ?_
          simp only [go_sem, kvGo, hneg]
          exact leV_refl _
        · simp only [go_sem, hneg, hck, hset, hwk]
          refine roundK.intro (k + 1) (by omega) (by omega) ?_
          simp only [go_sem, kvGo, hneg]
          exact leV_refl _
      · have hkl2 : k = C.length := by omega
        subst hkl2
        have hb := kv_bound (m := m) (rows := R) (cols := C) (f := f) (n := n) (all := D) (by omega) (fun k hk => hdet (C.set k f) (fun x hx => by
          rcases List.mem_or_eq_of_mem_set hx with h' | h'
          · exact L4 x h'
          · omega) (by simp; omega)) C.length (Nat.le_refl _)
        have hfr := kv_free (m := m) (rows := R) (all := D) h hnf C.length (Nat.le_refl _)
        have hamt : amtF D ≠ 0 := by
          have e : w64 (-D) = -D := wrap_in (by omega) (by omega)
          rw [amtF, e]; omega
        have hkvl := kvGo_len m R C D f n C.length
        have hmem : amtF D ∈ kvGo m R C D f n C.length := by rw [← hfr]; exact mem_at (by omega)
        simp only [go_sem, h2]
        refine CallU.flat (con_primitive (kvGo m R C D f n C.length) (by omega) hb (gcdF_pos hmem hamt)) (by simp only [go_sem]) (by simp only [go_sem]) ?_
        rintro r bx rfl
        simp only [go_sem, hwf]
        refine ⟨⟨by omega, by omega⟩, roundK.intro (f + 1) ⟨by omega, ?_⟩ (by omega) ?_⟩
        · simp only [kernGo, hc]; simp; omega
        · simp only [go_sem, kernGo, hc, kvF]
          exact leV_sl (by simp [vs])
    · simp only [go_sem, hc, hwf]
      refine roundK.intro (f + 1) ⟨by omega, by simp [kernGo, hc]; omega⟩ (by omega) ?_
      simp only [go_sem, kernGo, hc]
  · have : f = n := by omega
    subst this
    simp only [go_sem, Nat.lt_irrefl, vpairm, kernF, h1]
    rw [← hn, ← hR, ← hC, ← hD]
end Go.AM
