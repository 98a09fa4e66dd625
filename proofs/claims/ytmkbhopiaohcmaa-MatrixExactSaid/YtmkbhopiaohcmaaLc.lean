/-
  Plain laws: the kernel's vectors are mapped to zero, and are primitive.
-/
import Derived.Test.YtmkbhopiaohcmaaLb
namespace Go.AM
open Go Go.Proofs Go.RowKit
open Go.La (Col D con cram sum)

theorem sum_set (row v : List Int) (c : Nat) (x : Int) (hc : c < v.length) : ∀ n, sum (fun j => row[j]! * (v.set c x)[j]!) n = sum (fun j => row[j]! * v[j]!) n + if c < n then row[c]! * (x - v[c]!) else 0
  | 0 => by simp [sum]
  | n + 1 => by
    simp only [sum]
    rw [sum_set row v c x hc n]
    by_cases h : c = n
    · subst h
      rw [set_at hc, if_neg (by omega), if_pos (by omega), Int.mul_sub]; omega
    · rw [set_ne h]
      by_cases h2 : c < n
      · rw [if_pos h2, if_pos (by omega)]; omega
      · rw [if_neg h2, if_neg (by omega)]; omega

/-- a numerator, with its sign -/
def numK (m : List (List Int)) (rows cols : List Int) (all : Int) (f : Nat) (k : Nat) : Int := if all < 0 then detF m rows (cols.set k f) else - detF m rows (cols.set k f)

theorem kv_step {m : List (List Int)} {rows cols : List Int} {all : Int} {f n k : Nat} (hd : -1000000000000 ≤ detF m rows (cols.set k f) ∧ detF m rows (cols.set k f) ≤ 1000000000000) :
    kvGo m rows cols all f n (k + 1) = (kvGo m rows cols all f n k).set cols[k]!.toNat (numK m rows cols all f k) := by
  have e : w64 (0 - detF m rows (cols.set k f)) = - detF m rows (cols.set k f) := by rw [Int.zero_sub]; exact wrap_in (by omega) (by omega)
  have e2 : w64 (0 - - detF m rows (cols.set k f)) = detF m rows (cols.set k f) := by rw [Int.zero_sub, Int.neg_neg]; exact wrap_in (by omega) (by omega)
  simp only [kvGo, numK, e, e2]

theorem kv_rest {m : List (List Int)} {rows cols : List Int} {all : Int} {f n c : Nat} (hcf : f ≠ c) : ∀ k, (∀ j, j < k → cols[j]!.toNat ≠ c) → (kvGo m rows cols all f n k)[c]! = 0
  | 0, _ => by
    simp only [kvGo]
    rw [set_ne hcf]
    by_cases h : c < n
    · rw [getElem!_pos _ _ (by simpa using h)]; simp
    · rw [getElem!_neg _ _ (by simpa using h)]; rfl
  | k + 1, h => by
    simp only [kvGo]
    rw [set_ne (h k (by omega))]
    exact kv_rest hcf k fun j hj => h j (by omega)

theorem nodup_at {l : List Int} (h : l.Nodup) {i j : Nat} (hi : i < l.length) (hj : j < l.length) (hij : l[i]! = l[j]!) : i = j := by
  rw [getElem!_pos l i hi, getElem!_pos l j hj] at hij
  exact (List.getElem_inj h).1 hij

theorem kv_sum {m : List (List Int)} {rows cols : List Int} {all : Int} {f n : Nat} (row : List Int) (hf : f < n) (hc : Below n cols) (hnd : cols.Nodup) (hnf : ∀ x ∈ cols, x.toNat ≠ f)
    (hd : ∀ k, k < cols.length → -1000000000000 ≤ detF m rows (cols.set k f) ∧ detF m rows (cols.set k f) ≤ 1000000000000) :
    ∀ k, k ≤ cols.length → sum (fun j => row[j]! * (kvGo m rows cols all f n k)[j]!) n = row[f]! * amtF all + sum (fun k => row[cols[k]!.toNat]! * numK m rows cols all f k) k
  | 0, _ => by
    simp only [kvGo]
    rw [sum_set _ _ _ _ (by simpa using hf), if_pos hf]
    have e : sum (fun j => row[j]! * (List.replicate n (0 : Int))[j]!) n = 0 := by
      rw [Go.La.sum_congr n (G := fun _ => 0) (fun j hj => by rw [getElem!_pos (List.replicate n (0 : Int)) j (by simpa using hj)]; simp), Go.La.sum_zero]
    have e2 : (List.replicate n (0 : Int))[f]! = 0 := by rw [getElem!_pos _ _ (by simpa using hf)]; simp
    rw [e, e2]; simp [sum]
  | k + 1, h => by
    have ih := kv_sum (all := all) row hf hc hnd hnf hd k (by omega)
    have hck := hc.at (i := k) (by omega)
    have hl := kvGo_len m rows cols all f n k
    have hz : (kvGo m rows cols all f n k)[cols[k]!.toNat]! = 0 := kv_rest (fun e => hnf cols[k]! (mem_at (by omega)) e.symm) k (fun j hj he => by
      have hj2 := hc.at (i := j) (by omega)
      have := nodup_at hnd (by omega) (by omega) (show cols[j]! = cols[k]! by omega)
      omega)
    rw [kv_step (hd k (by omega)), sum_set _ _ _ _ (by omega), if_pos (by omega), ih, hz]
    simp only [sum, Int.sub_zero]; omega

theorem lead_cols_nodup (m : List (List Int)) : ∀ j, (leadGo m j).2.Nodup
  | 0 => by simp [leadGo]
  | j + 1 => by
    have ih := lead_cols_nodup m j
    have hb := (lead_ok m j).cols
    cases hp : pickF m (leadGo m j) j with
    | none => simpa [leadGo, hp] using ih
    | some i =>
      simp only [leadGo, hp]
      rw [List.nodup_append]
      refine ⟨ih, by simp, fun a ha b hb' => ?_⟩
      simp at hb'; subst hb'
      rintro rfl
      have := hb _ ha; omega

theorem kv_zero {m : List (List Int)} (hV : Valid m) {f : Nat} (hf : f < m[0]!.length) (hp : pickF m (leadGo m f) f = none) {i : Nat} (hi : i < m.length) :
    sum (fun j => m[i]![j]! * (kvF m (leadF m).1 (leadF m).2 (detF m (leadF m).1 (leadF m).2) f m[0]!.length)[j]!) m[0]!.length = 0 := by
  obtain ⟨L1, L2, L3, L4⟩ := lead_len hV
  obtain ⟨R, hR⟩ : ∃ R, R = (leadF m).1 := ⟨_, rfl⟩
  obtain ⟨C, hC⟩ : ∃ C, C = (leadF m).2 := ⟨_, rfl⟩
  have hk := free_kernel hV hf hp hi
  have hnd := lead_cols_nodup m m[0]!.length
  have hnf : ∀ x ∈ C, x.toNat ≠ f := fun x hx e => by
    rw [hC] at hx
    have hx0 := L4 x hx
    have : (f : Int) ∈ (leadGo m m[0]!.length).2 := by rw [show (f : Int) = x by omega]; exact hx
    have := ((lead_mem m f m[0]!.length).1 this).2
    rw [hp] at this; simp at this
  have hnd : C.Nodup := by rw [hC]; exact hnd
  rw [← hR] at L1 L2 L3 hk
  rw [← hC] at L2 L4 hk
  rw [← hR, ← hC]
  have hB : ∀ k, Below m[0]!.length (C.set k f) := fun k x hx => by
    rcases List.mem_or_eq_of_mem_set hx with h' | h'
    · exact L4 x h'
    · omega
  have hdet : ∀ k, detF m R (C.set k f) = D (R.map Int.toNat) ((C.set k f).map (cl m)) := fun k => det_D hV.wide hV.slight L3 (hB k) L1 (by simp; omega)
  have hbd : ∀ cols, Below m[0]!.length cols → cols.length ≤ 6 → -1000000000000 ≤ detF m R cols ∧ detF m R cols ≤ 1000000000000 := fun cols hc hcl => by
    obtain ⟨e1, e2, e3⟩ := det_eq m m[0]!.length hV.wide hV.slight R cols L3 hc L1 hcl
    have : (96 : Int) ^ R.length ≤ 1000000000000 := by
      have h : R.length = 0 ∨ R.length = 1 ∨ R.length = 2 ∨ R.length = 3 ∨ R.length = 4 ∨ R.length = 5 ∨ R.length = 6 := by omega
      rcases h with h | h | h | h | h | h | h <;> rw [h] <;> decide
    omega
  obtain ⟨A, hA⟩ : ∃ A, A = detF m R C := ⟨_, rfl⟩
  have hAD := det_D hV.wide hV.slight L3 L4 L1 L2
  rw [← hA] at hAD ⊢
  have hAb := hbd C L4 (by omega)
  rw [← hA] at hAb
  unfold kvF
  rw [kv_sum m[i]! hf L4 hnd hnf (fun k _ => hbd _ (hB k) (by simp; omega)) C.length (Nat.le_refl _)]
  have hcr := hk.2
  rw [← hAD, Go.La.cram_sum] at hcr
  have hcs : sum (fun k => D (R.map Int.toNat) ((C.map (cl m)).set k (cl m f)) * ((C.map (cl m))[k]?.getD fun _ => 0) i) (C.map (cl m)).length = sum (fun k => detF m R (C.set k f) * m[i]![C[k]!.toNat]!) C.length := by
    rw [List.length_map]
    refine Go.La.sum_congr _ fun k hk => ?_
    rw [hdet k, List.map_set]
    simp [hk, cl]
  rw [hcs] at hcr
  have hamt : amtF A = if A < 0 then -A else A := by
    have e : w64 (-A) = -A := wrap_in (by omega) (by omega)
    rw [amtF, e]; split <;> omega
  have hcf : cl m f i = m[i]![f]! := by simp [cl]
  rw [hcf] at hcr
  by_cases hneg : A < 0
  · have e : sum (fun k => m[i]![C[k]!.toNat]! * numK m R C A f k) C.length = sum (fun k => detF m R (C.set k f) * m[i]![C[k]!.toNat]!) C.length := Go.La.sum_congr _ fun k _ => by simp only [numK, if_pos hneg, Int.mul_comm]
    rw [e, ← hcr, hamt, if_pos hneg, Int.mul_neg, Int.mul_comm]; omega
  · have e : sum (fun k => m[i]![C[k]!.toNat]! * numK m R C A f k) C.length = -1 * sum (fun k => detF m R (C.set k f) * m[i]![C[k]!.toNat]!) C.length := by
      rw [← Go.La.sum_smul]
      exact Go.La.sum_congr _ fun k _ => by
        simp only [numK, if_neg hneg, Int.mul_comm m[i]![C[k]!.toNat]!, Int.neg_mul]; omega
    rw [e, ← hcr, hamt, if_neg hneg, Int.mul_comm]; omega

/-! ### primitive vectors -/
theorem dvd_gcdN {l : List Int} {e : Nat} : ∀ k, (∀ i, i < k → e ∣ l[i]!.natAbs) → e ∣ gcdN l k
  | 0, _ => Nat.dvd_zero e
  | k + 1, h => Nat.dvd_gcd (dvd_gcdN k fun i hi => h i (by omega)) (h k (by omega))

theorem prim_at {l : List Int} {j : Nat} (hg : 0 < gcdF l) : l[j]! = gcdF l * (primF l)[j]! := by
  by_cases h : j < l.length
  · have hd := gcdN_dvd (l := l) l.length j h
    have e : (primF l)[j]! = l[j]!.tdiv (gcdF l) := by
      unfold primF
      rw [getElem!_pos _ _ (by simpa using h), List.getElem_map, getElem!_pos l j h]
    rw [e]
    have hd2 : ((gcdF l : Nat) : Int) ∣ l[j]! := Int.ofNat_dvd_left.2 hd
    exact (Int.mul_tdiv_cancel' hd2).symm
  · rw [getElem!_neg l j h, getElem!_neg (primF l) j (by simpa [primF] using h)]; simp

theorem prim_one {l : List Int} (hg : 0 < gcdF l) : gcdF (primF l) = 1 := by
  have h1 : gcdF l * gcdF (primF l) ∣ gcdF l := dvd_gcdN l.length fun i hi => by
    rw [prim_at hg (j := i), Int.natAbs_mul, Int.natAbs_natCast]
    refine Nat.mul_dvd_mul_left _ (gcdN_dvd (primF l).length i ?_)
    simpa [primF] using hi
  have h2 := Nat.le_of_dvd hg h1
  have h3 : 0 < gcdF (primF l) := by
    rcases Nat.eq_zero_or_pos (gcdF (primF l)) with h | h
    · rw [h, Nat.mul_zero] at h1
      have := Nat.eq_zero_of_zero_dvd h1; omega
    · exact h
  have h4 : gcdF l * gcdF (primF l) ≤ gcdF l * 1 := by omega
  have := Nat.le_of_mul_le_mul_left h4 hg
  omega

theorem prim_zero {l row : List Int} {n : Nat} (hg : 0 < gcdF l) (h : sum (fun j => row[j]! * l[j]!) n = 0) : sum (fun j => row[j]! * (primF l)[j]!) n = 0 := by
  have e : sum (fun j => row[j]! * l[j]!) n = gcdF l * sum (fun j => row[j]! * (primF l)[j]!) n := by
    rw [← Go.La.sum_smul]
    exact Go.La.sum_congr _ fun j _ => by rw [prim_at hg (j := j), ← Int.mul_assoc, Int.mul_comm row[j]!, Int.mul_assoc]
  rw [e] at h
  rcases Int.mul_eq_zero.1 h with h | h
  · omega
  · exact h

theorem prim_bound {l : List Int} {b : Int} (h : ∀ x ∈ l, -b ≤ x ∧ x ≤ b) : ∀ x ∈ primF l, -b ≤ x ∧ x ≤ b := fun x hx => by
  obtain ⟨y, hy, rfl⟩ := List.mem_map.1 hx
  have := h y hy
  have h1 : (y.tdiv (gcdF l)).natAbs ≤ y.natAbs := by rw [Int.natAbs_tdiv]; exact Nat.div_le_self _ _
  omega
end Go.AM
