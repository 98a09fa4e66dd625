/-
  Plain: no number of the reference's elimination leaves 64 bits.
-/
import Derived.Test.YtmkbhopiaohcmaaLe
namespace Go.AM
open Go Go.Proofs Go.RowKit Go.La

theorem size_le {t : Nat} (ht : t ≤ 6) : 0 < sizeF t ∧ sizeF t ≤ 12079595520 := by
  have h : t = 0 ∨ t = 1 ∨ t = 2 ∨ t = 3 ∨ t = 4 ∨ t = 5 ∨ t = 6 := by omega
  rcases h with h | h | h | h | h | h | h <;> subst h <;> decide
theorem size_le5 {t : Nat} (ht : t ≤ 5) : 0 < sizeF t ∧ sizeF t ≤ 125829120 := by
  have h : t = 0 ∨ t = 1 ∨ t = 2 ∨ t = 3 ∨ t = 4 ∨ t = 5 := by omega
  rcases h with h | h | h | h | h | h <;> subst h <;> decide
theorem abs_mul {x y a b : Int} (hx : (x.natAbs : Int) ≤ a) (hy : (y.natAbs : Int) ≤ b) : -(a * b) ≤ x * y ∧ x * y ≤ a * b := mul_bound (by omega) (by omega) (by omega) (by omega)
theorem tdiv_abs {x g : Int} {a : Int} (hx : (x.natAbs : Int) ≤ a) : ((x.tdiv g).natAbs : Int) ≤ a := by
  have : (x.tdiv g).natAbs ≤ x.natAbs := by rw [Int.natAbs_tdiv]; exact Nat.div_le_self _ _
  omega
end Go.AM
namespace Go.AM
open Go Go.Proofs Go.RowKit Go.La

/-- the rows, with the pivot in its place -/
def pivT (R : List (List Int)) (t j : Nat) : List (List Int) := pivF (swapF R t (findF R t j)) t j

theorem red_piv {m R : List (List Int)} {n j : Nat} {C : List Int} {s : List Nat} (hj : j < n) (h : RedInv m n j R C s) (h1 : C.length < R.length) (h2 : findF R C.length j < R.length) :
    ∃ s', RedInv m n j (pivT R C.length j) C s' ∧ 0 < (pivT R C.length j)[C.length]![j]! := by
  have hL := h.len
  obtain ⟨f1, f2, f3, f4⟩ := seek_spec (R := R) (j := j) R.length C.length (by omega) (by omega)
  have hfd : findF R C.length j = seekF R j R.length C.length := rfl
  unfold pivT
  rw [hfd] at h2 ⊢
  have hsw := red_swap h f1 h2
  have ht : C.length < (swapL R C.length (seekF R j R.length C.length)).length := by rw [swap_len]; exact h1
  have hne : (swapL R C.length (seekF R j R.length C.length))[C.length]![j]! ≠ 0 := by
    rw [swap_get h1]
    have : swapI C.length (seekF R j R.length C.length) C.length = seekF R j R.length C.length := by
      simp only [swapI]; split
      · rename_i he; exact he.symm
      · simp
    rw [this]; exact f4 h2
  have e : swapF R C.length (seekF R j R.length C.length) = swapL R C.length (seekF R j R.length C.length) := rfl
  rw [e]
  refine ⟨swapL s C.length (seekF R j R.length C.length), ?_⟩
  simp only [pivF]
  split
  · rename_i hneg
    refine ⟨red_neg hsw ht, ?_⟩
    rw [setTo ht, if_pos rfl, mapGet (by rw [hsw.wide _ ht]; omega)]; omega
  · exact ⟨hsw, by omega⟩

theorem lead_full {m : List (List Int)} : ∀ j, (leadGo m j).2.length = j → ∀ f, f < j → (f : Int) ∈ (leadGo m j).2
  | 0, _, f, hf => by omega
  | j + 1, h, f, hf => by
    have hle := (lead_ok m j).le
    cases hp : pickF m (leadGo m j) j with
    | none => simp only [leadGo, hp] at h; omega
    | some i =>
      simp only [leadGo, hp, List.length_append, List.length_singleton] at h ⊢
      rcases Nat.lt_or_ge f j with hlt | hge
      · exact List.mem_append_left _ (lead_full j (by omega) f hlt)
      · have : f = j := by omega
        subst this; simp

theorem mem_get {l : List Int} {x : Int} (h : x ∈ l) : ∃ i, i < l.length ∧ l[i]! = x := by
  obtain ⟨i, hi, e⟩ := List.mem_iff_getElem.1 h
  exact ⟨i, hi, by rw [getElem!_pos l i hi, e]⟩

/-- a row that is zero at all columns but one has entries 0, 1, -1 -/
theorem RedInv.last {m R : List (List Int)} {n j : Nat} {C : List Int} {s : List Nat} (h : RedInv m n j R C s) (hn : n = j + 1) (hC : C.length = j) {i : Nat} (hir : i < R.length) (hi : C.length ≤ i) {k : Nat} (hk : k < n) : (R[i]![k]!.natAbs : Int) ≤ 1 := by
  by_cases hz : R[i]![j]! = 0
  · have : R[i]![k]! = 0 := by
      by_cases hkj : k = j
      · rw [hkj]; exact hz
      · have hm : (k : Int) ∈ C := by rw [h.cols]; exact lead_full j (by rw [← h.cols]; exact hC) k (by omega)
        obtain ⟨u, hu, e⟩ := mem_get hm
        have := h.zero i hir u hu (by omega)
        rw [e, Int.toNat_natCast] at this
        exact this
    rw [this]; simp
  · have := prim_small (x := R[i]!) (n := n) (h.wide i hir) (h.prim i hir) (d := 1) (p := R[i]![j]!) (W := fun k => if k = j then 1 else 0) (by omega) hz (fun k hk => by
      split
      · rename_i e; rw [e]; omega
      · rename_i hkj
        have hm : (k : Int) ∈ C := by rw [h.cols]; exact lead_full j (by rw [← h.cols]; exact hC) k (by omega)
        obtain ⟨u, hu, e⟩ := mem_get hm
        have := h.zero i hir u hu (by omega)
        rw [e, Int.toNat_natCast] at this
        rw [this]; omega) hk
    split at this <;> omega

/-- how great the rows are ahead of a round -/
theorem red_fit {m R : List (List Int)} {j : Nat} {C : List Int} {s : List Nat} (hV : Valid m) (h : RedInv m m[0]!.length j R C s) (hj : j < m[0]!.length) (ht : C.length < R.length) {i : Nat} (hi : i < R.length) (hit : i ≠ C.length) :
    ∃ A B : Int, 0 ≤ A ∧ 0 ≤ B ∧ A ≤ 12079595520 ∧ B ≤ 12079595520 ∧ A * B ≤ 1519964874237542400 ∧ (∀ k, k < m[0]!.length → -A ≤ R[i]![k]! ∧ R[i]![k]! ≤ A) ∧ (∀ k, k < m[0]!.length → -B ≤ R[C.length]![k]! ∧ R[C.length]![k]! ≤ B) := by
  have hsm := hV.small
  have hL := h.len
  have hle : C.length ≤ j := by rw [h.cols]; exact (lead_ok m j).le
  have hb := fun k (hk : k < m[0]!.length) => h.high hV (by omega) ht (Nat.le_refl _) hk
  obtain ⟨p1, p2⟩ := size_le (t := C.length + 1) (by omega)
  by_cases hlow : i < C.length
  · have ha := fun k (hk : k < m[0]!.length) => h.low hV (by omega) hlow hk
    obtain ⟨q1, q2⟩ := size_le5 (t := C.length) (by omega)
    refine ⟨125829120, 12079595520, by omega, by omega, by omega, by omega, by decide, fun k hk => ?_, fun k hk => ?_⟩
    · have := ha k hk; omega
    · have := hb k hk; omega
  · have hb2 := fun k (hk : k < m[0]!.length) => h.high hV (by omega) hi (by omega) hk
    by_cases h5 : C.length + 1 ≤ 5
    · obtain ⟨q1, q2⟩ := size_le5 h5
      refine ⟨125829120, 125829120, by omega, by omega, by omega, by omega, by decide, fun k hk => ?_, fun k hk => ?_⟩
      · have := hb2 k hk; omega
      · have := hb k hk; omega
    · have hn : m[0]!.length = j + 1 := by omega
      have hC : C.length = j := by omega
      refine ⟨1, 1, by omega, by omega, by omega, by omega, by decide, fun k hk => ?_, fun k hk => ?_⟩
      · have := h.last hn hC hi (by omega) hk; omega
      · have := h.last hn hC ht (Nat.le_refl _) hk; omega

/-- the numbers of a row that is freed: none leaves 64 bits -/
theorem red_row {m R : List (List Int)} {j : Nat} {C : List Int} {s : List Nat} (hV : Valid m) (h : RedInv m m[0]!.length j R C s) (hj : j < m[0]!.length) (ht : C.length < R.length) {i : Nat} (hi : i < R.length) (hit : i ≠ C.length) (g : Nat) :
    ∀ k, k < m[0]!.length → (-1519964874237542400 ≤ R[i]![k]! * R[C.length]![j]!.tdiv g ∧ R[i]![k]! * R[C.length]![j]!.tdiv g ≤ 1519964874237542400) ∧ (-1519964874237542400 ≤ R[i]![j]!.tdiv g * R[C.length]![k]! ∧ R[i]![j]!.tdiv g * R[C.length]![k]! ≤ 1519964874237542400) := by
  obtain ⟨A, B, hA, hB, _, _, hAB, ha, hb⟩ := red_fit hV h hj ht hi hit
  have hdiv : ∀ (x a : Int), -a ≤ x ∧ x ≤ a → -a ≤ x.tdiv g ∧ x.tdiv g ≤ a := fun x a hx => by
    have : (x.tdiv g).natAbs ≤ x.natAbs := by rw [Int.natAbs_tdiv]; exact Nat.div_le_self _ _
    omega
  intro k hk
  have h1 := hdiv _ _ (hb j hj)
  have h2 := hdiv _ _ (ha j hj)
  have h3 := mul_bound (ha k hk).1 (ha k hk).2 h1.1 h1.2
  have h4 := mul_bound h2.1 h2.2 (hb k hk).1 (hb k hk).2
  omega
end Go.AM
namespace Go.AM
open Go Go.Proofs Go.RowKit Go.La

/-- two rows of one direction are one, divided -/
theorem prim_dir {x y : List Int} {n : Nat} (hx : x.length = n) (hy : y.length = n) {a b : Int} (ha : 0 < a) (hb : 0 < b) (h : ∀ k, k < n → a * x[k]! = b * y[k]!) (hg : 0 < gcdF x) : primF x = primF y := by
  have e : x.map (fun z => a * z) = y.map (fun z => b * z) := by
    apply List.ext_getElem (by simp [hx, hy])
    intro k h1 h2
    have hkx : k < x.length := by simpa using h1
    have hky : k < y.length := by simpa using h2
    have := h k (by omega)
    rw [getElem!_pos x k hkx, getElem!_pos y k hky] at this
    simpa using this
  have g1 := gcdN_mul a x x.length (Nat.le_refl _)
  have g2 := gcdN_mul b y y.length (Nat.le_refl _)
  rw [e] at g1
  have eg : a.natAbs * gcdF x = b.natAbs * gcdF y := by
    unfold gcdF; rw [← g1, ← g2, hx, hy]
  have egi : a * (gcdF x : Int) = b * (gcdF y : Int) := by
    have := congrArg (fun z : Nat => (z : Int)) eg
    simp only [Int.natCast_mul] at this
    rw [Int.natAbs_of_nonneg (by omega), Int.natAbs_of_nonneg (by omega)] at this
    exact this
  have hgy : 0 < gcdF y := by
    rcases Nat.eq_zero_or_pos (gcdF y) with h0 | h0
    · rw [h0, Nat.mul_zero] at eg
      rcases Nat.mul_eq_zero.1 eg with h1 | h1
      · omega
      · omega
    · exact h0
  apply List.ext_getElem (by rw [prim_len, prim_len, hx, hy])
  intro k h1 h2
  rw [← getElem!_pos (primF x) k h1, ← getElem!_pos (primF y) k h2]
  rw [prim_len] at h1
  have hk := h k (by omega)
  rw [prim_at (l := x) (j := k) hg, prim_at (l := y) (j := k) hgy, ← Int.mul_assoc, ← Int.mul_assoc, ← egi] at hk
  exact Int.eq_of_mul_eq_mul_left (fun h0 => by rcases Int.mul_eq_zero.1 h0 with h0 | h0 <;> omega) hk

theorem sum_two {F : Nat → Int} {n c d : Nat} (hc : c < n) (hd : d < n) (hcd : c ≠ d) (h : ∀ k, k < n → k ≠ c → k ≠ d → F k = 0) : sum F n = F c + F d := by
  have e : sum F n = sum (fun k => (if k = c then F k else 0) + (if k = c then 0 else F k)) n := sum_congr n fun k _ => by split <;> omega
  rw [e, sum_add, sum_one (f := c) n hc fun k _ hk => if_neg hk, sum_one (f := d) n hd fun k hk hkd => by
    split
    · rfl
    · rename_i h0; exact h k hk h0 hkd]
  rw [if_pos rfl, if_neg (Ne.symm hcd)]

/-- a row of combinations maps to zero what the rows map to zero -/
theorem comb_kill {m : List (List Int)} {n : Nat} {p : Nat → Prop} {x v : List Int} (h : Comb m n p x) (hv : ∀ r, r < m.length → sum (fun j => m[r]![j]! * v[j]!) n = 0) : sum (fun j => x[j]! * v[j]!) n = 0 := by
  obtain ⟨a, e, ha, _, h2⟩ := h
  have e1 : a * sum (fun j => x[j]! * v[j]!) n = sum (fun j => v[j]! * sum (fun r => e r * m[r]![j]!) m.length) n := by
    rw [← sum_smul]
    refine sum_congr n fun j hj => ?_
    rw [← h2 j hj, Int.mul_comm v[j]!, Int.mul_assoc]
  have e2 : sum (fun r => e r * sum (fun t => v[t]! * m[r]![t]!) n) m.length = 0 := by
    rw [sum_congr _ (G := fun _ => 0) (fun r hr => by
      rw [sum_congr n (G := fun j => m[r]![j]! * v[j]!) (fun j _ => Int.mul_comm ..), hv r hr, Int.mul_zero]), sum_zero]
  rw [← sum_swap' (F := fun j => v[j]!) (G := fun j r => m[r]![j]!), e2] at e1
  rcases Int.mul_eq_zero.1 e1 with h | h
  · exact absurd h ha
  · exact h

/-- Cramer's vector for column f -/
def kvec (m : List (List Int)) (f : Nat) : List Int := kvF m (leadF m).1 (leadF m).2 (detF m (leadF m).1 (leadF m).2) f m[0]!.length

structure KvOk (m : List (List Int)) (f : Nat) (a : Int) : Prop where
  len : (kvec m f).length = m[0]!.length
  pos : 0 < a
  le : a ≤ 1000000000000
  own : (kvec m f)[f]! = a
  other : ∀ k, k < m[0]!.length → k ≠ f → (k : Int) ∉ (leadF m).2 → (kvec m f)[k]! = 0
  small : ∀ k, k < m[0]!.length → -1000000000000 ≤ (kvec m f)[k]! ∧ (kvec m f)[k]! ≤ 1000000000000

theorem kv_small {m : List (List Int)} {rows cols : List Int} {all : Int} {f n : Nat} (hall : -1000000000000 ≤ all ∧ all ≤ 1000000000000) (hd : ∀ k, k < cols.length → -1000000000000 ≤ detF m rows (cols.set k f) ∧ detF m rows (cols.set k f) ≤ 1000000000000) :
    ∀ k, k ≤ cols.length → ∀ x ∈ kvGo m rows cols all f n k, -1000000000000 ≤ x ∧ x ≤ 1000000000000
  | 0, _, x, hx => by
    simp only [kvGo] at hx
    rcases List.mem_or_eq_of_mem_set hx with h | h
    · have := List.eq_of_mem_replicate h; omega
    · have e : w64 (-all) = -all := wrap_in (by omega) (by omega)
      rw [h, amtF, e]; omega
  | k + 1, hk, x, hx => by
    have hb := hd k (by omega)
    rw [kv_step hb] at hx
    rcases List.mem_or_eq_of_mem_set hx with h | h
    · exact kv_small hall hd k (by omega) x h
    · rw [h]; unfold numK; split <;> omega

theorem kv_ok {m : List (List Int)} (hV : Valid m) {f : Nat} (hf : f < m[0]!.length) (hp : (f : Int) ∉ (leadF m).2) : ∃ a, KvOk m f a := by
  obtain ⟨L1, L2, L3, L4⟩ := lead_len hV
  have hne : detF m (leadF m).1 (leadF m).2 ≠ 0 := lead_ne m m[0]!.length
  have hbd : ∀ cols, Below m[0]!.length cols → cols.length ≤ 6 → -1000000000000 ≤ detF m (leadF m).1 cols ∧ detF m (leadF m).1 cols ≤ 1000000000000 := fun cols hc hcl => by
    obtain ⟨e1, e2, e3⟩ := det_eq m m[0]!.length hV.wide hV.slight (leadF m).1 cols L3 hc L1 hcl
    have : (96 : Int) ^ (leadF m).1.length ≤ 1000000000000 := by
      generalize (leadF m).1.length = z at *
      have h : z = 0 ∨ z = 1 ∨ z = 2 ∨ z = 3 ∨ z = 4 ∨ z = 5 ∨ z = 6 := by omega
      rcases h with h | h | h | h | h | h | h <;> rw [h] <;> decide
    omega
  have hA := hbd (leadF m).2 L4 (by omega)
  have hB : ∀ k, Below m[0]!.length ((leadF m).2.set k f) := fun k x hx => by
    rcases List.mem_or_eq_of_mem_set hx with h' | h'
    · exact L4 x h'
    · omega
  have hdk : ∀ k, k < (leadF m).2.length → -1000000000000 ≤ detF m (leadF m).1 ((leadF m).2.set k f) ∧ detF m (leadF m).1 ((leadF m).2.set k f) ≤ 1000000000000 := fun k _ => hbd _ (hB k) (by simp; omega)
  have hnf : ∀ x ∈ (leadF m).2, x.toNat ≠ f := fun x hx e => hp (by
    have := L4 x hx
    rw [show (f : Int) = x by omega]; exact hx)
  have e : w64 (-(detF m (leadF m).1 (leadF m).2)) = -(detF m (leadF m).1 (leadF m).2) := wrap_in (by omega) (by omega)
  have hl : (kvec m f).length = m[0]!.length := kvGo_len ..
  refine ⟨amtF (detF m (leadF m).1 (leadF m).2), hl, by rw [amtF, e]; omega, by rw [amtF, e]; omega, kv_free hf hnf _ (Nat.le_refl _), fun k hk hkf hkC => ?_, fun k hk => ?_⟩
  · exact kv_rest (Ne.symm hkf) _ fun u hu he => hkC (by
      have := L4.at hu
      rw [show (k : Int) = (leadF m).2[u]! by omega]; exact mem_at hu)
  · exact kv_small hA hdk _ (Nat.le_refl _) _ (mem_at (by show k < (kvec m f).length; omega))

/-- what the reference's rows say of Cramer's vector -/
theorem kv_rows {m R : List (List Int)} {C : List Int} {s : List Nat} (hV : Valid m) (h : RedInv m m[0]!.length m[0]!.length R C s) {f : Nat} (hf : f < m[0]!.length) (hp : (f : Int) ∉ C) {a : Int} (hk : KvOk m f a) {i : Nat} (hi : i < C.length) :
    R[i]![C[i]!.toNat]! * (kvec m f)[C[i]!.toNat]! = -(R[i]![f]! * a) := by
  have hC : C = (leadF m).2 := h.cols
  have hir : i < R.length := by have := h.tle; have := h.len; omega
  have hpk : pickF m (leadGo m f) f = none := by
    cases hpk : pickF m (leadGo m f) f with
    | none => rfl
    | some i => exact absurd ((lead_mem m f m[0]!.length).2 ⟨hf, by rw [hpk]; rfl⟩) (by rw [hC] at hp; exact hp)
  have hz := comb_kill (h.comb i hir) (v := kvec m f) fun r hr => kv_zero hV hf hpk hr
  have hbi := h.below.at hi
  have hne : f ≠ C[i]!.toNat := fun e => hp (by rw [show (f : Int) = C[i]! by omega]; exact mem_at hi)
  rw [sum_two (c := f) (d := C[i]!.toNat) hf (by omega) hne fun k hkn hkf hki => ?_, hk.own] at hz
  · omega
  · by_cases hkC : (k : Int) ∈ C
    · obtain ⟨u, hu, e⟩ := mem_get hkC
      have := h.zero i hir u hu (by rintro rfl; rw [e] at hki; simp at hki)
      rw [e, Int.toNat_natCast] at this
      rw [this, Int.zero_mul]
    · rw [hk.other k hkn hkf (by rw [← hC]; exact hkC), Int.mul_zero]
end Go.AM
namespace Go.AM
open Go Go.Proofs Go.RowKit Go.La

/-- the pivot of row i, and what it must be a part of -/
def pvR (Q : List (List Int)) (C : List Int) (i : Nat) : Int := Q[i]![C[i]!.toNat]!
def gcR (Q : List (List Int)) (C : List Int) (f i : Nat) : Nat := Nat.gcd (pvR Q C i).natAbs Q[i]![f]!.natAbs
def ndR (Q : List (List Int)) (C : List Int) (f i : Nat) : Nat := (pvR Q C i).natAbs / gcR Q C f i
/-- the least common multiple of the first k -/
def scR (Q : List (List Int)) (C : List Int) (f : Nat) : Nat → Nat
  | 0 => 1
  | k + 1 => scR Q C f k / Nat.gcd (scR Q C f k) (ndR Q C f k) * ndR Q C f k
/-- the number at the i-th leading place -/
def vaR (Q : List (List Int)) (C : List Int) (f i : Nat) : Int := -(Q[i]![f]!.tdiv (gcR Q C f i)) * ((scR Q C f Q.length / ndR Q C f i : Nat) : Int)
def veR (Q : List (List Int)) (C : List Int) (f n : Nat) : Nat → List Int
  | 0 => (List.replicate n 0).set f (scR Q C f Q.length)
  | k + 1 => (veR Q C f n k).set C[k]!.toNat (vaR Q C f k)
theorem veR_len {Q : List (List Int)} {C : List Int} {f n : Nat} : ∀ k, (veR Q C f n k).length = n
  | 0 => by simp [veR]
  | k + 1 => by simp [veR, veR_len k]

/-- what is given: positive pivots, and a solution y with the multiple a -/
structure Sol (Q : List (List Int)) (C : List Int) (f : Nat) (a : Int) (y : Nat → Int) : Prop where
  len : C.length = Q.length
  apos : 0 < a
  pos : ∀ i, i < Q.length → 0 < pvR Q C i
  sol : ∀ i, i < Q.length → pvR Q C i * y i = -(Q[i]![f]! * a)

section
variable {Q : List (List Int)} {C : List Int} {f : Nat} {a : Int} {y : Nat → Int}

theorem gcR_pos (h : Sol Q C f a y) {i : Nat} (hi : i < Q.length) : 0 < gcR Q C f i := Nat.gcd_pos_of_pos_left _ (by have := h.pos i hi; omega)
theorem gcR_p {i : Nat} : gcR Q C f i ∣ (pvR Q C i).natAbs := Nat.gcd_dvd_left ..
theorem gcR_q {i : Nat} : gcR Q C f i ∣ Q[i]![f]!.natAbs := Nat.gcd_dvd_right ..
theorem ndR_pos (h : Sol Q C f a y) {i : Nat} (hi : i < Q.length) : 0 < ndR Q C f i :=
  Nat.div_pos (Nat.le_of_dvd (by have := h.pos i hi; omega) gcR_p) (gcR_pos h hi)
theorem ndR_le {i : Nat} : ndR Q C f i ≤ (pvR Q C i).natAbs := Nat.div_le_self ..
theorem ndR_dvd (h : Sol Q C f a y) {i : Nat} (hi : i < Q.length) : ndR Q C f i ∣ a.natAbs := by
  have hs := congrArg Int.natAbs (h.sol i hi)
  rw [Int.natAbs_mul, Int.natAbs_neg, Int.natAbs_mul] at hs
  have hg := gcR_pos h hi
  have hco : Nat.Coprime ((pvR Q C i).natAbs / gcR Q C f i) (Q[i]![f]!.natAbs / gcR Q C f i) := Nat.coprime_div_gcd_div_gcd hg
  obtain ⟨p, hp⟩ := gcR_p (Q := Q) (C := C) (f := f) (i := i)
  obtain ⟨q, hq⟩ := gcR_q (Q := Q) (C := C) (f := f) (i := i)
  have ep : (pvR Q C i).natAbs / gcR Q C f i = p := by rw [hp]; exact Nat.mul_div_cancel_left _ hg
  have eq : Q[i]![f]!.natAbs / gcR Q C f i = q := by
    conv => lhs; rw [hq]
    exact Nat.mul_div_cancel_left _ hg
  rw [ep, eq] at hco
  have e : ndR Q C f i = p := ep
  rw [e]
  generalize gcR Q C f i = g at *
  rw [hp, hq, Nat.mul_assoc, Nat.mul_assoc] at hs
  have hs2 := Nat.eq_of_mul_eq_mul_left hg hs
  exact hco.dvd_of_dvd_mul_left ⟨_, hs2.symm⟩

theorem scR_lcm (k : Nat) : scR Q C f (k + 1) = Nat.lcm (scR Q C f k) (ndR Q C f k) := by
  simp only [scR, Nat.lcm]
  rw [Nat.mul_comm, ← Nat.mul_div_assoc _ (Nat.gcd_dvd_left ..), Nat.mul_comm]
theorem scR_dvd (h : Sol Q C f a y) : ∀ k, k ≤ Q.length → scR Q C f k ∣ a.natAbs
  | 0, _ => Nat.one_dvd _
  | k + 1, hk => by rw [scR_lcm]; exact Nat.lcm_dvd (scR_dvd h k (by omega)) (ndR_dvd h (by omega))
theorem scR_pos (h : Sol Q C f a y) {k : Nat} (hk : k ≤ Q.length) : 0 < scR Q C f k := Nat.pos_of_dvd_of_pos (scR_dvd h k hk) (by have := h.apos; omega)
theorem scR_le (h : Sol Q C f a y) {k : Nat} (hk : k ≤ Q.length) : (scR Q C f k : Int) ≤ a := by
  have := Nat.le_of_dvd (by have := h.apos; omega) (scR_dvd h k hk); have := h.apos; omega
theorem nd_sc : ∀ (k i : Nat), i < k → ndR Q C f i ∣ scR Q C f k
  | 0, i, hi => by omega
  | k + 1, i, hi => by
    rw [scR_lcm]
    by_cases hik : i = k
    · subst hik; exact Nat.dvd_lcm_right ..
    · exact Nat.dvd_trans (nd_sc k i (by omega)) (Nat.dvd_lcm_left ..)

/-- the number is the solution's, scaled -/
theorem vaR_sol (h : Sol Q C f a y) {i : Nat} (hi : i < Q.length) : (scR Q C f Q.length : Int) * y i = a * vaR Q C f i := by
  have hg := gcR_pos h hi
  have hp := h.pos i hi
  have e1 : pvR Q C i = (gcR Q C f i : Int) * (ndR Q C f i : Int) := by
    have := Nat.mul_div_cancel' (gcR_p (Q := Q) (C := C) (f := f) (i := i))
    have e : ((gcR Q C f i * ndR Q C f i : Nat) : Int) = (pvR Q C i).natAbs := congrArg _ this
    rw [Int.natCast_mul] at e; omega
  have e2 : Q[i]![f]! = (gcR Q C f i : Int) * Q[i]![f]!.tdiv (gcR Q C f i) := (Int.mul_tdiv_cancel' (Int.ofNat_dvd_left.2 gcR_q)).symm
  have e3 : (scR Q C f Q.length : Int) = (ndR Q C f i : Int) * ((scR Q C f Q.length / ndR Q C f i : Nat) : Int) := by
    rw [← Int.natCast_mul, Nat.mul_div_cancel' (nd_sc Q.length i hi)]
  have hs := h.sol i hi
  have hp2 : pvR Q C i * (scR Q C f Q.length * y i) = pvR Q C i * (a * vaR Q C f i) := by
    have : pvR Q C i * (scR Q C f Q.length * y i) = scR Q C f Q.length * (pvR Q C i * y i) := by rw [← Int.mul_assoc, ← Int.mul_assoc, Int.mul_comm (pvR Q C i)]
    rw [this, hs]
    unfold vaR
    generalize (scR Q C f Q.length / ndR Q C f i : Nat) = z at *
    generalize Q[i]![f]!.tdiv (gcR Q C f i) = t at *
    rw [e1, e2, e3]
    generalize (gcR Q C f i : Int) = g
    generalize (ndR Q C f i : Int) = d
    generalize (z : Int) = z
    rw [Int.mul_neg, Int.neg_mul, Int.mul_neg, Int.mul_neg]
    congr 1
    simp only [Int.mul_comm, Int.mul_left_comm]
  exact Int.eq_of_mul_eq_mul_left (by omega) hp2
theorem vaR_small (h : Sol Q C f a y) {i : Nat} (hi : i < Q.length) : (vaR Q C f i).natAbs ≤ (y i).natAbs := by
  have e := congrArg Int.natAbs (vaR_sol h hi)
  rw [Int.natAbs_mul, Int.natAbs_mul, Int.natAbs_natCast] at e
  have h1 := scR_le h (Nat.le_refl Q.length)
  have h2 := h.apos
  have h3 : scR Q C f Q.length * (y i).natAbs ≤ a.natAbs * (y i).natAbs := Nat.mul_le_mul_right _ (by omega)
  rw [e] at h3
  exact Nat.le_of_mul_le_mul_left h3 (by omega)
theorem vaR_div (h : Sol Q C f a y) {i : Nat} : ((scR Q C f Q.length / ndR Q C f i : Nat) : Int) ≤ a := by
  have := Nat.div_le_self (scR Q C f Q.length) (ndR Q C f i)
  have := scR_le h (Nat.le_refl Q.length); omega

theorem veR_rest {n c : Nat} (hcf : f ≠ c) : ∀ k, (∀ j, j < k → C[j]!.toNat ≠ c) → (veR Q C f n k)[c]! = 0
  | 0, _ => by
    simp only [veR]
    rw [set_ne hcf]
    by_cases h : c < n
    · rw [getElem!_pos _ _ (by simpa using h)]; simp
    · rw [getElem!_neg _ _ (by simpa using h)]; rfl
  | k + 1, h => by
    simp only [veR]
    rw [set_ne (h k (by omega))]
    exact veR_rest hcf k fun j hj => h j (by omega)
theorem veR_own {n : Nat} (hf : f < n) (hnf : ∀ x ∈ C, x.toNat ≠ f) : ∀ k, k ≤ C.length → (veR Q C f n k)[f]! = scR Q C f Q.length
  | 0, _ => by simp only [veR]; exact set_at (by simpa using hf)
  | k + 1, hk => by
    simp only [veR]
    rw [set_ne (hnf _ (mem_at (by omega)))]
    exact veR_own hf hnf k (by omega)
theorem veR_at {n : Nat} (hB : Below n C) (hnd : C.Nodup) {i : Nat} : ∀ k, k ≤ C.length → i < k → (veR Q C f n k)[C[i]!.toNat]! = vaR Q C f i
  | 0, _, hi => by omega
  | k + 1, hk, hi => by
    simp only [veR]
    have h1 := hB.at (i := i) (by omega)
    have h2 := hB.at (i := k) (by omega)
    by_cases hik : i = k
    · subst hik; exact set_at (by rw [veR_len]; omega)
    · rw [set_ne (fun e => hik (nodup_at hnd (by omega) (by omega) (by omega)))]
      exact veR_at hB hnd k (by omega) (by omega)
end

/-- what the reference's kernel needs of its rows -/
structure KerOk (m Q : List (List Int)) (C : List Int) (f : Nat) (a : Int) : Prop where
  sol : Sol Q C f a fun i => (kvec m f)[C[i]!.toNat]!
  ale : a ≤ 1000000000000
  below : Below m[0]!.length C
  wide : ∀ i, i < Q.length → Q[i]!.length = m[0]!.length
  small : ∀ i, i < Q.length → ∀ k, k < m[0]!.length → -12079595520 ≤ Q[i]![k]! ∧ Q[i]![k]! ≤ 12079595520
  nums : ∀ i, i < Q.length → -1000000000000 ≤ vaR Q C f i ∧ vaR Q C f i ≤ 1000000000000
  vec : primF (veR Q C f m[0]!.length Q.length) = primF (kvec m f)
  vsmall : ∀ x ∈ veR Q C f m[0]!.length Q.length, -1000000000000 ≤ x ∧ x ≤ 1000000000000

theorem red_small {m R : List (List Int)} {C : List Int} {s : List Nat} (hV : Valid m) (h : RedInv m m[0]!.length m[0]!.length R C s) {i : Nat} (hi : i < C.length) {k : Nat} (hk : k < m[0]!.length) : -12079595520 ≤ R[i]![k]! ∧ R[i]![k]! ≤ 12079595520 := by
  have h1 := h.low hV (Nat.le_refl _) hi hk
  have h2 := h.tle
  have h3 : C.length ≤ m[0]!.length := by rw [h.cols]; exact (lead_ok m _).le
  have h4 := hV.small
  have := size_le (t := C.length) (by omega)
  omega

theorem ker_ok {m : List (List Int)} (hV : Valid m) {f : Nat} (hf : f < m[0]!.length) (hp : (f : Int) ∉ (redF m).2) : ∃ a, KerOk m (redF m).1 (redF m).2 f a := by
  obtain ⟨s, h⟩ := red_go hV m[0]!.length (Nat.le_refl _)
  have e1 : (redF m).1 = (redGo m m[0]!.length).1.take (redGo m m[0]!.length).2.length := rfl
  have e2 : (redF m).2 = (redGo m m[0]!.length).2 := rfl
  rw [e2] at hp
  rw [e1, e2]
  obtain ⟨R, hR⟩ : ∃ R, R = (redGo m m[0]!.length).1 := ⟨_, rfl⟩
  obtain ⟨C, hC⟩ : ∃ C, C = (redGo m m[0]!.length).2 := ⟨_, rfl⟩
  rw [← hC] at hp h ⊢
  rw [← hR] at h ⊢
  have hCl : C = (leadF m).2 := h.cols
  obtain ⟨a, hk⟩ := kv_ok hV hf (by rw [← hCl]; exact hp)
  have hlen : (R.take C.length).length = C.length := by rw [List.length_take]; have := h.tle; have := h.len; omega
  have hget : ∀ i, i < C.length → (R.take C.length)[i]! = R[i]! := fun i hi => by
    rw [getElem!_pos _ i (by omega), getElem!_pos R i (by have := h.tle; have := h.len; omega)]; simp
  have hnf : ∀ x ∈ C, x.toNat ≠ f := fun x hx e => hp (by
    have := h.below x hx
    rw [show (f : Int) = x by omega]; exact hx)
  have hsol : Sol (R.take C.length) C f a fun i => (kvec m f)[C[i]!.toNat]! := by
    refine ⟨hlen.symm, hk.pos, fun i hi => ?_, fun i hi => ?_⟩
    · rw [hlen] at hi
      unfold pvR; rw [hget i hi]; exact h.pos i hi
    · rw [hlen] at hi
      unfold pvR; rw [hget i hi]; exact kv_rows hV h hf hp hk hi
  have hnums : ∀ i, i < (R.take C.length).length → -1000000000000 ≤ vaR (R.take C.length) C f i ∧ vaR (R.take C.length) C f i ≤ 1000000000000 := fun i hi => by
    have h1 := vaR_small hsol hi
    rw [hlen] at hi
    have h2 := h.below.at hi
    have h3 := hk.small C[i]!.toNat (by omega)
    omega
  have hnd : C.Nodup := by rw [hCl]; exact lead_cols_nodup m _
  have hat : ∀ k, k < m[0]!.length → (scR (R.take C.length) C f (R.take C.length).length : Int) * (kvec m f)[k]! = a * (veR (R.take C.length) C f m[0]!.length (R.take C.length).length)[k]! := fun k hkn => by
    by_cases hkf : k = f
    · subst hkf
      rw [hk.own, veR_own hkn hnf _ (by omega), Int.mul_comm]
    · by_cases hkC : (k : Int) ∈ C
      · obtain ⟨u, hu, e⟩ := mem_get hkC
        have := vaR_sol hsol (i := u) (by omega)
        have h3 := veR_at (Q := R.take C.length) (f := f) h.below hnd (i := u) (R.take C.length).length (by omega) (by omega)
        rw [e, Int.toNat_natCast] at this h3
        rw [this, h3]
      · rw [hk.other k hkn hkf (by rw [← hCl]; exact hkC), veR_rest (Ne.symm hkf) _ fun u hu he => hkC (by
          have := h.below.at (i := u) (by omega)
          rw [show (k : Int) = C[u]! by omega]; exact mem_at (by omega))]
        simp
  have hsp := scR_pos hsol (Nat.le_refl (R.take C.length).length)
  refine ⟨a, hsol, hk.le, h.below, fun i hi => ?_, fun i hi k hkn => ?_, hnums, ?_, fun x hx => ?_⟩
  · rw [hlen] at hi
    rw [hget i hi]; exact h.wide i (by have := h.tle; have := h.len; omega)
  · rw [hlen] at hi
    rw [hget i hi]; exact red_small hV h hi hkn
  · have hkg : 0 < gcdF (kvec m f) := gcdF_pos (x := a) (by
      rw [← hk.own]; exact mem_at (by rw [hk.len]; exact hf)) (by have := hk.pos; omega)
    exact (prim_dir (n := m[0]!.length) hk.len (veR_len _) (by omega : (0 : Int) < (scR (R.take C.length) C f (R.take C.length).length : Int)) hk.pos hat hkg).symm
  · obtain ⟨k, hkl, rfl⟩ := mem_get hx
    rw [veR_len] at hkl
    have h1 := hat k hkl
    have e := congrArg Int.natAbs h1
    rw [Int.natAbs_mul, Int.natAbs_mul, Int.natAbs_natCast] at e
    have h2 := scR_le hsol (Nat.le_refl (R.take C.length).length)
    have h3 : scR (R.take C.length) C f (R.take C.length).length * ((kvec m f)[k]!).natAbs ≤ a.natAbs * ((kvec m f)[k]!).natAbs := Nat.mul_le_mul_right _ (by have := hk.pos; omega)
    rw [e] at h3
    have h4 := Nat.le_of_mul_le_mul_left h3 (by have := hk.pos; omega)
    have h5 := hk.small k hkl
    omega

theorem red_flat {m : List (List Int)} (hV : Valid m) : (redF m).2.length = (redF m).1.length := by
  have h1 := red_rank hV
  have h2 := red_cols hV
  have h3 := (lead_len hV).2.1
  rw [h1, h2, h3]; rfl
end Go.AM
