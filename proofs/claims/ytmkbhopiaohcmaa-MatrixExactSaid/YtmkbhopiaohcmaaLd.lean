/-
  Plain laws: the rank is the smallest number of columns of which all columns are combinations.
-/
import Derived.Test.YtmkbhopiaohcmaaLb
namespace Go.La

theorem sum_add {F G : Nat → Int} : ∀ n, sum (fun k => F k + G k) n = sum F n + sum G n
  | 0 => rfl
  | n + 1 => by simp only [sum, sum_add n]; omega

/-- columns that agree in the rows at hand -/
theorem D_agree {R : List Nat} {x y : Col} (h : ∀ r ∈ R, x r = y r) (P Q : List Col) : D R (P ++ x :: Q) = D R (P ++ y :: Q) := by
  have h0 := D_col0 (x := fun r => 1 * x r + -1 * y r) R (fun r hr => by have := h r hr; omega) P Q
  rw [D_lin R P Q x y 1 (-1)] at h0
  omega

theorem Lin.zero {g : List Col → Int} (h : Lin g) (P Q : List Col) : g (P ++ (fun _ => 0) :: Q) = 0 := by
  have := h P Q (fun _ => 0) (fun _ => 0) 0 0
  simpa using this
theorem Lin.smul {g : List Col → Int} (h : Lin g) (P Q : List Col) (a : Int) (x : Col) : g (P ++ (fun r => a * x r) :: Q) = a * g (P ++ x :: Q) := by
  have := h P Q x x a 0
  simpa using this
theorem Lin.sum {g : List Col → Int} (h : Lin g) (P Q : List Col) (B : Nat → Col) (c : Nat → Int) : ∀ k, g (P ++ (fun r => La.sum (fun t => c t * B t r) k) :: Q) = La.sum (fun t => c t * g (P ++ B t :: Q)) k
  | 0 => h.zero P Q
  | k + 1 => by
    have := h P Q (fun r => La.sum (fun t => c t * B t r) k) (B k) 1 (c k)
    simp only [Int.one_mul] at this
    simp only [La.sum]
    rw [this, h.sum P Q B c k]

theorem not_nodup {α : Type} : ∀ {l : List α}, ¬ l.Nodup → ∃ P a M Q, l = P ++ a :: M ++ a :: Q
  | [], h => absurd List.nodup_nil h
  | x :: l, h => by
    by_cases hx : x ∈ l
    · obtain ⟨M, Q, rfl⟩ := List.append_of_mem hx
      exact ⟨[], x, M, Q, rfl⟩
    · have : ¬ l.Nodup := fun hn => h (List.nodup_cons.2 ⟨hx, hn⟩)
      obtain ⟨P, a, M, Q, rfl⟩ := not_nodup this
      exact ⟨x :: P, a, M, Q, rfl⟩

theorem nodup_lt : ∀ (n : Nat) (l : List Nat), l.Nodup → (∀ x ∈ l, x < n) → l.length ≤ n
  | 0, l, _, h => by
    cases l with
    | nil => simp
    | cons x l => exact absurd (h x (by simp)) (by omega)
  | n + 1, l, hn, h => by
    have := nodup_lt n (l.erase n) (hn.erase n) (fun x hx => by
      have h1 := h x (List.mem_of_mem_erase hx)
      have h2 : x ≠ n := fun he => by subst he; exact (hn.not_mem_erase) hx
      omega)
    by_cases hm : n ∈ l
    · rw [List.length_erase_of_mem hm] at this; omega
    · rw [List.erase_of_not_mem hm] at this; omega

/-- MORE COLUMNS THAN THOSE THEY ARE COMBINATIONS OF: the determinant is zero -/
theorem pigeon {R : List Nat} (B : Nat → Col) (k : Nat) : ∀ (Q : List Col) (ix : List Nat), (∀ i ∈ ix, i < k) → k < ix.length + Q.length →
    (∀ c ∈ Q, ∃ (a : Int) (e : Nat → Int), a ≠ 0 ∧ ∀ r ∈ R, a * c r = sum (fun t => e t * B t r) k) → D R (ix.map B ++ Q) = 0
  | [], ix, hi, hk, _ => by
    have hnd : ¬ ix.Nodup := fun hn => by
      have := nodup_lt k ix hn hi
      simp at hk; omega
    obtain ⟨P, a, M, Q, rfl⟩ := not_nodup hnd
    simp only [List.map_append, List.map_cons, List.append_nil]
    exact (D_alt R).twice (P.map B) (M.map B) (Q.map B) (B a)
  | c :: Q, ix, hi, hk, h => by
    obtain ⟨a, e, ha, he⟩ := h c (by simp)
    have h1 : a * D R (ix.map B ++ c :: Q) = 0 := by
      rw [← (D_lin R).smul, D_agree he, (D_lin R).sum, sum_congr k (G := fun _ => 0) (fun t ht => ?_), sum_zero]
      have := pigeon B k Q (ix ++ [t]) (fun i hi' => by
        rcases List.mem_append.1 hi' with h | h
        · exact hi i h
        · simp at h; omega) (by simp at hk ⊢; omega) (fun c hc => h c (by simp [hc]))
      simp only [List.map_append, List.map_cons, List.map_nil, List.append_assoc, List.cons_append, List.nil_append] at this
      rw [this, Int.mul_zero]
    rcases Int.mul_eq_zero.1 h1 with h | h
    · exact absurd h ha
    · exact h
end Go.La

namespace Go.AM
open Go Go.Proofs Go.RowKit Go.La

def rkF (m : List (List Int)) : Nat := (leadF m).1.length

/-- each column, times a number, is a combination of k columns -/
def Spans (m : List (List Int)) (k : Nat) : Prop := ∃ (B : Nat → Col) (a : Int) (e : Nat → Nat → Int), a ≠ 0 ∧ ∀ f, f < m[0]!.length → ∀ i, i < m.length → a * m[i]![f]! = sum (fun t => e f t * B t i) k

theorem rk_le {m : List (List Int)} (hV : Valid m) {k : Nat} (h : Spans m k) : rkF m ≤ k := by
  obtain ⟨B, a, e, ha, he⟩ := h
  obtain ⟨L1, L2, L3, L4⟩ := lead_len hV
  have hne : detF m (leadF m).1 (leadF m).2 ≠ 0 := lead_ne m m[0]!.length
  rw [det_D hV.wide hV.slight L3 L4 L1 L2] at hne
  apply Classical.byContradiction
  intro hk
  refine hne ?_
  have := pigeon (R := (leadF m).1.map Int.toNat) B k ((leadF m).2.map (cl m)) [] (by simp) (by simp only [List.length_nil, List.length_map, Nat.zero_add]; unfold rkF at hk; omega) (fun c hc => ?_)
  · simpa using this
  · obtain ⟨x, hx, rfl⟩ := List.mem_map.1 hc
    have hx := L4 x hx
    refine ⟨a, e x.toNat, ha, fun r hr => ?_⟩
    obtain ⟨y, hy, rfl⟩ := List.mem_map.1 hr
    have hy := L3 y hy
    exact he x.toNat (by omega) y.toNat (by omega)

theorem rk_spans {m : List (List Int)} (hV : Valid m) : Spans m (rkF m) := by
  obtain ⟨L1, L2, L3, L4⟩ := lead_len hV
  have hne : detF m (leadF m).1 (leadF m).2 ≠ 0 := lead_ne m m[0]!.length
  rw [det_D hV.wide hV.slight L3 L4 L1 L2] at hne
  obtain ⟨R, hR⟩ : ∃ R, R = (leadF m).1.map Int.toNat := ⟨_, rfl⟩
  obtain ⟨C, hC⟩ : ∃ C, C = (leadF m).2.map (cl m) := ⟨_, rfl⟩
  rw [← hR, ← hC] at hne
  have hCl : C.length = rkF m := by rw [hC, List.length_map]; exact L2
  refine ⟨fun t => C[t]?.getD fun _ => 0, D R C, fun f t => D R (C.set t (cl m f)), hne, fun f hf i hi => ?_⟩
  have key : D R C * cl m f i = cram (D R) (cl m f) C i := by
    cases hp : pickF m (leadGo m f) f with
    | none => rw [hR, hC]; exact (free_kernel hV hf hp hi).2
    | some _ =>
      have hmem : (f : Int) ∈ (leadF m).2 := (lead_mem m f _).2 ⟨hf, by rw [hp]; rfl⟩
      by_cases hir : i ∈ R
      · rw [← cram_rows hir (cl m f) C, Int.mul_comm]
      · refine cramer (by rw [hCl, hR, List.length_map]; rfl) hne ?_
        have : cl m f ∈ C := by rw [hC]; exact List.mem_map.2 ⟨f, hmem, rfl⟩
        exact (D_alt _).mem this
  have : cl m f i = m[i]![f]! := by simp [cl]
  rw [this] at key
  rw [key, cram_sum, hCl]

theorem Spans.flip {m m' : List (List Int)} {k : Nat} (h : Spans m k) (h1 : m'.length = m[0]!.length) (h2 : m'[0]!.length = m.length) (h3 : ∀ i f, i < m.length → f < m[0]!.length → m'[f]![i]! = m[i]![f]!) : Spans m' k := by
  obtain ⟨B, a, e, ha, he⟩ := h
  refine ⟨fun t f => e f t, a, fun i t => B t i, ha, fun i hi f hf => ?_⟩
  rw [h2] at hi; rw [h1] at hf
  rw [h3 i f hi hf, he f hf i hi]
  exact sum_congr k fun t _ => Int.mul_comm ..

theorem Spans.rows {m m' : List (List Int)} {k : Nat} (h : Spans m k) (p q : Nat → Int) (u w : Nat → Nat) (h0 : m'[0]!.length = m[0]!.length) (h1 : ∀ i, i < m'.length → u i < m.length ∧ w i < m.length) (h2 : ∀ i f, i < m'.length → f < m[0]!.length → m'[i]![f]! = p i * m[u i]![f]! + q i * m[w i]![f]!) : Spans m' k := by
  obtain ⟨B, a, e, ha, he⟩ := h
  refine ⟨fun t i => p i * B t (u i) + q i * B t (w i), a, e, ha, fun f hf i hi => ?_⟩
  rw [h0] at hf
  obtain ⟨g1, g2⟩ := h1 i hi
  have e1 : a * (p i * m[u i]![f]! + q i * m[w i]![f]!) = p i * (a * m[u i]![f]!) + q i * (a * m[w i]![f]!) := by
    rw [Int.mul_add, ← Int.mul_assoc, ← Int.mul_assoc, Int.mul_comm a (p i), Int.mul_comm a (q i), Int.mul_assoc, Int.mul_assoc]
  rw [h2 i f hi hf, e1, he f hf _ g1, he f hf _ g2, ← sum_smul, ← sum_smul, ← sum_add]
  refine sum_congr k fun t _ => ?_
  rw [Int.mul_add, ← Int.mul_assoc, ← Int.mul_assoc, ← Int.mul_assoc, ← Int.mul_assoc, Int.mul_comm (p i) (e f t), Int.mul_comm (q i) (e f t)]

theorem rk_flip {m m' : List (List Int)} (hV : Valid m) (hV' : Valid m') (h1 : m'.length = m[0]!.length) (h2 : m'[0]!.length = m.length) (h3 : ∀ i f, i < m.length → f < m[0]!.length → m'[f]![i]! = m[i]![f]!) : rkF m' = rkF m := by
  have a := rk_le hV' ((rk_spans hV).flip h1 h2 h3)
  have b := rk_le hV ((rk_spans hV').flip h2.symm h1.symm fun i f hi hf => (h3 f i (by omega) (by omega)).symm)
  omega

/-- the first row, and twice the second -/
def mixF (m : List (List Int)) : List Int := (List.range m[0]!.length).map fun k => m[0]![k]! + (2 : Int) * m[1]![k]!
theorem mix_at {m : List (List Int)} {f : Nat} (h : f < m[0]!.length) : (mixF m)[f]! = m[0]![f]! + (2 : Int) * m[1]![f]! := by
  have : f < (mixF m).length := by simp only [mixF, List.length_map, List.length_range]; exact h
  rw [getElem!_pos (mixF m) f this]
  simp only [mixF, List.getElem_map, List.getElem_range]

theorem snoc_at {α : Type} [Inhabited α] {l : List α} {x : α} {i : Nat} (h : i < l.length) : (l ++ [x])[i]! = l[i]! := by
  rw [getElem!_pos (l ++ [x]) i (by simp; omega), getElem!_pos l i h, List.getElem_append_left h]
theorem snoc_end {α : Type} [Inhabited α] {l : List α} {x : α} : (l ++ [x])[l.length]! = x := by
  rw [getElem!_pos _ _ (by simp)]; simp

theorem rk_more {m : List (List Int)} (hV : Valid m) (hV' : Valid (m ++ [mixF m])) (hl : 2 ≤ m.length) : rkF (m ++ [mixF m]) = rkF m := by
  have h0 : (m ++ [mixF m])[0]!.length = m[0]!.length := by rw [snoc_at (by omega)]
  have a := rk_le hV' ((rk_spans hV).rows (fun _ => 1) (fun i => if i < m.length then 0 else 2) (fun i => if i < m.length then i else 0) (fun _ => 1) h0 (fun i hi => ⟨by split <;> omega, by omega⟩) fun i f hi hf => by
    split
    · rename_i h; rw [snoc_at h]; omega
    · rename_i h
      have : i = m.length := by simp at hi; omega
      subst this
      rw [snoc_end, mix_at hf]; omega)
  have b := rk_le hV ((rk_spans hV').rows (fun _ => 1) (fun _ => 0) (fun i => i) (fun i => i) h0.symm (fun i hi => ⟨by simp; omega, by simp; omega⟩) fun i f hi hf => by
    rw [snoc_at hi]; omega)
  omega

theorem setTo {α : Type} [Inhabited α] {l : List α} {i j : Nat} {x : α} (h : j < l.length) : (l.set i x)[j]! = if i = j then x else l[j]! := by
  rw [getElem!_pos (l.set i x) j (by rw [List.length_set]; exact h), List.getElem_set]
  split
  · rfl
  · rw [getElem!_pos l j h]

theorem rk_set {m : List (List Int)} (hV : Valid m) (hV' : Valid (m.set 0 (mixF m))) (hl : 2 ≤ m.length) : rkF (m.set 0 (mixF m)) = rkF m := by
  have hm : (mixF m).length = m[0]!.length := by simp only [mixF, List.length_map, List.length_range]
  have h0 : (m.set 0 (mixF m))[0]!.length = m[0]!.length := by rw [setTo (by omega), if_pos rfl, hm]
  have a := rk_le hV' ((rk_spans hV).rows (fun _ => 1) (fun i => if i = 0 then 2 else 0) (fun i => i) (fun _ => 1) h0 (fun i hi => ⟨by rw [List.length_set] at hi; exact hi, by omega⟩) fun i f hi hf => by
    rw [List.length_set] at hi
    rw [setTo hi]
    by_cases h : 0 = i
    · subst h
      rw [if_pos rfl, if_pos rfl, mix_at hf]; omega
    · rw [if_neg h, if_neg (Ne.symm h)]; omega)
  have b := rk_le hV ((rk_spans hV').rows (fun _ => 1) (fun i => if i = 0 then -2 else 0) (fun i => i) (fun _ => 1) h0.symm (fun i hi => ⟨by rw [List.length_set]; exact hi, by rw [List.length_set]; omega⟩) fun i f hi hf => by
    rw [setTo hi, setTo (by omega), if_neg (by omega : ¬ (0 : Nat) = 1)]
    by_cases h : 0 = i
    · subst h
      rw [if_pos rfl, if_pos rfl, mix_at (by omega)]; omega
    · rw [if_neg h, if_neg (Ne.symm h)]; omega)
  omega

theorem rk_small (m : List (List Int)) : rkF m ≤ m.length ∧ rkF m ≤ m[0]!.length := by
  obtain ⟨h1, h2, h3, h4⟩ := lead_ok m m[0]!.length
  have h5 := nodup_below _ _ (lead_nodup m m[0]!.length) h1
  unfold rkF leadF
  exact ⟨h5, by omega⟩
end Go.AM
