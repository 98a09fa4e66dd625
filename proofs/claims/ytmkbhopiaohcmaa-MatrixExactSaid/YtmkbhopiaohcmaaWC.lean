/-
  Plain laws: determinants of small matrices do not overflow; what the leading rows and columns are.
-/
import Derived.Test.YtmkbhopiaohcmaaWB
import Derived.Test.YtmkbhopiaohcmaaW7
namespace Go.AM
open Go Go.Proofs Go.RowKit

theorem mem_at {α : Type} [Inhabited α] {l : List α} {i : Nat} (h : i < l.length) : l[i]! ∈ l := by rw [getElem!_pos l i h]; exact List.getElem_mem h
/-- the expansion, without a bound -/
def detGoZ (rec : List Int → Int) (row cols : List Int) : Nat → Int × Int
  | 0 => (0, 1)
  | k + 1 => ((detGoZ rec row cols k).1 + (detGoZ rec row cols k).2 * row[cols[k]!.toNat]! * rec (cols.take k ++ cols.drop (k + 1)), - (detGoZ rec row cols k).2)
def detZ (m : List (List Int)) : List Int → List Int → Int
  | [], _ => 1
  | r :: rs, cols => (detGoZ (detZ m rs) m[r.toNat]! cols cols.length).1

/-- all elements are small -/
def Slight (m : List (List Int)) : Prop := ∀ row ∈ m, ∀ x ∈ row, -16 ≤ x ∧ x ≤ 16

theorem detGo_eq {rec recZ : List Int → Int} {row cols : List Int} {B : Int} (hB : 0 ≤ B) (hB2 : B ≤ 8153726976)
    (hrow : ∀ k, k < cols.length → -16 ≤ row[cols[k]!.toNat]! ∧ row[cols[k]!.toNat]! ≤ 16)
    (hrec : ∀ k, k < cols.length → rec (cols.take k ++ cols.drop (k + 1)) = recZ (cols.take k ++ cols.drop (k + 1)) ∧ -B ≤ recZ (cols.take k ++ cols.drop (k + 1)) ∧ recZ (cols.take k ++ cols.drop (k + 1)) ≤ B) :
    ∀ k, k ≤ cols.length → k ≤ 6 → detGo rec row cols k = detGoZ recZ row cols k ∧ -(k * (16 * B)) ≤ (detGoZ recZ row cols k).1 ∧ (detGoZ recZ row cols k).1 ≤ k * (16 * B) ∧ ((detGoZ recZ row cols k).2 = 1 ∨ (detGoZ recZ row cols k).2 = -1)
  | 0, _, _ => by simp [detGo, detGoZ]
  | k + 1, hk, h6 => by
    obtain ⟨h1, h2, h3, h4⟩ := detGo_eq hB hB2 hrow hrec k (by omega) (by omega)
    obtain ⟨g1, g2, g3⟩ := hrec k (by omega)
    have hr := hrow k (by omega)
    have hsx : ∃ s, s = (detGoZ recZ row cols k).2 * row[cols[k]!.toNat]! ∧ -16 ≤ s ∧ s ≤ 16 := ⟨_, rfl, by rcases h4 with h4 | h4 <;> rw [h4] <;> omega, by rcases h4 with h4 | h4 <;> rw [h4] <;> omega⟩
    obtain ⟨s, hs, hs1, hs2⟩ := hsx
    have hm := mul_bound hs1 hs2 g2 g3
    have hk6 : (k : Int) * (16 * B) ≤ 5 * (16 * B) := Int.mul_le_mul_of_nonneg_right (by omega) (by omega)
    have e1 : ((k + 1 : Nat) : Int) * (16 * B) = k * (16 * B) + 16 * B := by rw [Int.natCast_add, Int.add_mul]; simp
    have e2 : w64 s = s := wrap_in (by omega) (by omega)
    have e3 : w64 (s * recZ (cols.take k ++ cols.drop (k + 1))) = s * recZ (cols.take k ++ cols.drop (k + 1)) := wrap_in (by omega) (by omega)
    have e4 : w64 ((detGoZ recZ row cols k).1 + s * recZ (cols.take k ++ cols.drop (k + 1))) = (detGoZ recZ row cols k).1 + s * recZ (cols.take k ++ cols.drop (k + 1)) := wrap_in (by omega) (by omega)
    have e5 : w64 (0 - (detGoZ recZ row cols k).2) = -(detGoZ recZ row cols k).2 := by rcases h4 with h4 | h4 <;> rw [h4] <;> rfl
    simp only [detGo, detGoZ, h1, g1, ← hs, e2, e3, e4, e5]
    refine ⟨?_, by rw [e1]; omega, by rw [e1]; omega, by omega⟩
    by_cases hx : row[cols[k]!.toNat]! = 0
    · have hs0 : s = 0 := by rw [hs, hx, Int.mul_zero]
      rw [if_pos hx, hs0, Int.zero_mul, Int.add_zero]
    · rw [if_neg hx]

theorem det_eq (m : List (List Int)) (n : Nat) (hw : Wide n m) (hs : Slight m) : ∀ (rows cols : List Int), Below m.length rows → Below n cols → rows.length ≤ 6 → cols.length ≤ 6 →
    detF m rows cols = detZ m rows cols ∧ -(96 ^ rows.length) ≤ detZ m rows cols ∧ detZ m rows cols ≤ 96 ^ rows.length
  | [], cols, _, _, _, _ => by simp [detF, detZ]
  | r :: rs, cols, hr, hc, hrl, hcl => by
    have hr0 := hr r (by simp)
    have hrt : r.toNat < m.length := by omega
    have hrow := hw.at hrt
    have hsm := hs m[r.toNat]! (by simp [hrt])
    have hp : (0 : Int) ≤ 96 ^ rs.length := Int.pow_nonneg (by omega)
    have hp2 : (96 : Int) ^ rs.length ≤ 8153726976 := by
      have : rs.length ≤ 5 := by simp at hrl; omega
      have h : rs.length = 0 ∨ rs.length = 1 ∨ rs.length = 2 ∨ rs.length = 3 ∨ rs.length = 4 ∨ rs.length = 5 := by omega
      rcases h with h | h | h | h | h | h <;> rw [h] <;> decide
    have := detGo_eq (rec := detF m rs) (recZ := detZ m rs) (row := m[r.toNat]!) (cols := cols) hp hp2
      (fun k hk => by
        have hck := hc.at hk
        have hct : cols[k]!.toNat < m[r.toNat]!.length := by omega
        exact hsm _ (mem_at hct))
      (fun k hk => by
        refine det_eq m n hw hs rs (cols.take k ++ cols.drop (k + 1)) (fun x hx => hr x (by simp [hx])) (fun x hx => ?_) (by simp at hrl; omega) (by simp; omega)
        rcases List.mem_append.1 hx with h | h
        · exact hc x (List.mem_of_mem_take h)
        · exact hc x (List.mem_of_mem_drop h))
      cols.length (Nat.le_refl _) hcl
    obtain ⟨h1, h2, h3, _⟩ := this
    have hmul : (cols.length : Int) * (16 * 96 ^ rs.length) ≤ 6 * (16 * 96 ^ rs.length) := Int.mul_le_mul_of_nonneg_right (by omega) (by omega)
    have e : (96 : Int) ^ (r :: rs).length = 6 * (16 * 96 ^ rs.length) := by rw [List.length_cons, Int.pow_succ]; omega
    simp only [detF, detZ, h1, e]
    exact ⟨trivial, by omega, by omega⟩

/-- the leading rows are apart -/
theorem lead_nodup (m : List (List Int)) : ∀ j, (leadGo m j).1.Nodup
  | 0 => by simp [leadGo]
  | j + 1 => by
    have ih := lead_nodup m j
    cases hp : pickF m (leadGo m j) j with
    | none => simpa [leadGo, hp] using ih
    | some i =>
      have hq := (pick_lt hp).2
      simp only [leadGo, hp]
      rw [List.nodup_append]
      refine ⟨ih, by simp, fun a ha b hb => ?_⟩
      simp at hb; subst hb
      intro hab; subst hab
      simp only [pickOk, Bool.and_eq_true, Bool.not_eq_true'] at hq
      have := hq.1
      rw [List.any_eq_false] at this
      exact this _ ha (by simp)

theorem nodup_below : ∀ (n : Nat) (l : List Int), l.Nodup → Below n l → l.length ≤ n
  | 0, l, _, hb => by
    cases l with
    | nil => simp
    | cons x l => have := hb x (by simp); omega
  | n + 1, l, hn, hb => by
    have h1 := nodup_below n (l.filter fun x => x != (n : Int)) (hn.filter _) (fun x hx => by
      simp only [List.mem_filter, bne_iff_ne] at hx
      have := hb x hx.1; omega)
    have h2 : l.length ≤ (l.filter fun x => x != (n : Int)).length + 1 := by
      have hc : l.count (n : Int) ≤ 1 := List.nodup_iff_count.1 hn _
      have := List.length_eq_countP_add_countP (fun x => x != (n : Int)) (l := l)
      rw [List.countP_eq_length_filter] at this
      have e : List.countP (fun a => decide ¬(a != (n : Int)) = true) l = l.count (n : Int) := by
        rw [List.count]
        congr 1
        funext a
        by_cases h : a = n <;> simp [h]
      omega
    omega

theorem lead_len {m : List (List Int)} (hV : Valid m) : (leadF m).1.length ≤ 6 ∧ (leadF m).2.length = (leadF m).1.length ∧ Below m.length (leadF m).1 ∧ Below m[0]!.length (leadF m).2 := by
  obtain ⟨h1, h2, h3, h4⟩ := lead_ok m m[0]!.length
  have h5 := nodup_below _ _ (lead_nodup m m[0]!.length) h1
  have := hV.small
  unfold leadF
  exact ⟨by omega, h3.symm, h1, h2⟩

theorem lead_ne (m : List (List Int)) : ∀ j, detF m (leadGo m j).1 (leadGo m j).2 ≠ 0
  | 0 => by simp [leadGo, detF]
  | j + 1 => by
    cases hp : pickF m (leadGo m j) j with
    | none => simpa [leadGo, hp] using lead_ne m j
    | some i =>
      have hq := (pick_lt hp).2
      simp only [leadGo, hp]
      simp only [pickOk, Bool.and_eq_true, bne_iff_ne] at hq
      exact hq.2
end Go.AM
