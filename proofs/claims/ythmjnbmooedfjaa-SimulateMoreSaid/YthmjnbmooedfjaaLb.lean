/-
  Plain laws: the greatest simulation.
-/
import Derived.Test.YthmjnbmooedfjaaLa
namespace Go.AM

/-- all pairs -/
def fullR (n m : Nat) : Rel := List.replicate n (List.replicate m true)
/-- nothing more is to be taken out -/
def Fixed (a b : Sys) (r : Rel) : Prop := ∀ x y, x < a.length → y < b.length → rel r x y = true → matchesF r a b x y = true

/-- what Greatest returns -/
def IsGreatest (a b : Sys) (r : Rel) : Prop := Sized r a.length b.length ∧ Red a b (fullR a.length b.length) r ∧ Fixed a b r

/-- arcs lead to states -/
def Inside (s : Sys) : Prop := ∀ l ∈ s, ∀ q ∈ l, 0 ≤ q.2 ∧ q.2 < s.length

/-- a simulation -/
def IsSim (a b : Sys) (S : Nat → Nat → Prop) : Prop := ∀ x y, x < a.length → y < b.length → S x y → ∀ p ∈ a[x]!, ∃ q ∈ b[y]!, q.1 = p.1 ∧ S p.2.toNat q.2.toNat

theorem matchesF_iff {r : Rel} {a b : Sys} {x y : Nat} : matchesF r a b x y = true ↔ ∀ p ∈ a[x]!, ∃ q ∈ b[y]!, q.1 = p.1 ∧ rel r p.2.toNat q.2.toNat = true := by
  simp only [matchesF, List.all_eq_true, List.any_eq_true, Bool.and_eq_true, beq_iff_eq, within, rel]

theorem IsGreatest.sim {a b : Sys} {r : Rel} (h : IsGreatest a b r) : IsSim a b fun x y => rel r x y = true :=
  fun x y hx hy hr => matchesF_iff.1 (h.2.2 x y hx hy hr)

theorem rel_full {n m x y : Nat} (hx : x < n) (hy : y < m) : rel (fullR n m) x y = true := by
  have h1 : (fullR n m)[x]! = List.replicate m true := by rw [getElem!_pos _ x (by simpa [fullR] using hx)]; simp [fullR]
  unfold rel
  rw [h1, getElem!_pos _ y (by simpa using hy)]; simp

theorem rel_cut {r : Rel} {x y i j : Nat} (hx : x < r.length) (hj : j < r[i]!.length) (hi : i < r.length) : rel (cutR r x y) i j = if i = x ∧ j = y then false else rel r i j := by
  unfold rel cutR
  by_cases h : i = x
  · subst h
    rw [getElem!_pos (r.set i _) i (by simpa using hi), List.getElem_set_self]
    by_cases h2 : j = y
    · subst h2
      rw [getElem!_pos _ j (by simpa using hj), List.getElem_set_self]; simp
    · rw [getElem!_pos _ j (by simpa using hj), List.getElem_set_ne (Ne.symm h2), ← getElem!_pos r[i]! j hj]; simp [h2]
  · rw [getElem!_pos (r.set x _) i (by simpa using hi), List.getElem_set_ne (Ne.symm h), ← getElem!_pos r i hi]; simp [h]

theorem full_sized (n m : Nat) : Sized (fullR n m) n m := ⟨by simp [fullR], fun row hr => by have := List.eq_of_mem_replicate hr; rw [this]; simp⟩

/-- every simulation is within what is left -/
theorem Red.holds {a b : Sys} {S : Nat → Nat → Prop} (hS : IsSim a b S) (ha : Inside a) (hb : Inside b) {r s : Rel} (h : Red a b r s) (hr : Sized r a.length b.length)
    (hw : ∀ x y, x < a.length → y < b.length → S x y → rel r x y = true) : ∀ x y, x < a.length → y < b.length → S x y → rel s x y = true := by
  induction h with
  | refl => exact hw
  | cut t i j ht hi hj hm ih =>
    intro x y hx hy hs
    have hsz := ht.sized rfl hr
    have hil : i < t.length := by rw [hsz.1]; exact hi
    have hxl : x < t.length := by rw [hsz.1]; exact hx
    rw [rel_cut hil (by rw [hsz.2 _ (mem_bang hxl)]; exact hy) hxl]
    split
    · rename_i he
      obtain ⟨rfl, rfl⟩ := he
      have : matchesF t a b x y = true := matchesF_iff.2 fun p hp => by
        obtain ⟨q, hq, h1, h2⟩ := hS x y hx hy hs p hp
        have e1 := ha _ (mem_bang hx) p hp
        have e2 := hb _ (mem_bang hy) q hq
        exact ⟨q, hq, h1, ih _ _ (by omega) (by omega) h2⟩
      rw [this] at hm; cases hm
    · exact ih x y hx hy hs

theorem IsGreatest.greatest {a b : Sys} {r : Rel} (h : IsGreatest a b r) (ha : Inside a) (hb : Inside b) {S : Nat → Nat → Prop} (hS : IsSim a b S) {x y : Nat} (hx : x < a.length) (hy : y < b.length) (hs : S x y) : rel r x y = true :=
  h.2.1.holds hS ha hb (full_sized _ _) (fun _ _ hx hy _ => rel_full hx hy) x y hx hy hs

theorem exists_fixed {a b : Sys} : ∀ (n : Nat) (r : Rel), tally r ≤ n → Sized r a.length b.length → ∃ s, Red a b r s ∧ Fixed a b s
  | n, r, hn, hr => by
    by_cases hf : Fixed a b r
    · exact ⟨r, .refl r, hf⟩
    · have : ∃ x y, x < a.length ∧ y < b.length ∧ rel r x y = true ∧ matchesF r a b x y = false := by
        apply Classical.byContradiction
        intro hc
        exact hf fun x y hx hy h => by
          cases hm : matchesF r a b x y
          · exact absurd ⟨x, y, hx, hy, h, hm⟩ hc
          · rfl
      obtain ⟨x, y, hx, hy, h, hm⟩ := this
      have hxl : x < r.length := by rw [hr.1]; exact hx
      have ht := tally_cut hxl (by rw [hr.2 _ (mem_bang hxl)]; exact hy) h
      cases n with
      | zero => omega
      | succ n =>
        obtain ⟨s, h1, h2⟩ := exists_fixed n (cutR r x y) (by omega) (hr.cut hx)
        exact ⟨s, (Red.cut r r x y (.refl r) hx hy hm).trans h1, h2⟩

/-- there is a greatest simulation -/
theorem exists_greatest (a b : Sys) : ∃ R, IsGreatest a b R := by
  obtain ⟨s, h1, h2⟩ := exists_fixed (a := a) (b := b) _ _ (Nat.le_refl _) (full_sized a.length b.length)
  exact ⟨s, h1.sized rfl (full_sized _ _), h1, h2⟩

/-- simulation is reflexive -/
theorem great_refl {a : Sys} {r : Rel} (h : IsGreatest a a r) (ha : Inside a) {x : Nat} (hx : x < a.length) : rel r x x = true :=
  h.greatest ha ha (S := fun x y => x = y) (fun x y hx hy he p hp => ⟨p, by rw [← he]; exact hp, rfl, rfl⟩) hx hx rfl

/-- simulation is transitive -/
theorem great_trans {a b c : Sys} {r s t : Rel} (h1 : IsGreatest a b r) (h2 : IsGreatest b c s) (h3 : IsGreatest a c t) (ha : Inside a) (hb : Inside b) (hc : Inside c) {x y z : Nat} (hx : x < a.length) (hy : y < b.length) (hz : z < c.length)
    (hr : rel r x y = true) (hs : rel s y z = true) : rel t x z = true := by
  refine h3.greatest ha hc (S := fun x z => ∃ y, y < b.length ∧ rel r x y = true ∧ rel s y z = true) ?_ hx hz ⟨y, hy, hr, hs⟩
  rintro x z hx hz ⟨y, hy, e1, e2⟩ p hp
  obtain ⟨q, hq, k1, k2⟩ := h1.sim x y hx hy e1 p hp
  obtain ⟨u, hu, k3, k4⟩ := h2.sim y z hy hz e2 q hq
  have hqi := hb _ (mem_bang hy) q hq
  exact ⟨u, hu, k3.trans k1, q.2.toNat, by omega, k2, k4⟩

/-- the system that can do all -/
def allS : Sys := [[(0, 0), (1, 0), (2, 0)]]
theorem great_all {a : Sys} {r : Rel} (h : IsGreatest a allS r) (ha : Inside a) (hl : ∀ l ∈ a, ∀ q ∈ l, 0 ≤ q.1 ∧ q.1 < 3) {x : Nat} (hx : x < a.length) : rel r x 0 = true := by
  refine h.greatest ha (fun l hl q hq => ?_) (S := fun _ y => y = 0) ?_ hx (by decide) rfl
  · simp only [allS, List.mem_singleton] at hl
    subst hl
    simp only [List.mem_cons, List.not_mem_nil, or_false] at hq
    rcases hq with rfl | rfl | rfl <;> decide
  · rintro x y hx hy rfl p hp
    have := hl _ (mem_bang hx) p hp
    refine ⟨(p.1, 0), ?_, rfl, rfl⟩
    have h3 : p.1 = 0 ∨ p.1 = 1 ∨ p.1 = 2 := by omega
    rcases h3 with h3 | h3 | h3 <;> rw [h3] <;> simp [allS]
end Go.AM
