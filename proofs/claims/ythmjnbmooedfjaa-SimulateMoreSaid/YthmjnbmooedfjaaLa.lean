/-
  Plain laws: relations that lose pairs.
-/
import Derived.Test.YthmjnbmooedfjaaW4
namespace Go.AM

/-- a pair of the relation -/
def rel (r : Rel) (x y : Nat) : Bool := r[x]![y]!
def cutR (r : Rel) (x y : Nat) : Rel := r.set x (r[x]!.set y false)

/-- pairs that do not match are taken out, one after the other -/
inductive Red (a b : Sys) : Rel → Rel → Prop where
  | refl (r : Rel) : Red a b r r
  | cut (r r' : Rel) (x y : Nat) : Red a b r r' → x < a.length → y < b.length → matchesF r' a b x y = false → Red a b r (cutR r' x y)

theorem Red.trans {a b : Sys} {r s t : Rel} (h1 : Red a b r s) (h2 : Red a b s t) : Red a b r t := by
  induction h2 with
  | refl => exact h1
  | cut t x y _ hx hy hm ih => exact .cut _ _ x y ih hx hy hm

theorem Sized.cut {r : Rel} {n m x y : Nat} (h : Sized r n m) (hx : x < n) : Sized (cutR r x y) n m := by
  refine ⟨by simp [cutR, h.1], fun row hr => ?_⟩
  rcases List.mem_or_eq_of_mem_set hr with hr | rfl
  · exact h.2 row hr
  · rw [List.length_set]; exact h.2 _ (mem_bang (by rw [h.1]; exact hx))
theorem Red.sized {a b : Sys} {r s : Rel} {n m : Nat} (h : Red a b r s) (hn : a.length = n) (hs : Sized r n m) : Sized s n m := by
  induction h with
  | refl => exact hs
  | cut t x y _ hx _ _ ih => exact ih.cut (by omega)

/-- how many pairs there are -/
def tally (r : Rel) : Nat := (r.map fun row => row.count true).sum

theorem sum_set (f : List Bool → Nat) : ∀ (r : Rel) (x : Nat) (row : List Bool), x < r.length → ((r.set x row).map f).sum + f r[x]! = (r.map f).sum + f row
  | [], x, row, h => by simp at h
  | a :: r, 0, row, _ => by simp; omega
  | a :: r, x + 1, row, h => by
    have := sum_set f r x row (by simpa using h)
    simp only [List.set_cons_succ, List.map_cons, List.sum_cons, List.getElem!_cons_succ]
    omega
theorem count_cut : ∀ (l : List Bool) (y : Nat), y < l.length → l[y]! = true → (l.set y false).count true + 1 = l.count true
  | [], y, h, _ => by simp at h
  | c :: l, 0, _, h => by
    have : c = true := by simpa using h
    subst this; simp
  | c :: l, y + 1, h, h2 => by
    have := count_cut l y (by simpa using h) (by simpa using h2)
    simp only [List.set_cons_succ, List.count_cons]
    omega
theorem tally_cut {r : Rel} {x y : Nat} (hx : x < r.length) (hy : y < r[x]!.length) (h : r[x]![y]! = true) : tally (cutR r x y) + 1 = tally r := by
  have h1 := sum_set (fun row => row.count true) r x (r[x]!.set y false) hx
  have h2 := count_cut r[x]! y hy h
  simp only [tally, cutR] at *
  omega

/-- all of the relation holds in the other one -/
def Within (s r : Rel) : Prop := ∀ x y, x < s.length → y < s[x]!.length → rel s x y = true → rel r x y = true
end Go.AM
