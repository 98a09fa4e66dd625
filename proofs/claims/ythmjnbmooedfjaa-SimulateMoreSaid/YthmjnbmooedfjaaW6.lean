/-
  Walks: refine.
-/
import Derived.Test.YthmjnbmooedfjaaW5
import Derived.Test.YthmjnbmooedfjaaLa
namespace Go.AM
open Go Go.Proofs Go.RowKit

/-- what a pass over the pairs has come to at the pair x, y: -/
structure Pass (a b : Sys) (r : Rel) (x y : Nat) (r' : Rel) (c : Bool) : Prop where
  red : Red a b r r'
  same : c = false → r' = r ∧ (∀ i j, i < x → j < b.length → rel r i j = true → matchesF r a b i j = true) ∧ ∀ j, j < y → rel r x j = true → matchesF r a b x j = true
  less : c = true → tally r' < tally r

theorem Pass.skip {a b : Sys} {r r' : Rel} {x y : Nat} {c : Bool} (h : Pass a b r x y r' c) (hm : r'[x]![y]! = true → matchesF r' a b x y = true) : Pass a b r x (y + 1) r' c := by
  refine ⟨h.red, fun hc => ?_, h.less⟩
  obtain ⟨h1, h2, h3⟩ := h.same hc
  subst h1
  refine ⟨rfl, h2, fun j hj hr => ?_⟩
  by_cases hjy : j = y
  · subst hjy; exact hm hr
  · exact h3 j (by omega) hr
theorem Pass.tally_le {a b : Sys} {r r' : Rel} {x y : Nat} {c : Bool} (h : Pass a b r x y r' c) : tally r' ≤ tally r := by
  cases c
  · rw [(h.same rfl).1]; exact Nat.le_refl _
  · have := h.less rfl; omega
theorem Pass.cut {a b : Sys} {r r' : Rel} {x y : Nat} {c : Bool} (h : Pass a b r x y r' c) (hx : x < a.length) (hy : y < b.length) (hx2 : x < r'.length) (hy2 : y < r'[x]!.length) (hin : r'[x]![y]! = true) (hm : matchesF r' a b x y = false) : Pass a b r x (y + 1) (cutR r' x y) true := by
  refine ⟨.cut _ _ x y h.red hx hy hm, fun hc => (by cases hc), fun _ => ?_⟩
  have h1 := tally_cut hx2 hy2 hin
  have h2 := h.tally_le
  omega
theorem Pass.row {a b : Sys} {r r' : Rel} {x y : Nat} {c : Bool} (h : Pass a b r x y r' c) (hy : b.length ≤ y) : Pass a b r (x + 1) 0 r' c := by
  refine ⟨h.red, fun hc => ?_, h.less⟩
  obtain ⟨h1, h2, h3⟩ := h.same hc
  refine ⟨h1, fun i j hi hj hr => ?_, fun j hj => by omega⟩
  by_cases hix : i = x
  · subst hix; exact h3 j (by omega) hr
  · exact h2 i j (by omega) hj hr

set_option maxRecDepth 100000 in
theorem con_refine (r : Rel) (a b : Sys) (hr : Sized r a.length b.length) (ha : Closed1 a) (hb : Closed1 b) :
    ConW Try.prog 37 [vtb 2 r, vy 0 a, vy 0 b] fun u ys => ∃ r' c, u = .sc (.bool c) ∧ ys = [vtb 2 r', vy 0 a, vy 0 b] ∧ Pass a b r a.length 0 r' c := by
  refine ConW.intro Try.func37 rfl Try.ntmps37 Try.results37 (by kernel_rfl) (by simp) ?_
  simp only [go_sem]
  refine LoopK.intro (fun p : Nat × Rel × Bool => ⟨42, [(0, .so 2 (rowsB 2 p.2.1)), (4, .pb 1 0), (5, .pb 2 0), (7, .sc (.bool p.2.2)), (12, .so 2 (rowsB 2 p.2.1)), (13, .sc (.int .i64 r.length)), (14, .sc (.int .i64 p.1))], [[.so 2 (rowsB 2 p.2.1), vy 0 a, vy 0 b], [.sl 0 1 (a.map (vl 0))], [.sl 0 1 (b.map (vl 0))]]⟩)
    (fun p => r.length - p.1) (fun p => p.1 ≤ r.length ∧ Pass a b r p.1 0 p.2.1 p.2.2) (0, r, false) ⟨by simp, ⟨.refl _, fun _ => ⟨rfl, fun i j h => by omega, fun j h => by omega⟩, fun h => by cases h⟩⟩ ?_ ?_
  · simp only [go_sem]
  rintro ⟨x, r1, c1⟩ ⟨h1, h2⟩
  simp only at h1 h2
  have hs1 : Sized r1 a.length b.length := h2.red.sized rfl hr
  have hl1 : r1.length = r.length := by rw [hs1.1, hr.1]
  by_cases hx : x < r.length
  case' pos => skip
  case neg =>
    simp only [go_sem, hx]
    exact ⟨r1, c1, rfl, rfl, by have : x = a.length := by rw [← hr.1]; omega
                                rw [← this]; exact h2⟩
  have hx1 : x < r1.length := by omega
  have hxa : x < a.length := by rw [← hr.1]; exact hx
  have hwx : IntKind.i64.wrap (x + 1) = x + 1 := wrap_in (by omega) (by have := ha.1; omega)
  have hg := gettb (t := 2) hx1
  simp only [go_sem, hx, hx1, hg]
  have hrow1 : r1[x]!.length = b.length := hs1.2 _ (mem_bang hx1)
  refine LoopK.intro (fun p : Nat × Rel × Bool => ⟨42, [(0, .so 2 (rowsB 2 p.2.1)), (4, .pb 1 0), (5, .pb 2 0), (7, .sc (.bool p.2.2)), (8, .sc (.int .i64 x)), (9, .sl (subT 2 x) 1 (p.2.1[x]!.map vb)), (12, .so 2 (rowsB 2 p.2.1)), (13, .sc (.int .i64 r.length)), (14, .sc (.int .i64 x)), (19, .sl (subT 2 x) 1 (p.2.1[x]!.map vb)), (20, .sc (.int .i64 b.length)), (21, .sc (.int .i64 p.1))], [[.so 2 (rowsB 2 p.2.1), vy 0 a, vy 0 b], [.sl 0 1 (a.map (vl 0))], [.sl 0 1 (b.map (vl 0))]]⟩)
    (fun p => b.length - p.1) (fun p => p.1 ≤ b.length ∧ Pass a b r x p.1 p.2.1 p.2.2) (0, r1, c1) ⟨by simp, h2⟩ ?_ ?_
  · simp only [go_sem, hrow1]
  rintro ⟨y, r2, c2⟩ ⟨k1, k2⟩
  simp only at k1 k2
  have hs2 : Sized r2 a.length b.length := k2.red.sized rfl hr
  have hx2 : x < r2.length := by rw [hs2.1]; exact hxa
  have hrow2 : r2[x]!.length = b.length := hs2.2 _ (mem_bang hx2)
  by_cases hy : y < b.length
  case' pos => skip
  case neg =>
    simp only [go_sem, hy, hwx]
    refine roundK.intro (x + 1, r2, c2) ⟨by show x + 1 ≤ r.length; omega, k2.row (by omega)⟩ (by show r.length - (x + 1) < r.length - x; omega) ?_
    simp only [go_sem]
  have hy2 : y < r2[x]!.length := by omega
  have hwy : IntKind.i64.wrap (y + 1) = y + 1 := wrap_in (by omega) (by have := hb.1; omega)
  have hgy := getvb hy2
  cases hin : r2[x]![y]!
  · simp only [go_sem, hy, hy2, hgy, hin, hwy]
    refine roundK.intro (y + 1, r2, c2) ⟨by show y + 1 ≤ b.length; omega, k2.skip (by rw [hin]; intro h; cases h)⟩ (by show b.length - (y + 1) < b.length - y; omega) ?_
    simp only [go_sem]
  simp only [go_sem, hy, hy2, hgy, hin]
  refine CallU.flat (con_matches r2 a b x y hs2 ha hb hxa hy) (by simp only [go_sem]) (by simp only [go_sem]) ?_
  rintro u bx rfl
  cases hm : matchesF r2 a b x y
  · simp only [go_sem, hm, hy2, hwy]
    refine roundK.intro (y + 1, cutR r2 x y, true) ⟨by show y + 1 ≤ b.length; omega, k2.cut hxa hy hx2 hy2 hin hm⟩ (by show b.length - (y + 1) < b.length - y; omega) ?_
    have e1 : (cutR r2 x y)[x]! = r2[x]!.set y false := by
      unfold cutR
      rw [getElem!_pos _ x (by simpa using hx2)]; simp
    have e2 : r2.set x (r2[x]!.set y false) = cutR r2 x y := rfl
    simp only [go_sem, modify_vb', e1, e2]
    trace_state
  · simp only [go_sem, hm, hwy]
    refine roundK.intro (y + 1, r2, c2) ⟨by show y + 1 ≤ b.length; omega, k2.skip (fun _ => hm)⟩ (by show b.length - (y + 1) < b.length - y; omega) ?_
    simp only [go_sem]
end Go.AM
