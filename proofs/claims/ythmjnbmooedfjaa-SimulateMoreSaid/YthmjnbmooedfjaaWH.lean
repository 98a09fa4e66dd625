/-
  Walks: a pair's key.
-/
import Derived.Test.YthmjnbmooedfjaaWG
namespace Go.AM
open Go Go.Proofs Go.RowKit

/-- the bytes of a pair -/
def keyB (a b : List Int) : List Int := a ++ 128 :: b
def pairA (w : AV) (a b : List Int) : AV := .ag [w, vs 0 a, vs 0 b]
attribute [go_sem] pairA
theorem bytesOf_vu : ∀ l : List Int, bytesOf (l.map vu) = some l
  | [] => rfl
  | x :: l => by simp [bytesOf, vu, ← bytesOf_vu l]

/-- a contract serves wherever what its arguments stand for is known of the values -/
theorem Con.args {P : Program} {f : FuncId} {args args' : List AV} {bx : List (List AV)} {post : AV → List (List AV) → Prop} (h : Con P f args bx post)
    (ha : ∀ (G : Nat → Status) (w : World) (vs : List Value), PW (VRel G w) args' vs → PW (VRel G w) args vs) : Con P f args' bx post :=
  ⟨h.1, fun G w vs h1 h2 h3 h4 h5 => h.2 G w vs h1 h2 h3 h4 (ha G w _ h5)⟩

set_option maxRecDepth 100000 in
theorem con_key0 (a b : List Int) (ha : ∀ i ∈ a, 0 ≤ i ∧ i < 128) (hb : ∀ i ∈ b, 0 ≤ i ∧ i < 128) (hal : a.length ≤ 128) (hbl : b.length ≤ 128) :
    Con Try.prog 32 [pairA .any a b] [] fun r _ => r = .sc (.string (strOf (keyB a b))) := by
  refine Con.intro Try.func32 rfl Try.ntmps32 Try.results32 (by kernel_rfl) (by simp) 0 (by simp) ?_
  simp only [go_sem]
  refine LoopK.intro (fun k : Nat => ⟨39, [(1, .pb 0 0), (3, .sl 1280 1 ((a.take k).map vu)), (9, .sl 0 1 (a.map vi)), (10, vi a.length), (11, vi k)], [[.any, .sl 0 1 (a.map vi), .sl 0 1 (b.map vi)]]⟩)
    (fun k => a.length - k) (fun k => k ≤ a.length) 0 (by omega) ?_ ?_
  · simp only [go_sem, List.take_zero]
  intro k hk
  by_cases h : k < a.length
  · have g1 := getv h
    have hw : IntKind.i64.wrap (k + 1) = k + 1 := wrap_in (by omega) (by omega)
    have h8 : IntKind.u8.wrap a[k]! = a[k]! := by have := ha _ (mem_bang h); rw [IntKind.wrap_u8]; omega
    simp only [go_sem, h, g1, hw, h8]
    refine ⟨by simp only [roomFor, List.length_take]; omega, roundK.intro (k + 1) (by show k + 1 ≤ a.length; omega) (by show a.length - (k + 1) < a.length - k; omega) ?_⟩
    simp only [go_sem, take_snoc h, List.map_append, List.map_cons, List.map_nil, vu]
  · have hke : k = a.length := by omega
    subst hke
    simp only [go_sem, h, List.take_length]
    refine ⟨by simp only [roomFor]; omega, ?_⟩
    refine LoopK.intro (fun k : Nat => ⟨39, [(1, .pb 0 0), (3, .sl 1280 1 ((a ++ 128 :: b.take k).map vu)), (25, .sl 0 1 (b.map vi)), (26, vi b.length), (27, vi k)], [[.any, .sl 0 1 (a.map vi), .sl 0 1 (b.map vi)]]⟩)
      (fun k => b.length - k) (fun k => k ≤ b.length) 0 (by omega) ?_ ?_
    · simp only [go_sem, List.take_zero, List.map_append, List.map_cons, List.map_nil, vu]
    intro k hk
    by_cases h : k < b.length
    · have g1 := getv h
      have hw : IntKind.i64.wrap (k + 1) = k + 1 := wrap_in (by omega) (by omega)
      have h8 : IntKind.u8.wrap b[k]! = b[k]! := by have := hb _ (mem_bang h); rw [IntKind.wrap_u8]; omega
      simp only [go_sem, h, g1, hw, h8]
      refine ⟨by simp only [roomFor, List.length_append, List.length_cons, List.length_take]; omega, roundK.intro (k + 1) (by show k + 1 ≤ b.length; omega) (by show b.length - (k + 1) < b.length - k; omega) ?_⟩
      simp only [go_sem, take_snoc h, List.map_append, List.map_cons, List.map_nil, vu, List.append_assoc, List.cons_append]
    · have hke : k = b.length := by omega
      subst hke
      have hbo := bytesOf_vu (a ++ 128 :: b)
      simp only [go_sem, h, List.take_length, hbo]
      refine ⟨by simp, ?_⟩
      rfl

theorem con_key (w : AV) (a b : List Int) (ha : ∀ i ∈ a, 0 ≤ i ∧ i < 128) (hb : ∀ i ∈ b, 0 ≤ i ∧ i < 128) (hal : a.length ≤ 128) (hbl : b.length ≤ 128) :
    Con Try.prog 32 [pairA w a b] [] fun r _ => r = .sc (.string (strOf (keyB a b))) :=
  (con_key0 a b ha hb hal hbl).args fun G w vs hv => by
    obtain ⟨v, vr, rfl, h1, h2⟩ := hv.cons_inv
    obtain ⟨us, rfl, h3, h4⟩ := h1.ag_inv
    refine .cons (.ag _ us ?_ h3 fun j x u hx hu => ?_) h2
    · have := h4.1; simpa using this
    · cases j with
      | zero => simp at hx; subst hx; exact .froz (.any _)
      | succ j => exact h4.2 (j + 1) x u (by simpa using hx) hu
end Go.AM
