/-
  From the contract of a law of one list of bytes to its row.
-/
import Derived.Test.YthmjnbmooedfjaaRows
import Derived.Test.YthmjnbmooedfjaaAmT
import Derived.Test.YthmjnbmooedfjaaW1
namespace Go.Proofs.Ythmjnbmooedfjaa
open Go.ChangeShapes Go.WideShapes Go.ChangeAt Go.RowKit Go.AM

theorem own : ownKnob Try.prog.godebug = none := by kernel_rfl
theorem laidOut : laidOutB Try.prog = true := by kernel_rfl
theorem read22 : Try.prog.readableRec 22 = true ∧ 22 < Try.prog.types.size := ⟨by kernel_rfl, of_decide_eq_true (by kernel_rfl)⟩
theorem reads22 (n : Nat) : ∀ t ∈ List.replicate n 22, Try.prog.readableRec t = true ∧ t < Try.prog.types.size := fun t ht => by rw [List.eq_of_mem_replicate ht]; exact read22

section
variable {H : Type} {enc : TypeId × Value → H} {P : Program} {w : World} {base : Nat} {spare : Nat → Bool} {held : Bool}
/-- a byte -/
def numU (d : DataW H) : Int := IntKind.u8.wrap (numI d)
theorem numU_range (d : DataW H) : 0 ≤ numU d ∧ numU d < 256 := by unfold numU; rw [IntKind.wrap_u8]; omega
theorem stands_u8 {e : TypeId} (he : P.underlying e = some (.int .u8)) : Stands enc P w base spare held e fun d => vu (numU d) := by
  intro n v d ps h
  obtain ⟨x, e0, e1, wx⟩ := DataW.trod_int he h
  simp only [List.cons.injEq, and_true] at e0
  simp only [Prod.mk.injEq] at e1
  obtain ⟨rfl, _⟩ := e1
  subst e0
  have e2 : numU (.lit (.int .u8 x) : DataW H) = x := by
    have : IntKind.u8.wrap x = x := by
      have h1 : 0 ≤ x ∧ x ≤ 255 := by simpa [Lit.wf, IntKind.min, IntKind.max, IntKind.signed, IntKind.bits] using wx
      rw [IntKind.wrap_u8]; omega
    exact this
  simp only [e2, vu]
  exact ⟨.sc _, rfl, rfl⟩
theorem row_len {α : Type} {t e : TypeId} {f : DataW H → α} {v : Value} {d : DataW H} {ps : List MemPlace} (ht : P.underlying t = some (.slice e)) (hc : P.cellsOf e = 1) (h1 : v.cells.toList = [v]) (h : DataW.Trod enc P w base spare held t v d ps) : (rowOf f d).length ≤ 9223372036854775807 := by
  obtain ⟨n, h⟩ := h
  rw [h1] at h
  rcases Go.Deep.open_slice1 ht hc h with ⟨_, h2⟩ | ⟨a, len, cap, m, n', V, D, Pl, _, _, hl, hm, _, h2, _⟩
  · simp only [Prod.mk.injEq] at h2
    obtain ⟨rfl, _⟩ := h2
    simp [rowOf]
  · simp only [Prod.mk.injEq] at h2
    obtain ⟨rfl, _⟩ := h2
    simp only [rowOf, List.length_map, List.length_range]
    unfold maxLen at hm; omega
theorem rowU_range (d : DataW H) : ∀ x ∈ rowOf numU d, 0 ≤ x ∧ x < 256 := fun x hx => by
  cases d <;> simp only [rowOf, List.not_mem_nil] at hx
  obtain ⟨y, _, rfl⟩ := List.mem_map.1 hx
  exact numU_range y
end
end Go.Proofs.Ythmjnbmooedfjaa
