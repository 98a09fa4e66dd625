/-
  Walks: Simulates.
-/
import Derived.Test.YthmjnbmooedfjaaW8
namespace Go.AM
open Go Go.Proofs Go.RowKit

/-- what Simulates returns, of valid systems -/
def Sim00 (a b : Sys) (v : Bool) : Prop := ∃ R, IsGreatest a b R ∧ v = rel R 0 0

set_option maxRecDepth 100000 in
theorem con_simulates (a b : Sys) (hab : bothS a b = 0) (ha : ∀ l ∈ a, l.length ≤ 281474976710656) (hb : ∀ l ∈ b, l.length ≤ 281474976710656) (hb8 : b.length ≤ 8) :
    Con Try.prog 12 [vy 0 a, vy 0 b] [] fun r _ => ∃ v, r = .tup [.sc (.bool v), vi 0] ∧ Sim00 a b v := by
  have hca : checkS a = 0 := by unfold bothS at hab; split at hab <;> assumption
  have hcb : checkS b = 0 := by unfold bothS at hab; rw [if_pos hca] at hab; exact hab
  obtain ⟨a1, a2, a3⟩ := checkS_ok hca
  obtain ⟨b1, b2, b3⟩ := checkS_ok hcb
  refine Con.intro Try.func12 rfl Try.ntmps12 Try.results12 (by kernel_rfl) (by simp) 0 (by simp) ?_
  simp only [go_sem]
  refine CallU.free (con_greatest a b hab ha hb hb8) (by simp only [go_sem]) (by simp only [go_sem]) ?_
  rintro r bx ⟨R, rfl, hR⟩
  have h0 : 0 < R.length := by rw [hR.1.1]; omega
  have hr0 : 0 < R[0]!.length := by rw [hR.1.2 _ (mem_bang h0)]; omega
  have g1 := gettb (t := 770) h0
  have g2 := getvb hr0
  simp only [go_sem, h0, hr0, g1, g2]

  exact ⟨_, rfl, R, hR, rfl⟩

open Classical in
/-- the one answer -/
noncomputable def simV (a b : Sys) : Bool := if Sim00 a b true then true else false

theorem Sim00.eq {a b : Sys} {v : Bool} (h : Sim00 a b v) (ha : Inside a) (hb : Inside b) (h1 : 0 < a.length) (h2 : 0 < b.length) : v = simV a b := by
  unfold simV
  obtain ⟨R, hR, hv⟩ := h
  split
  · rename_i hs
    obtain ⟨R', hR', hv'⟩ := hs
    rw [hv]
    exact hR.greatest ha hb hR'.sim h1 h2 hv'.symm
  · rename_i hs
    cases v
    · rfl
    · exact absurd ⟨R, hR, hv⟩ hs

theorem con_simulatesV (a b : Sys) (hca : checkS a = 0) (hcb : checkS b = 0) (ha : ∀ l ∈ a, l.length ≤ 281474976710656) (hb : ∀ l ∈ b, l.length ≤ 281474976710656) (hb8 : b.length ≤ 8) :
    Con Try.prog 12 [vy 0 a, vy 0 b] [] fun r _ => r = .tup [.sc (.bool (simV a b)), vi 0] :=
  (con_simulates a b (by simp [bothS, hca, hcb]) ha hb hb8).mono fun r bx ⟨v, h1, h2⟩ => by
    rw [h1, h2.eq (checkS_ok hca).2.2 (checkS_ok hcb).2.2 (checkS_ok hca).1 (checkS_ok hcb).1]

theorem dealt_check {s : Sys} (h : Dealt s) : checkS s = 0 := by
  have h1 : decide (s.length < 1) = false := decide_eq_false (by have := h.1; omega)
  have h2 : decide (128 < s.length) = false := decide_eq_false (by have := h.2.1; omega)
  have h3 : s.any (fun l => l.any (badArc s.length)) = false := by
    rw [List.any_eq_false]
    intro l hl
    simp only [Bool.not_eq_true]
    rw [List.any_eq_false]
    intro q hq
    have := (h.2.2 l hl).2 q hq
    simp only [badArc, Bool.or_eq_true, decide_eq_true_eq]
    omega
  have h4 : decide (256 < (s.map List.length).sum) = false := decide_eq_false (by
    have := sumLen_le (s := s) (B := 3) fun l hl => (h.2.2 l hl).1
    have := h.2.1; omega)
  simp only [checkS, h1, h2, h3, h4, Bool.or_self, Bool.false_eq_true, if_false]
theorem dealt_both {a b : Sys} (h1 : checkS a = 0) (h2 : checkS b = 0) : bothS a b = 0 := by simp [bothS, h1, h2]
theorem all_check : checkS allS = 0 := by decide
theorem checkS_inside {s : Sys} (h : checkS s = 0) : Inside s := (checkS_ok h).2.2
theorem dealt_len {s : Sys} (h : Dealt s) : ∀ l ∈ s, l.length ≤ 281474976710656 := fun l hl => by have := (h.2.2 l hl).1; omega
theorem all_len : ∀ l ∈ allS, l.length ≤ 281474976710656 := fun l hl => by
  simp only [allS, List.mem_singleton] at hl; subst hl; decide
end Go.AM
