/-
  Walks: a dealt matrix.
-/
import Derived.Test.YtmkbhopiaohcmaaW5
namespace Go.AM
open Go Go.Proofs Go.RowKit

def RowOk (c : Nat) (row : List Int) : Prop := row.length = c ∧ ∀ x ∈ row, -16 ≤ x ∧ x ≤ 16

theorem RowOk.grow {k : Nat} {row : List Int} {x : Int} (h : RowOk k row) (h1 : -16 ≤ x) (h2 : x ≤ 16) : RowOk (k + 1) (row ++ [x]) := by
  refine ⟨by simp [h.1], fun y hy => ?_⟩
  rcases List.mem_append.1 hy with hy | hy
  · exact h.2 y hy
  · simp at hy; subst hy; exact ⟨h1, h2⟩

set_option maxRecDepth 100000 in
set_option maxHeartbeats 1000000 in
theorem con_matrix (l : List Int) (at_ : Nat) (st : Int) (n c : Nat) (ha : at_ ≤ l.length) (hl : l.length ≤ 140737488355328) (hn : n ≤ 1000000) (hc : c ≤ 1000000) : Con Try.prog 11 [.pb 0 0, vi n, vi c] [deckA l at_ st]
    fun r b => ∃ (m : List (List Int)) (at' : Nat) (st' : Int), r = vm 2 m ∧ m.length = n ∧ (∀ row ∈ m, RowOk c row) ∧ at' ≤ l.length ∧ b = [deckA l at' st'] := by
  refine Con.intro Try.func11 rfl Try.ntmps11 Try.results11 (by kernel_rfl) (by simp) 1 (by simp) ?_
  simp only [go_sem]
  refine LoopK.intro (fun p : List (List Int) × Nat × Int => ⟨41, [(0, .pb 0 0), (1, .sc (.int .i64 n)), (2, .sc (.int .i64 c)), (7, .sl 512 1 (p.1.map (vs 0))), (8, .sc (.int .i64 p.1.length))], [deckA l p.2.1 p.2.2]⟩)
    (fun p => n - p.1.length) (fun p => p.1.length ≤ n ∧ (∀ row ∈ p.1, RowOk c row) ∧ p.2.1 ≤ l.length) ([], at_, st) ⟨by simp, by simp, ha⟩ ?_ ?_
  · simp only [go_sem]
  rintro ⟨m, at1, st1⟩ ⟨h1, h2, h3⟩
  simp only at h1 h2 h3
  by_cases h : n ≤ m.length
  · have h : ¬ m.length < n := by omega
    simp only [go_sem, h]
    exact ⟨m, at1, st1, rfl, by omega, h2, h3, rfl⟩
  have h : m.length < n := by omega
  have hw : IntKind.i64.wrap (m.length + 1) = m.length + 1 := wrap_in (by omega) (by omega)
  simp only [go_sem, h]
  refine LoopK.intro (fun p : List Int × Nat × Int => ⟨41, [(0, .pb 0 0), (1, .sc (.int .i64 n)), (2, .sc (.int .i64 c)), (7, .sl 512 1 (m.map (vs 0))), (8, .sc (.int .i64 m.length)), (9, .sl 640 1 (p.1.map vi)), (10, .sc (.int .i64 p.1.length))], [deckA l p.2.1 p.2.2]⟩)
    (fun p => c - p.1.length) (fun p => p.1.length ≤ c ∧ RowOk p.1.length p.1 ∧ p.2.1 ≤ l.length) ([], at1, st1) ⟨by simp, ⟨rfl, by simp⟩, h3⟩ ?_ ?_
  · simp only [go_sem]
  rintro ⟨row, at2, st2⟩ ⟨g1, g2, g3⟩
  simp only at g1 g2 g3
  by_cases hk : c ≤ row.length
  · have hk : ¬ row.length < c := by omega
    simp only [go_sem, hk, hw]
    refine ⟨by simp [roomFor]; omega, roundK.intro (m ++ [row], at2, st2) ⟨by simp; omega, fun y hy => ?_, g3⟩ (by simp; omega) ?_⟩
    · rcases List.mem_append.1 hy with hy | hy
      · exact h2 y hy
      · simp at hy; subst hy; have e : y.length = c := by omega
        rw [e] at g2; exact g2
    · simp only [go_sem]
      exact ⟨leV_sl (by simp [vs]), leV_int (by simp)⟩
  have hk : row.length < c := by omega
  have hwk : IntKind.i64.wrap (row.length + 1) = row.length + 1 := wrap_in (by omega) (by omega)
  simp only [go_sem, hk]
  refine CallU.boxes (i := 0) (is := []) (bx0 := [deckA l at2 st2]) (con_next l at2 st2 7 g3 hl (by omega)) (by simp only [go_sem]) (by simp only [go_sem]) (by simp only [go_sem]) (by simp only [go_sem]) (by simp only [go_sem]) ?_
  rintro r b ⟨x, at3, st3, rfl, k1, k2, k3, rfl⟩
  have hwx : IntKind.i64.wrap (x - 3) = x - 3 := wrap_in (by omega) (by omega)
  simp only [go_sem, hwx]
  refine CallU.boxes (i := 0) (is := []) (bx0 := [deckA l at3 st3]) (con_one l at3 st3 20 k3 hl (by omega)) (by simp only [go_sem]) (by simp only [go_sem]) (by simp only [go_sem]) (by simp only [go_sem]) (by simp only [go_sem]) ?_
  rintro r b ⟨v, at4, st4, rfl, k4, rfl⟩
  cases v
  · simp only [go_sem, hwk]
    refine ⟨by simp [roomFor]; omega, roundK.intro (row ++ [x - 3], at4, st4) ⟨by simp; omega, by simpa using g2.grow (by omega) (by omega), k4⟩ (by simp; omega) ?_⟩
    simp only [go_sem]
    exact ⟨leV_sl (by simp [vi]), leV_int (by simp)⟩
  · simp only [go_sem]
    refine CallU.boxes (i := 0) (is := []) (bx0 := [deckA l at4 st4]) (con_next l at4 st4 2 k4 hl (by omega)) (by simp only [go_sem]) (by simp only [go_sem]) (by simp only [go_sem]) (by simp only [go_sem]) (by simp only [go_sem]) ?_
    rintro r b ⟨j, at5, st5, rfl, q1, q2, q3, rfl⟩
    have hj : j = 0 ∨ j = 1 := by omega
    rcases hj with rfl | rfl
    · simp only [go_sem, hwk]
      refine ⟨by simp [roomFor]; omega, roundK.intro (row ++ [16], at5, st5) ⟨by simp; omega, by simpa using g2.grow (x := 16) (by omega) (by omega), q3⟩ (by simp; omega) ?_⟩
      simp only [go_sem]
      exact ⟨leV_sl (by simp [vi]), leV_int (by simp)⟩
    · simp only [go_sem, hwk]
      refine ⟨by simp [roomFor]; omega, roundK.intro (row ++ [-16], at5, st5) ⟨by simp; omega, by simpa using g2.grow (x := -16) (by omega) (by omega), q3⟩ (by simp; omega) ?_⟩
      simp only [go_sem]
      exact ⟨leV_sl (by simp [vi]), leV_int (by simp)⟩
end Go.AM
