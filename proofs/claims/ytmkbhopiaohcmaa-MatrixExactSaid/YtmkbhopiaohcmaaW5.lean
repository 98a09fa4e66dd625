/-
  Walks: the deck.
-/
import Derived.Test.YtmkbhopiaohcmaaW4
namespace Go.AM
open Go Go.Proofs Go.RowKit

/-- a deck, as it lies in memory -/
def deckA (l : List Int) (at_ : Nat) (st : Int) : List AV := [.sl 0 1 (l.map vi), .sc (.int .i64 at_), .sc (.int .u64 st)]
attribute [go_sem] deckA

set_option maxRecDepth 100000 in
theorem con_new (l : List Int) : Con Try.prog 10 [vs 0 l] [] fun r b => r = .pb 0 0 ∧ b = [deckA l 0 11400714819323198485] := by
  refine Con.intro Try.func10 rfl Try.ntmps10 Try.results10 (by kernel_rfl) (by simp) 1 (by simp) ?_
  simp only [go_sem]

theorem u64_range (x : Int) : 0 ≤ IntKind.u64.wrap x ∧ IntKind.u64.wrap x < 18446744073709551616 := by
  rw [IntKind.wrap_u64]; omega

set_option maxRecDepth 100000 in
theorem con_long (l : List Int) (at_ : Nat) (st : Int) (ha : at_ ≤ l.length) (hl : l.length ≤ 140737488355328) : Con Try.prog 31 [.pb 0 0] [deckA l at_ st]
    fun r b => ∃ v at' st', r = .sc (.int .u64 v) ∧ 0 ≤ v ∧ v < 18446744073709551616 ∧ at' ≤ l.length ∧ b = [deckA l at' st'] := by
  refine Con.intro Try.func31 rfl Try.ntmps31 Try.results31 (by kernel_rfl) (by simp) 1 (by simp) ?_
  simp only [go_sem]
  refine DrawK.walk 10 mixed (by kernel_rfl) ?_
  by_cases h : at_ < l.length
  · have hg := getv h
    have hw : IntKind.i64.wrap (at_ + 1) = at_ + 1 := wrap_in (by omega) (by omega)
    simp only [go_sem, h]
    refine DrawK.walk 12 mixed (by kernel_rfl) ?_
    simp only [go_sem, h, hg, hw]
    refine DrawK.walk 11 mixed (by kernel_rfl) ?_
    simp only [go_sem]
    exact ⟨_, at_ + 1, _, rfl, (u64_range _).1, (u64_range _).2, by omega, rfl⟩
  · simp only [go_sem, h]
    refine DrawK.walk 11 mixed (by kernel_rfl) ?_
    simp only [go_sem]
    exact ⟨_, at_, _, rfl, (u64_range _).1, (u64_range _).2, by omega, rfl⟩

set_option maxRecDepth 100000 in
theorem con_next (l : List Int) (at_ : Nat) (st n : Int) (ha : at_ ≤ l.length) (hl : l.length ≤ 140737488355328) (hn : 1 ≤ n) : Con Try.prog 12 [.pb 0 0, vi n] [deckA l at_ st]
    fun r b => ∃ v at' st', r = vi v ∧ 0 ≤ v ∧ v < n ∧ at' ≤ l.length ∧ b = [deckA l at' st'] := by
  refine Con.intro Try.func12 rfl Try.ntmps12 Try.results12 (by kernel_rfl) (by simp) 1 (by simp) ?_
  have h1 : ¬ n < 1 := by omega
  simp only [go_sem, h1]
  refine CallU.boxes (i := 0) (is := []) (bx0 := [deckA l at_ st]) (con_long l at_ st ha hl) (by simp only [go_sem]) (by simp only [go_sem]) (by simp only [go_sem]) (by simp only [go_sem]) (by simp only [go_sem]) ?_
  rintro r b ⟨v, at', st', rfl, h2, h3, h4, rfl⟩
  simp only [go_sem]
  have hv : IntKind.i64.wrap (v.fdiv (2 ^ min 1 64)) = v / 2 := by
    have e : (2 : Int) ^ min 1 64 = 2 := rfl
    rw [e, Int.fdiv_eq_ediv_of_nonneg _ (by omega)]
    exact wrap_in (by omega) (by omega)
  rw [hv]
  have hnn : 0 ≤ v / 2 := by omega
  refine ⟨by omega, _, at', st', rfl, Int.tmod_nonneg _ hnn, ?_, h4, rfl⟩
  rw [Int.tmod_eq_emod_of_nonneg hnn]
  exact Int.emod_lt_of_pos _ (by omega)

set_option maxRecDepth 100000 in
theorem con_one (l : List Int) (at_ : Nat) (st n : Int) (ha : at_ ≤ l.length) (hl : l.length ≤ 140737488355328) (hn : 1 ≤ n) : Con Try.prog 30 [.pb 0 0, vi n] [deckA l at_ st]
    fun r b => ∃ (v : Bool) (at' : Nat) (st' : Int), r = .sc (.bool v) ∧ at' ≤ l.length ∧ b = [deckA l at' st'] := by
  refine Con.intro Try.func30 rfl Try.ntmps30 Try.results30 (by kernel_rfl) (by simp) 1 (by simp) ?_
  simp only [go_sem]
  refine CallU.boxes (i := 0) (is := []) (bx0 := [deckA l at_ st]) (con_next l at_ st n ha hl hn) (by simp only [go_sem]) (by simp only [go_sem]) (by simp only [go_sem]) (by simp only [go_sem]) (by simp only [go_sem]) ?_
  rintro r b ⟨v, at', st', rfl, h2, h3, h4, rfl⟩
  simp only [go_sem]
  exact ⟨_, at', st', rfl, h4, rfl⟩

set_option maxRecDepth 100000 in
theorem con_small (l : List Int) (at_ : Nat) (st : Int) (n : Nat) (most : Int) (ha : at_ ≤ l.length) (hl : l.length ≤ 140737488355328) (hn : n ≤ 1000000) (hmost : 0 ≤ most) (hm2 : most ≤ 1000000) : Con Try.prog 15 [.pb 0 0, vi n, vi most] [deckA l at_ st]
    fun r b => ∃ (v : List Int) (at' : Nat) (st' : Int), r = vs 2 v ∧ v.length = n ∧ (∀ x ∈ v, 0 ≤ x ∧ x ≤ most) ∧ at' ≤ l.length ∧ b = [deckA l at' st'] := by
  refine Con.intro Try.func15 rfl Try.ntmps15 Try.results15 (by kernel_rfl) (by simp) 1 (by simp) ?_
  simp only [go_sem]
  refine LoopK.intro (fun p : List Int × Nat × Int => ⟨22, [(0, .pb 0 0), (1, .sc (.int .i64 n)), (2, .sc (.int .i64 most)), (7, .sl 512 1 (p.1.map vi)), (8, .sc (.int .i64 p.1.length))], [deckA l p.2.1 p.2.2]⟩)
    (fun p => n - p.1.length) (fun p => p.1.length ≤ n ∧ (∀ x ∈ p.1, 0 ≤ x ∧ x ≤ most) ∧ p.2.1 ≤ l.length) ([], at_, st) ⟨by simp, by simp, ha⟩ ?_ ?_
  · simp only [go_sem]
  · rintro ⟨v, at', st'⟩ ⟨h1, h2, h3⟩
    simp only at h1 h2 h3
    by_cases h : v.length < n
    · have hw : IntKind.i64.wrap (v.length + 1) = v.length + 1 := wrap_in (by omega) (by omega)
      have hw2 : IntKind.i64.wrap (most + 1) = most + 1 := wrap_in (by omega) (by omega)
      simp only [go_sem, h, hw2]
      refine CallU.boxes (i := 0) (is := []) (bx0 := [deckA l at' st']) (con_next l at' st' (most + 1) h3 hl (by omega)) (by simp only [go_sem]) (by simp only [go_sem]) (by simp only [go_sem]) (by simp only [go_sem]) (by simp only [go_sem]) ?_
      rintro r b ⟨x, at2, st2, rfl, g2, g3, g4, rfl⟩
      simp only [go_sem, hw]
      refine ⟨by simp [roomFor]; omega, roundK.intro (v ++ [x], at2, st2) ⟨by simp; omega, fun y hy => ?_, g4⟩ (by simp; omega) ?_⟩
      · rcases List.mem_append.1 hy with hy | hy
        · exact h2 y hy
        · simp at hy; subst hy; omega
      · simp only [go_sem]
        exact ⟨leV_sl (by simp [vi]), leV_int (by simp)⟩
    · simp only [go_sem, h]
      exact ⟨v, at', st', rfl, by omega, h2, h3, rfl⟩
end Go.AM
