/-
  Walks: systems of the dice.
-/
import Derived.Test.YthmjnbmooedfjaaW1
namespace Go.AM
open Go Go.Proofs Go.RowKit

def va (a : Int × Int) : AV := .ag [vi a.1, vi a.2]
def vl (t : Nat) (l : List (Int × Int)) : AV := .sl t 2 (l.map va)
def vy (t : Nat) (s : List (List (Int × Int))) : AV := .ag [.sl t 1 (s.map (vl 0))]
def cfg (i : Nat) : AV := .ag [vi i, .nil]
attribute [go_sem] va vl vy cfg

set_option maxRecDepth 100000 in
theorem con_graph (l : List Int) (at_ : Nat) (hs : Seeds l) (ha : at_ ≤ l.length) : Con Try.prog 19 [.pb 0 0] [diceA l at_]
    fun r b => ∃ (s : List (List (Int × Int))) (at' : Nat), r = .ag [.sl 2 2 ((List.range s.length).map cfg), .sl 3 1 (s.map (vl 0))] ∧ 1 ≤ s.length ∧ s.length ≤ 6 ∧ (∀ x ∈ s, x.length ≤ 3 ∧ ∀ a ∈ x, 0 ≤ a.1 ∧ a.1 < 3 ∧ 0 ≤ a.2 ∧ a.2 < s.length) ∧ at' ≤ l.length ∧ b = [diceA l at'] := by
  refine Con.intro Try.func19 rfl Try.ntmps19 Try.results19 (by kernel_rfl) (by simp) 1 (by simp) ?_
  simp only [go_sem]
  refine CallU.boxes (i := 0) (is := []) (bx0 := [diceA l at_]) (con_pick l at_ 6 hs ha (by omega)) (by simp only [go_sem]) (by simp only [go_sem]) (by simp only [go_sem]) (by simp only [go_sem]) (by simp only [go_sem]) ?_
  rintro r b ⟨n, at1, rfl, hn0, hn6, ha1, rfl⟩
  obtain ⟨N, hN, hN1, hN6⟩ : ∃ N : Nat, 1 + n = N ∧ 1 ≤ N ∧ N ≤ 6 := ⟨(1 + n).toNat, by omega, by omega, by omega⟩
  have hw : IntKind.i64.wrap (1 + n) = N := by rw [wrap_in (by omega) (by omega)]; exact hN
  simp only [go_sem, hw]
  refine LoopK.intro (fun p : List (List (Int × Int)) × Nat => ⟨45, [(0, .pb 0 0), (2, .pb 1 0), (3, .pb 2 0), (4, .sc (.int .i64 N)), (5, .sc (.int .i64 p.1.length))], [diceA l p.2, [.nil, .nil], [.sl 1408 2 ((List.range p.1.length).map cfg), .sl 2752 1 (p.1.map (vl 0))]]⟩)
    (fun p => N - p.1.length) (fun p => p.1.length ≤ N ∧ (∀ x ∈ p.1, x.length ≤ 3 ∧ ∀ a ∈ x, 0 ≤ a.1 ∧ a.1 < 3 ∧ 0 ≤ a.2 ∧ a.2 < N) ∧ p.2 ≤ l.length) ([], at1) ⟨by simp, by simp, ha1⟩ ?_ ?_
  · simp only [go_sem, List.length_nil, List.range_zero]
  rintro ⟨s, at2⟩ ⟨h1, h2, h3⟩
  simp only at h1 h2 h3
  by_cases h : s.length < N
  case' pos => skip
  case neg =>
    simp only [go_sem, h]
    have e : s.length = N := by omega
    refine ⟨s, at2, rfl, by omega, by omega, fun x hx => ?_, h3, rfl⟩
    rw [e]; exact h2 x hx
  have hw2 : IntKind.i64.wrap (s.length + 1) = s.length + 1 := wrap_in (by omega) (by omega)
  simp only [go_sem, h, List.length_range]
  refine ⟨by simp [roomFor]; omega, ?_⟩
  refine CallU.boxes (i := 0) (is := []) (bx0 := [diceA l at2]) (con_pick l at2 4 hs h3 (by omega)) (by simp only [go_sem]) (by simp only [go_sem]) (by simp only [go_sem]) (by simp only [go_sem]) (by simp only [go_sem]) ?_
  rintro r b ⟨k, at3, rfl, hk0, hk4, ha3, rfl⟩
  simp only [go_sem]
  refine LoopK.intro (fun p : List (Int × Int) × Nat × Nat => ⟨45, [(0, .pb 0 0), (2, .pb 1 0), (3, .pb 2 0), (4, .sc (.int .i64 N)), (5, .sc (.int .i64 s.length)), (6, .sl 448 2 (p.1.map va)), (7, .sc (.int .i64 p.2.1))], [diceA l p.2.2, [.nil, .nil], [.sl 1408 2 ((List.range (s.length + 1)).map cfg), .sl 2752 1 (s.map (vl 0))]]⟩)
    (fun p => p.2.1) (fun p => p.1.length + p.2.1 ≤ 3 ∧ (∀ a ∈ p.1, 0 ≤ a.1 ∧ a.1 < 3 ∧ 0 ≤ a.2 ∧ a.2 < N) ∧ p.2.2 ≤ l.length) ([], k.toNat, at3) ⟨by simp; omega, by simp, ha3⟩ ?_ ?_
  · simp only [go_sem, List.range_succ, List.map_append, List.map_cons, List.map_nil]
    exact leV_int (by omega)
  rintro ⟨row, j, at4⟩ ⟨g1, g2, g3⟩
  simp only at g1 g2 g3
  by_cases hj : (0 : Int) < j
  case' pos => skip
  case neg =>
    simp only [go_sem, hj, hw2]
    refine ⟨by simp [roomFor]; omega, roundK.intro (s ++ [row], at4) ⟨by simp; omega, fun x hx => ?_, g3⟩ (by simp; omega) ?_⟩
    · rcases List.mem_append.1 hx with hx | hx
      · exact h2 x hx
      · simp at hx; subst hx; exact ⟨by omega, g2⟩
    · simp only [go_sem, List.range_succ, List.length_append, List.length_cons, List.length_nil, List.map_append]
  have hw3 : IntKind.i64.wrap (j - 1) = (j - 1 : Nat) := by rw [wrap_in (by omega) (by omega)]; omega
  simp only [go_sem, hj]
  refine CallU.boxes (i := 0) (is := []) (bx0 := [diceA l at4]) (con_pick l at4 3 hs g3 (by omega)) (by simp only [go_sem]) (by simp only [go_sem]) (by simp only [go_sem]) (by simp only [go_sem]) (by simp only [go_sem]) ?_
  rintro r b ⟨a, at5, rfl, hb0, hb3, ha5, rfl⟩
  simp only [go_sem]
  refine CallU.boxes (i := 0) (is := []) (bx0 := [diceA l at5]) (con_pick l at5 N hs ha5 (by omega)) (by simp only [go_sem]) (by simp only [go_sem]) (by simp only [go_sem]) (by simp only [go_sem]) (by simp only [go_sem]) ?_
  rintro r b ⟨c, at6, rfl, hc0, hc3, ha6, rfl⟩
  simp only [go_sem, hw3]
  refine ⟨by simp [roomFor]; omega, roundK.intro (row ++ [(a, c)], j - 1, at6) ⟨by simp; omega, fun x hx => ?_, ha6⟩ (by simp; omega) ?_⟩
  · rcases List.mem_append.1 hx with hx | hx
    · exact g2 x hx
    · simp at hx; subst hx; exact ⟨hb0, hb3, hc0, hc3⟩
  · simp only [go_sem, List.range_succ]
    exact leV_sl (by simp [va, vi])

/-- a system as the dice deal it -/
def Dealt (s : List (List (Int × Int))) : Prop := 1 ≤ s.length ∧ s.length ≤ 6 ∧ ∀ x ∈ s, x.length ≤ 3 ∧ ∀ a ∈ x, 0 ≤ a.1 ∧ a.1 < 3 ∧ 0 ≤ a.2 ∧ a.2 < s.length

set_option maxRecDepth 100000 in
theorem con_system (l : List Int) (at_ : Nat) (hs : Seeds l) (ha : at_ ≤ l.length) : Con Try.prog 11 [.pb 0 0] [diceA l at_]
    fun r b => ∃ (s : List (List (Int × Int))) (at' : Nat), r = vy 2 s ∧ Dealt s ∧ at' ≤ l.length ∧ b = [diceA l at'] := by
  refine Con.intro Try.func11 rfl Try.ntmps11 Try.results11 (by kernel_rfl) (by simp) 1 (by simp) ?_
  simp only [go_sem]
  refine CallU.boxes (i := 0) (is := []) (bx0 := [diceA l at_]) (con_graph l at_ hs ha) (by simp only [go_sem]) (by simp only [go_sem]) (by simp only [go_sem]) (by simp only [go_sem]) (by simp only [go_sem]) ?_
  rintro r b ⟨s, at', rfl, h1, h2, h3, h4, rfl⟩
  simp only [go_sem]
  exact ⟨s, at', rfl, ⟨h1, h2, h3⟩, h4, rfl⟩

set_option maxRecDepth 100000 in
theorem con_all : Con Try.prog 15 [] [] fun r _ => r = vy 2 [[(0, 0), (1, 0), (2, 0)]] := by
  refine Con.intro Try.func15 rfl Try.ntmps15 Try.results15 (by kernel_rfl) (by simp) 0 (by simp) ?_
  simp only [go_sem]
end Go.AM
