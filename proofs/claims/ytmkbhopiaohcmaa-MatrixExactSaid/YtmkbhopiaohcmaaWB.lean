/-
  Walks: the leading rows and columns; Rank.
-/
import Derived.Test.YtmkbhopiaohcmaaWA
namespace Go.AM
open Go Go.Proofs Go.RowKit

def pickOk (m : List (List Int)) (p : List Int × List Int) (j : Int) (i : Nat) : Bool := !(p.1.any fun x => (i : Int) == x) && detF m (p.1 ++ [(i : Int)]) (p.2 ++ [j]) != 0
/-- the first row that can be taken -/
def pickF (m : List (List Int)) (p : List Int × List Int) (j : Int) : Option Nat := (List.range m.length).find? (pickOk m p j)
def leadGo (m : List (List Int)) : Nat → List Int × List Int
  | 0 => ([], [])
  | j + 1 => match pickF m (leadGo m j) j with
    | some i => ((leadGo m j).1 ++ [(i : Int)], (leadGo m j).2 ++ [(j : Int)])
    | none => leadGo m j
def leadF (m : List (List Int)) : List Int × List Int := leadGo m m[0]!.length

theorem pick_some {m : List (List Int)} {p : List Int × List Int} {j : Int} {i : Nat} (h : i < m.length) (hb : ∀ k, k < i → pickOk m p j k = false) (hp : pickOk m p j i = true) : pickF m p j = some i := by
  unfold pickF
  rw [List.find?_range_eq_some]
  exact ⟨hp, List.mem_range.2 h, fun k hk => by simp [hb k hk]⟩
theorem pick_none {m : List (List Int)} {p : List Int × List Int} {j : Int} (hb : ∀ k, k < m.length → pickOk m p j k = false) : pickF m p j = none := by
  unfold pickF
  rw [List.find?_eq_none]
  intro k hk
  simp [hb k (List.mem_range.1 hk)]
theorem pick_lt {m : List (List Int)} {p : List Int × List Int} {j : Int} {i : Nat} (h : pickF m p j = some i) : i < m.length ∧ pickOk m p j i = true := by
  have := List.find?_some h
  exact ⟨List.mem_range.1 (List.mem_of_find?_eq_some h), this⟩

structure LeadOk (m : List (List Int)) (j : Nat) : Prop where
  rows : Below m.length (leadGo m j).1
  cols : Below j (leadGo m j).2
  same : (leadGo m j).1.length = (leadGo m j).2.length
  le : (leadGo m j).2.length ≤ j

theorem Below.snoc {n : Nat} {l : List Int} {x : Int} (h : Below n l) (h1 : 0 ≤ x) (h2 : x < n) : Below n (l ++ [x]) := fun y hy => by
  rcases List.mem_append.1 hy with hy | hy
  · exact h y hy
  · simp at hy; subst hy; exact ⟨h1, h2⟩
theorem Below.mono {n k : Nat} {l : List Int} (h : Below n l) (hk : n ≤ k) : Below k l := fun x hx => by have := h x hx; omega

theorem lead_ok (m : List (List Int)) : ∀ j, LeadOk m j
  | 0 => ⟨by simp [leadGo, Below], by simp [leadGo, Below], rfl, by simp [leadGo]⟩
  | j + 1 => by
    obtain ⟨h1, h2, h3, h4⟩ := lead_ok m j
    cases hp : pickF m (leadGo m j) j with
    | none => exact ⟨by simpa [leadGo, hp] using h1, by simp only [leadGo, hp]; exact h2.mono (by omega), by simpa [leadGo, hp] using h3, by simp only [leadGo, hp]; omega⟩
    | some i =>
      have := (pick_lt hp).1
      exact ⟨by simp only [leadGo, hp]; exact h1.snoc (by omega) (by omega), by simp only [leadGo, hp]; exact (h2.mono (k := j + 1) (by omega)).snoc (by omega) (by omega), by simp [leadGo, hp, h3], by simp [leadGo, hp]; omega⟩

set_option maxRecDepth 100000 in
set_option maxHeartbeats 4000000 in
theorem con_leading (m : List (List Int)) (n : Nat) (hn : n ≤ 500) (h0 : 0 < m.length) (hm : m.length ≤ 500) (hw : Wide n m) : Con Try.prog 32 [vm 0 m] [] fun r _ => r = .tup [vs 0 (leadF m).1, vs 0 (leadF m).2] := by
  refine Con.intro Try.func32 rfl Try.ntmps32 Try.results32 (by kernel_rfl) (by simp) 0 (by simp) ?_
  have hg0 := getm h0
  have hn0 := hw.at h0
  simp only [go_sem, hg0, h0]
  refine LoopK.intro (fun j : Nat => ⟨44, [(0, vm 0 m), (2, vs 0 (leadGo m j).1), (3, vs 0 (leadGo m j).2), (11, vi m[0]!.length), (12, vi j)], []⟩)
    (fun j => m[0]!.length - j) (fun j => j ≤ m[0]!.length) 0 (by omega) ?_ ?_
  · simp only [go_sem, leadGo, List.map_nil]
  intro j hj
  by_cases h : j < m[0]!.length
  · have hwj : IntKind.i64.wrap (j + 1) = j + 1 := wrap_in (by omega) (by omega)
    obtain ⟨k1, k2, k3, k4⟩ := lead_ok m j
    simp only [go_sem, h]
    refine LoopK.intro (fun i : Nat => ⟨44, [(0, vm 0 m), (2, vs 0 (leadGo m j).1), (3, vs 0 (leadGo m j).2), (4, vi j), (11, vi m[0]!.length), (12, vi j), (16, vi m.length), (17, vi i)], []⟩)
      (fun i => m.length - i) (fun i => i ≤ m.length ∧ ∀ k, k < i → pickOk m (leadGo m j) j k = false) 0 ⟨by omega, fun k hk => by omega⟩ ?_ ?_
    · simp only [go_sem]
    rintro i ⟨hi, hb⟩
    by_cases h2 : i < m.length
    · have hwi : IntKind.i64.wrap (i + 1) = i + 1 := wrap_in (by omega) (by omega)
      simp only [go_sem, h2]
      refine CallU.free (con_contains (leadGo m j).1 i (by omega)) (by simp only [go_sem]) (by simp only [go_sem]) ?_
      rintro r bx rfl
      cases hc : (leadGo m j).1.any fun x => (i : Int) == x
      · simp only [go_sem, hc]
        refine CallU.free (con_clip (leadGo m j).1) (by simp only [go_sem]) (by simp only [go_sem]) ?_
        rintro r bx rfl
        simp only [go_sem]
        refine ⟨by simp [roomFor]; omega, ?_⟩
        refine CallU.free (con_clip (leadGo m j).2) (by simp only [go_sem]) (by simp only [go_sem]) ?_
        rintro r bx rfl
        simp only [go_sem]
        refine ⟨by simp [roomFor]; omega, ?_⟩
        refine CallU.flat (con_det m n (by omega) (by omega) hw ((leadGo m j).1 ++ [(i : Int)]) ((leadGo m j).2 ++ [(j : Int)]) (k1.snoc (by omega) (by omega)) ((k2.mono (k := n) (by omega)).snoc (by omega) (by omega)) (by simp; omega) (by simp; omega)) (by simp only [go_sem]) (by simp only [go_sem]; simp [vi]) ?_
        rintro r bx rfl
        by_cases hd : detF m ((leadGo m j).1 ++ [(i : Int)]) ((leadGo m j).2 ++ [(j : Int)]) = 0
        · have hp : pickOk m (leadGo m j) j i = false := by simp [pickOk, hd]
          simp only [go_sem, hd, hwi]
          refine roundK.intro (i + 1) ⟨by omega, fun k hk => ?_⟩ (by omega) ?_
          · by_cases hki : k = i
            · subst hki; exact hp
            · exact hb k (by omega)
          · simp only [go_sem]
        · have hdb : (detF m ((leadGo m j).1 ++ [(i : Int)]) ((leadGo m j).2 ++ [(j : Int)]) != 0) = true := bne_iff_ne.2 hd
          have hp : pickF m (leadGo m j) j = some i := pick_some h2 hb (by simp only [pickOk, hc, hdb]; rfl)
          simp only [go_sem, hdb, hwj]
          refine roundK.freeze (fun _ => true) (j + 1) (by omega) (by omega) ?_
          simp only [go_sem, leadGo, hp]
          exact ⟨leV_sl (by simp [vi]), leV_sl (by simp [vi])⟩
      · have hp : pickOk m (leadGo m j) j i = false := by simp [pickOk, hc]
        simp only [go_sem, hc, hwi]
        refine roundK.intro (i + 1) ⟨by omega, fun k hk => ?_⟩ (by omega) ?_
        · by_cases hki : k = i
          · subst hki; exact hp
          · exact hb k (by omega)
        · simp only [go_sem]
    · have hp : pickF m (leadGo m j) j = none := pick_none fun k hk => hb k (by omega)
      simp only [go_sem, h2, hwj]
      refine roundK.intro (j + 1) (by omega) (by omega) ?_
      simp only [go_sem, leadGo, hp]
  · have : j = m[0]!.length := by omega
    subst this
    simp only [go_sem, Nat.lt_irrefl, leadF]

def rankF (m : List (List Int)) : Int × Int := if checkF m = 0 then ((leadF m).1.length, 0) else (0, checkF m)

theorem Valid.wide {m : List (List Int)} (h : Valid m) : Wide m[0]!.length m := fun row hr => (h.row row hr).1

set_option maxRecDepth 100000 in
theorem con_rank (m : List (List Int)) (hm : Fits m) : Con Try.prog 14 [vm 0 m] [] fun r _ => r = .tup [vi (rankF m).1, vi (rankF m).2] := by
  refine Con.intro Try.func14 rfl Try.ntmps14 Try.results14 (by kernel_rfl) (by simp) 0 (by simp) ?_
  simp only [go_sem]
  refine CallU.free (con_check m hm) (by simp only [go_sem]) (by simp only [go_sem]) ?_
  rintro r bx rfl
  by_cases h1 : checkF m = 0
  · have hV := check_ok h1
    have hle := hV.le
    have hcle := hV.cle
    simp only [go_sem, h1]
    refine CallU.free (con_leading m m[0]!.length (by omega) hV.pos (by omega) hV.wide) (by simp only [go_sem]) (by simp only [go_sem]) ?_
    rintro r bx rfl
    simp only [go_sem, rankF, h1]
  · have hb : (checkF m != 0) = true := bne_iff_ne.2 h1
    simp only [go_sem, hb, rankF, h1]
end Go.AM
