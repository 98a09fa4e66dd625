/-
  Walks: Trace at the chapter's example; Accepts.
-/
import Derived.Test.YthmjnbmooedfjaaWH
import Derived.Test.YthmjnbmooedfjaaW9
namespace Go.AM
open Go Go.Proofs Go.RowKit

/-- the example's system -/
def oneS : Sys := [[(1, 1)], []]

theorem con_clipNil : Con Try.prog 34 [.nil] [] fun r _ => r = .sl 1 1 [] :=
  (con_clip [] (by decide)).args fun G w vs hv => by
    obtain ⟨v, vr, rfl, h1, h2⟩ := hv.cons_inv
    exact .cons (h1.le (leV_nil 0 1)) h2



set_option maxRecDepth 100000 in
theorem con_trace1 : Con Try.prog 13 [vy 0 allS, vy 0 oneS, vi 3] [] fun r _ => r = .tup [vs 0 [0], .sc (.bool true), vi 0] := by
  refine Con.intro Try.func13 rfl Try.ntmps13 Try.results13 (by kernel_rfl) (by simp) 0 (by simp) ?_
  have hlen : ∀ s : Sys, (∀ l ∈ s, l.length ≤ 3) → ∀ l ∈ s, l.length ≤ 281474976710656 := fun s h l hl => Nat.le_trans (h l hl) (by decide)
  have h1 : ∀ l ∈ allS, l.length ≤ 3 := by decide
  have h2 : ∀ l ∈ oneS, l.length ≤ 3 := by decide
  have hb : bothS allS oneS = 0 := by decide
  simp only [go_sem]
  refine CallU.free (con_both allS oneS (hlen _ h1) (by decide) (hlen _ h2) (by decide)) (by simp only [go_sem]) (by simp only [go_sem]) ?_
  rintro r bx rfl
  simp only [go_sem, hb]
  refine CallU.flat (con_key .nil [0] [0] (by decide) (by decide) (by decide) (by decide)) (by simp only [go_sem]) (by simp only [go_sem]) ?_
  rintro r bx rfl
  simp only [go_sem]
  refine evMapPut_str Try.underlying69 Try.underlying9 Try.underlying4 (by decide +kernel) (by decide) ?_
  simp only [go_sem]
  generalize hD : (DataW.map ([] : List (Lit × DataW Unit))).put (Lit.string (strOf (keyB [0] [0])).data.toList) (DataW.lit (Lit.bool true)) = D
  refine LoopK.intro (fun _ : Unit => ⟨98, [(2, vi 3), (3, .pb 0 0), (4, .pb 1 0), (11, .mp 2112 Try.prog 9 4 D), (12, .sl 2432 3 [.ag [.nil, .sl 0 1 [vi 0], .sl 0 1 [vi 0]]])], [[.sl 0 1 (allS.map (vl 0))], [.sl 0 1 (oneS.map (vl 0))], [.any, .any, .any]]⟩)
    (fun _ => 0) (fun _ => True) () trivial ?_ ?_
  · simp only [go_sem]
  rintro ⟨⟩ -
  simp only [go_sem]
  have asc3 : Asc [0, 1, 2] := fun k h1 h2 => by
    have : k = 1 ∨ k = 2 := by simp at h2; omega
    rcases this with rfl | rfl <;> decide
  have ap3 : Apart1 [0, 1, 2] := fun k h1 h2 => by
    have : k = 1 ∨ k = 2 := by simp at h2; omega
    rcases this with rfl | rfl <;> decide
  have asc1 : Asc [0] := fun k h1 h2 => by simp at h2; omega
  have ap1 : Apart1 [0] := fun k h1 h2 => by simp at h2; omega
  have asc0 : Asc [] := fun k h1 h2 => by simp at h2
  have ap0 : Apart1 [] := fun k h1 h2 => by simp at h2
  refine CallU.free (con_labels1 [0] allS (by decide) (by decide) (by decide) [0, 1, 2] (by decide) (by decide) asc3 ap3) (by simp only [go_sem]) (by simp only [go_sem]) ?_
  rintro r bx rfl
  simp only [go_sem]
  refine LoopK.intro (fun _ : Unit => ⟨98, [(2, vi 3), (3, .pb 0 0), (4, .pb 1 0), (11, .mp 2112 Try.prog 9 4 D), (12, .sl 2432 3 [.ag [.nil, .sl 0 1 [vi 0], .sl 0 1 [vi 0]]]), (13, .pb 3 0), (54, vs 0 [0, 1, 2]), (55, vi 3), (56, vi 0)], [[.sl 0 1 (allS.map (vl 0))], [.sl 0 1 (oneS.map (vl 0))], [.any, .any, .any], [.nil, .sl 0 1 [vi 0], .sl 0 1 [vi 0]]]⟩)
    (fun _ => 0) (fun _ => True) () trivial ?_ ?_
  · simp only [go_sem]
  rintro ⟨⟩ -
  simp only [go_sem]
  refine DrawK.walk 18 mixed (by kernel_rfl) ?_
  simp only [go_sem]
  refine CallY.mk con_clipNil (by simp only [go_sem]) (by simp only [go_sem]) (.inl rfl) ?_
  simp only [go_sem]
  refine ⟨by unfold roomFor; decide, CallY.mk (con_after1 [0] allS 0 (by decide) (by decide) (by decide) [0] (by decide) (by decide) asc1 ap1) (by simp only [go_sem]) (by simp only [go_sem]) (.inl (by simp only [go_sem])) ?_⟩
  simp only [go_sem]
  refine CallY.mk (con_after1 [0] oneS 0 (by decide) (by decide) (by decide) [] (by decide) (by decide) asc0 ap0) (by simp only [go_sem]) (by simp only [go_sem]) (.inl (by simp only [go_sem])) ?_
  simp only [go_sem]

def accS (A : Nat → List Int) (k : Nat) : AV := if k = 0 then .sl 768 1 [vi 0] else vs 0 (A k)
set_option maxRecDepth 100000 in
theorem con_accepts (s : Sys) (word : List Int) (A : Nat → List Int) (hs : checkS s = 0) (hl : ∀ l ∈ s, l.length ≤ 281474976710656) (hw : word.length ≤ 1000000) (h0 : A 0 = [0])
    (hA : ∀ k, k < word.length → Con Try.prog 35 [vs 0 (A k), vy 0 s, vi word[k]!] [] fun r _ => r = vs 0 (A (k + 1))) :
    Con Try.prog 14 [vy 0 s, vs 0 word] [] fun r _ => r = .sc (.bool (decide (0 < (A word.length).length))) := by
  refine Con.intro Try.func14 rfl Try.ntmps14 Try.results14 (by kernel_rfl) (by simp) 0 (by simp) ?_
  have hsl := (checkS_ok hs).2.1
  simp only [go_sem]
  refine CallU.free (con_check s hl (by omega)) (by simp only [go_sem]) (by simp only [go_sem]) ?_
  rintro r bx rfl
  simp only [go_sem, hs]
  refine LoopK.intro (fun k : Nat => ⟨26, [(2, .pb 0 0), (5, accS A k), (12, vs 0 word), (13, vi word.length), (14, vi k)], [[.sl 0 1 (s.map (vl 0))]]⟩)
    (fun k => word.length - k) (fun k => k ≤ word.length) 0 (by omega) ?_ ?_
  · simp only [go_sem, accS, if_true]
  intro k hk
  by_cases h : k < word.length
  · have g1 := getv h
    have hw : IntKind.i64.wrap (k + 1) = k + 1 := wrap_in (by omega) (by omega)
    have e1 : accS A (k + 1) = vs 0 (A (k + 1)) := by simp [accS]
    by_cases h3 : k = 0
    · subst h3
      have hA0 := hA 0 h
      rw [h0] at hA0
      simp only [go_sem, h, g1, accS, if_true]
      refine CallU.freeze hA0 (by simp only [go_sem]) (by simp only [go_sem]) ?_
      rintro r bx rfl
      simp only [go_sem, hw]
      refine roundK.intro 1 (by show 1 ≤ word.length; omega) (by show word.length - 1 < word.length - 0; omega) ?_
      have hw1 : IntKind.i64.wrap 1 = 1 := by decide
      simp only [go_sem, e1, hw1]
    · have e0 : accS A k = vs 0 (A k) := by simp [accS, h3]
      simp only [go_sem, h, g1, e0]
      refine CallU.free (hA k h) (by simp only [go_sem]) (by simp only [go_sem]) ?_
      rintro r bx rfl
      simp only [go_sem, hw]
      refine roundK.intro (k + 1) (by show k + 1 ≤ word.length; omega) (by show word.length - (k + 1) < word.length - k; omega) ?_
      simp only [go_sem, e1]
  · have hke : k = word.length := by omega
    subst hke
    by_cases h3 : word.length = 0
    · simp only [go_sem, h3, accS, if_true, h0]
    · have e0 : accS A word.length = vs 0 (A word.length) := by simp [accS, h3]
      simp only [go_sem, h, e0]

theorem asc_short {l : List Int} (h : l.length ≤ 1) : Asc l ∧ Apart1 l := ⟨fun k h1 h2 => by omega, fun k h1 h2 => by omega⟩
theorem con_acc1 : Con Try.prog 14 [vy 0 oneS, vs 0 [1]] [] fun r _ => r = .sc (.bool true) :=
  con_accepts oneS [1] (fun k => if k = 0 then [0] else [1]) (by decide) (by decide) (by decide) rfl fun k hk => by
    have : k = 0 := by simp at hk; omega
    subst this
    exact con_after1 [0] oneS 1 (by decide) (by decide) (by decide) [1] (by decide) (by decide) (asc_short (by decide)).1 (asc_short (by decide)).2
theorem con_acc2 : Con Try.prog 14 [vy 0 oneS, vs 0 [1, 1]] [] fun r _ => r = .sc (.bool false) :=
  con_accepts oneS [1, 1] (fun k => if k = 0 then [0] else if k = 1 then [1] else []) (by decide) (by decide) (by decide) rfl fun k hk => by
    have : k = 0 ∨ k = 1 := by simp at hk; omega
    rcases this with rfl | rfl
    · exact con_after1 [0] oneS 1 (by decide) (by decide) (by decide) [1] (by decide) (by decide) (asc_short (by decide)).1 (asc_short (by decide)).2
    · exact con_after1 [1] oneS 1 (by decide) (by decide) (by decide) [] (by decide) (by decide) (asc_short (by decide)).1 (asc_short (by decide)).2

theorem sim_oneall : simV oneS allS = true := by
  obtain ⟨R, hR⟩ := exists_greatest oneS allS
  have h : Sim00 oneS allS (rel R 0 0) := ⟨R, hR, rfl⟩
  rw [← h.eq (checkS_inside (by decide)) (checkS_inside all_check) (by decide) (by decide)]
  refine hR.greatest (S := fun _ _ => True) (checkS_inside (by decide)) (checkS_inside all_check) (fun x y hx hy _ p hp => ?_) (by decide) (by decide) trivial
  have hx2 : x = 0 ∨ x = 1 := by have : oneS.length = 2 := rfl; omega
  have hy2 : y = 0 := by have : allS.length = 1 := rfl; omega
  subst hy2
  rcases hx2 with rfl | rfl
  · have : p = (1, 1) := by simpa [oneS] using hp
    subst this
    exact ⟨(1, 0), by simp [allS], rfl, trivial⟩
  · simp [oneS] at hp
theorem sim_allone : simV allS oneS = false := by
  obtain ⟨R, hR⟩ := exists_greatest allS oneS
  have h : Sim00 allS oneS (rel R 0 0) := ⟨R, hR, rfl⟩
  rw [← h.eq (checkS_inside all_check) (checkS_inside (by decide)) (by decide) (by decide)]
  cases hc : rel R 0 0
  · rfl
  · obtain ⟨q, hq, h1, _⟩ := hR.sim 0 0 (by decide) (by decide) hc (0, 0) (by simp [allS])
    have : q = (1, 1) := by simpa [oneS] using hq
    subst this
    simp at h1
end Go.AM
