/-
  Walks: SimulateWords, SimulateTraces.
-/
import Derived.Test.YthmjnbmooedfjaaWQ
import Derived.Test.YthmjnbmooedfjaaLe
import Derived.Test.YthmjnbmooedfjaaWA
namespace Go.AM
open Go Go.Proofs Go.RowKit

theorem con_acc (s : Sys) (word : List Int) (hs : checkS s = 0) (hl : ∀ l ∈ s, l.length ≤ 1000000) (hw : word.length ≤ 1000000) :
    Con Try.prog 14 [vy 0 s, vs 0 word] [] fun r _ => r = .sc (.bool (decide (0 < (accF s word).length))) :=
  (con_accepts s word (fun k => accF s (word.take k)) hs (fun l hm => Nat.le_trans (hl l hm) (by decide)) hw rfl fun k hk => by
    have := con_after (accF s (word.take k)) s word[k]! (accF_among hs _) hl
    rw [take_snoc hk, accF_snoc]; exact this).mono fun r bx h => by rw [h, List.take_length]
theorem dealt_small {s : Sys} (h : Dealt s) : ∀ l ∈ s, l.length ≤ 1000000 := fun l hl => by have := (h.2.2 l hl).1; omega
theorem acc_iff {s : Sys} {w : List Int} : decide (0 < (accF s w).length) = true ↔ Acc s w := by
  rw [decide_eq_true_iff]; unfold Acc; exact List.length_pos_iff

/-- the first five, as letters -/
def wordF (l : List Int) (i : Nat) : List Int := (l.take (min i 5)).map (· % 3)
theorem wordF_len (l : List Int) (i : Nat) : (wordF l i).length ≤ 5 := by unfold wordF; rw [List.length_map, List.length_take]; omega

theorem sim_yes {a b : Sys} {v : Bool} (ha : checkS a = 0) (hb : checkS b = 0) (h : Sim00 a b v) (hv : v = true) {w : List Int} (hw : Acc a w) : Acc b w := by
  obtain ⟨R, hR, rfl⟩ := h
  exact sim_acc (S := fun x y => rel R x y = true) ha hb hR.sim hv hw

set_option maxRecDepth 100000 in
set_option maxHeartbeats 2000000 in
theorem con_wordsLaw (l : List Int) (wd : List Int) (hl : l.length ≤ 9223372036854775807) (hx : ∀ x ∈ l, 0 ≤ x ∧ x < 256) (hwl : wd.length ≤ 9223372036854775807) (hwx : ∀ x ∈ wd, 0 ≤ x ∧ x < 256) :
    Con Try.prog 3 [.sl 0 1 (l.map vu), .sl 0 1 (wd.map vu)] [] fun r _ => r = .sc (.bool true) := by
  have hs := seeds_take hx
  refine Con.intro Try.func3 rfl Try.ntmps3 Try.results3 (by kernel_rfl) (by simp) 0 (by simp) ?_
  simp only [go_sem]
  refine CallU.free con_sane (by simp only [go_sem]) (by simp only [go_sem]) ?_
  rintro r bx rfl
  simp only [go_sem]
  refine CallU.news (bx0 := []) (con_new l hl) (by simp only [go_sem]) (by simp only [go_sem]) (by simp only [go_sem]) (by simp only [go_sem]) (by simp only [go_sem]) ?_
  rintro r bx ⟨rfl, rfl⟩
  simp only [go_sem]
  refine CallU.boxes (i := 0) (is := []) (bx0 := [diceA (l.take 200) 0]) (con_system (l.take 200) 0 hs (by omega)) (by simp only [go_sem]) (by simp only [go_sem]) (by simp only [go_sem]) (by simp only [go_sem]) (by simp only [go_sem]) ?_
  rintro r bx ⟨a, at1, rfl, hda, ha1, rfl⟩
  simp only [go_sem]
  refine CallU.boxes (i := 0) (is := []) (bx0 := [diceA (l.take 200) at1]) (con_system (l.take 200) at1 hs ha1) (by simp only [go_sem]) (by simp only [go_sem]) (by simp only [go_sem]) (by simp only [go_sem]) (by simp only [go_sem]) ?_
  rintro r bx ⟨b, at2, rfl, hdb, ha2, rfl⟩
  simp only [go_sem]
  have ka := dealt_check hda
  have kb := dealt_check hdb
  have lb : b.length ≤ 8 := by have := hdb.2.1; omega
  refine CallU.freeze (con_simulates a b (dealt_both ka kb) (dealt_len hda) (dealt_len hdb) lb) (by simp only [go_sem]) (by simp only [go_sem]) ?_
  rintro r bx ⟨v, rfl, hv⟩
  simp only [go_sem]
  refine LoopK.intro (fun i : Nat => ⟨80, [(6, .pb 1 0), (7, .pb 2 0), (8, vb v), (9, vi 0), (10, .sl 2880 1 ((wordF wd i).map vi)), (30, .sl 0 1 (wd.map vu)), (31, vi wd.length), (32, vi i)], [diceA (l.take 200) at2, [.sl 0 1 (a.map (vl 0))], [.sl 0 1 (b.map (vl 0))]]⟩)
    (fun i => wd.length - i) (fun i => i ≤ wd.length) 0 (by omega) ?_ ?_
  · simp only [go_sem, wordF, Nat.zero_min, List.take_zero, List.map_nil]
  intro i hi
  by_cases h : i < wd.length
  · have g1 := getu h
    have hw : IntKind.i64.wrap (i + 1) = i + 1 := wrap_in (by omega) (by omega)
    have hb := hwx _ (mem_bang h)
    have hw2 : IntKind.i64.wrap wd[i]! = wd[i]! := wrap_in (by omega) (by omega)
    by_cases h5 : (i : Int) < 5
    · have ht : Int.tmod wd[i]! 3 = wd[i]! % 3 := Int.tmod_eq_emod_of_nonneg hb.1
      have hsn : wordF wd (i + 1) = wordF wd i ++ [wd[i]! % 3] := by
        unfold wordF
        rw [show min (i + 1) 5 = i + 1 by omega, show min i 5 = i by omega, take_snoc h, List.map_append]; rfl
      simp only [go_sem, h, g1, h5, hw2, ht, hw]
      have hwl5 := wordF_len wd i
      refine ⟨by simp only [roomFor]; omega, roundK.intro (i + 1) (by show i + 1 ≤ wd.length; omega) (by show wd.length - (i + 1) < wd.length - i; omega) ?_⟩
      simp only [go_sem, hsn, List.map_append, List.map_cons, List.map_nil]
    · have hsn : wordF wd (i + 1) = wordF wd i := by unfold wordF; rw [show min (i + 1) 5 = 5 by omega, show min i 5 = 5 by omega]
      simp only [go_sem, h, g1, h5, hw]
      refine roundK.intro (i + 1) (by show i + 1 ≤ wd.length; omega) (by show wd.length - (i + 1) < wd.length - i; omega) ?_
      simp only [go_sem, hsn]
  · obtain rfl : i = wd.length := by omega
    simp only [go_sem, h]
    refine CallU.free (con_trace a b 5 ka kb (by omega) (dealt_small hda) (dealt_small hdb)) (by simp only [go_sem]) (by simp only [go_sem]) ?_
    rintro r bx rfl
    have hT := trace_ok ka kb 5
    have hW := wordF_len wd wd.length
    generalize wordF wd wd.length = W at hW
    rcases hr : traceF a b 5 with ⟨w, s, e⟩
    rw [hr] at hT
    have k1 : v = true → s = false := fun hv1 => by
      cases s
      · rfl
      · obtain ⟨_, ⟨h1, h2⟩, _⟩ := hT.some rfl
        exact absurd (sim_yes ka kb hv hv1 h1) h2
    have k2 : v = true → decide (0 < (accF a W).length) = true → decide (0 < (accF b W).length) = true := fun hv1 h1 =>
      acc_iff.2 (sim_yes ka kb hv hv1 (acc_iff.1 h1))
    have k3 : e = 0 ∨ e = 1 := by
      cases s
      · exact (hT.none rfl).2
      · exact .inl (hT.some rfl).1
    have ca := con_acc a W ka (dealt_small hda) (by omega)
    have cb := con_acc b W kb (dealt_small hdb) (by omega)
    generalize decide (0 < (accF a W).length) = da at k2 ca
    generalize decide (0 < (accF b W).length) = db at k2 cb
    have fin : ∀ e, e = 0 ∨ e = 1 → ∀ s, (v = true → s = false) → ∀ wv : AV, wv = .nil ∨ (∃ w, wv = vs 0 w) → True := fun _ _ _ _ _ _ => trivial
    cases s
    all_goals
      rcases k3 with rfl | rfl
      all_goals
        cases v
        all_goals
          first
          | (have := k1 rfl; cases this; done)
          | skip
    all_goals simp only [outT, if_true, Bool.false_eq_true, if_false, go_sem]
    all_goals
      refine CallU.flat ca (by simp only [go_sem]) (by simp only [go_sem]) ?_
      rintro r bx rfl
      cases da
      all_goals simp only [go_sem]
    all_goals
      refine CallU.flat cb (by simp only [go_sem]) (by simp only [go_sem]) ?_
      rintro r bx rfl
      have := k2 rfl rfl
      subst this
      simp only [go_sem]

set_option maxRecDepth 100000 in
set_option maxHeartbeats 2000000 in
theorem con_tracesLaw (l : List Int) (wd : List Int) (hl : l.length ≤ 9223372036854775807) (hx : ∀ x ∈ l, 0 ≤ x ∧ x < 256) (hwl : wd.length ≤ 9223372036854775807) (hwx : ∀ x ∈ wd, 0 ≤ x ∧ x < 256) :
    Con Try.prog 4 [.sl 0 1 (l.map vu), .sl 0 1 (wd.map vu)] [] fun r _ => r = .sc (.bool true) := by
  have hs := seeds_take hx
  refine Con.intro Try.func4 rfl Try.ntmps4 Try.results4 (by kernel_rfl) (by simp) 0 (by simp) ?_
  simp only [go_sem]
  refine CallU.free con_sane (by simp only [go_sem]) (by simp only [go_sem]) ?_
  rintro r bx rfl
  simp only [go_sem]
  refine CallU.news (bx0 := []) (con_new l hl) (by simp only [go_sem]) (by simp only [go_sem]) (by simp only [go_sem]) (by simp only [go_sem]) (by simp only [go_sem]) ?_
  rintro r bx ⟨rfl, rfl⟩
  simp only [go_sem]
  refine CallU.boxes (i := 0) (is := []) (bx0 := [diceA (l.take 200) 0]) (con_system (l.take 200) 0 hs (by omega)) (by simp only [go_sem]) (by simp only [go_sem]) (by simp only [go_sem]) (by simp only [go_sem]) (by simp only [go_sem]) ?_
  rintro r bx ⟨a, at1, rfl, hda, ha1, rfl⟩
  simp only [go_sem]
  refine CallU.boxes (i := 0) (is := []) (bx0 := [diceA (l.take 200) at1]) (con_system (l.take 200) at1 hs ha1) (by simp only [go_sem]) (by simp only [go_sem]) (by simp only [go_sem]) (by simp only [go_sem]) (by simp only [go_sem]) ?_
  rintro r bx ⟨b, at2, rfl, hdb, ha2, rfl⟩
  simp only [go_sem]
  have ka := dealt_check hda
  have kb := dealt_check hdb
  refine CallU.freeze (con_trace a b 5 ka kb (by omega) (dealt_small hda) (dealt_small hdb)) (by simp only [go_sem]) (by simp only [go_sem]) ?_
  rintro r bx rfl
  have hT := trace_ok ka kb 5
  rcases hr : traceF a b 5 with ⟨w, s, e⟩
  rw [hr] at hT
  have hW := wordF_len wd wd.length
  have ca := con_acc a (wordF wd wd.length) ka (dealt_small hda) (by omega)
  have cb := con_acc b (wordF wd wd.length) kb (dealt_small hdb) (by omega)
  have hnone : s = false → e = 0 → decide (0 < (accF a (wordF wd wd.length)).length) = true → decide (0 < (accF b (wordF wd wd.length)).length) = true := fun h1 h2 h3 => by
    have := hT.all h1 h2 _ hW
    refine acc_iff.2 (Classical.byContradiction fun h => this ⟨acc_iff.1 h3, h⟩)
  have hshort : s = true → decide (0 < (accF a (wordF wd wd.length)).length) = true → decide (0 < (accF b (wordF wd wd.length)).length) = false → ((w.length : Int) ≤ (wordF wd wd.length).length) := fun h1 h2 h3 => by
    obtain ⟨_, _, _, h4⟩ := hT.some h1
    rcases Nat.lt_or_ge (wordF wd wd.length).length w.length with h | h
    · exact absurd ⟨acc_iff.1 h2, fun hb => by rw [acc_iff.2 hb] at h3; cases h3⟩ (h4 _ h)
    · omega
  have hloop : ∀ i, i < wd.length → (i : Int) < 5 → wordF wd (i + 1) = wordF wd i ++ [wd[i]! % 3] := fun i h h5 => by
    unfold wordF
    rw [show min (i + 1) 5 = i + 1 by omega, show min i 5 = i by omega, take_snoc h, List.map_append]; rfl
  have hloop2 : ∀ i : Nat, ¬ (i : Int) < 5 → wordF wd (i + 1) = wordF wd i := fun i h5 => by unfold wordF; rw [show min (i + 1) 5 = 5 by omega, show min i 5 = 5 by omega]
  have hlen0 : (wordF wd 0) = [] := by simp [wordF]
  cases s
  case false =>
    have h1 := hT.none rfl
    simp only at h1
    obtain ⟨rfl, h1⟩ := h1
    rcases h1 with rfl | rfl
    case inr => simp only [outT, if_true, Bool.false_eq_true, if_false, go_sem]
    simp only [outT, if_true, Bool.false_eq_true, if_false, go_sem]
    refine LoopK.intro (fun i : Nat => ⟨88, [(6, .pb 1 0), (7, .pb 2 0), (8, .nil), (9, vb false), (11, .sl 3136 1 ((wordF wd i).map vi)), (34, .sl 0 1 (wd.map vu)), (35, vi wd.length), (36, vi i)], [diceA (l.take 200) at2, [.sl 0 1 (a.map (vl 0))], [.sl 0 1 (b.map (vl 0))]]⟩)
      (fun i => wd.length - i) (fun i => i ≤ wd.length) 0 (by omega) ?_ ?_
    · simp only [go_sem, hlen0, List.map_nil]
    intro i hi
    by_cases h : i < wd.length
    · have g1 := getu h
      have hw : IntKind.i64.wrap (i + 1) = i + 1 := wrap_in (by omega) (by omega)
      have hb := hwx _ (mem_bang h)
      have hw2 : IntKind.i64.wrap wd[i]! = wd[i]! := wrap_in (by omega) (by omega)
      by_cases h5 : (i : Int) < 5
      · have ht : Int.tmod wd[i]! 3 = wd[i]! % 3 := Int.tmod_eq_emod_of_nonneg hb.1
        simp only [go_sem, h, g1, h5, hw2, ht, hw]
        have hwl5 := wordF_len wd i
        refine ⟨by simp only [roomFor]; omega, roundK.intro (i + 1) (by show i + 1 ≤ wd.length; omega) (by show wd.length - (i + 1) < wd.length - i; omega) ?_⟩
        simp only [go_sem, hloop i h h5, List.map_append, List.map_cons, List.map_nil]
      · simp only [go_sem, h, g1, h5, hw]
        refine roundK.intro (i + 1) (by show i + 1 ≤ wd.length; omega) (by show wd.length - (i + 1) < wd.length - i; omega) ?_
        simp only [go_sem, hloop2 i h5]
    · obtain rfl : i = wd.length := by omega
      have hn := hnone rfl rfl
      generalize decide (0 < (accF a (wordF wd wd.length)).length) = da at ca hn
      generalize decide (0 < (accF b (wordF wd wd.length)).length) = db at cb hn
      simp only [go_sem, h]
      refine CallU.flat ca (by simp only [go_sem]) (by simp only [go_sem]) ?_
      rintro r bx rfl
      cases da
      · simp only [go_sem]
      · simp only [go_sem]
        refine CallU.flat cb (by simp only [go_sem]) (by simp only [go_sem]) ?_
        rintro r bx rfl
        have := hn rfl
        subst this
        simp only [go_sem]
  case true =>
    obtain ⟨h0, ⟨h1, h2⟩, h3, h4⟩ := hT.some rfl
    simp only at h0 h1 h2 h3
    subst h0
    have cwa := con_acc a w ka (dealt_small hda) (by omega)
    have cwb := con_acc b w kb (dealt_small hdb) (by omega)
    rw [acc_iff.2 h1] at cwa
    have h2' : decide (0 < (accF b w).length) = false := by
      cases hc : decide (0 < (accF b w).length)
      · rfl
      · exact absurd (acc_iff.1 hc) h2
    rw [h2'] at cwb
    simp only [outT, if_true, go_sem]
    refine LoopK.intro (fun i : Nat => ⟨88, [(6, .pb 1 0), (7, .pb 2 0), (8, vs 0 w), (9, vb true), (11, .sl 3136 1 ((wordF wd i).map vi)), (34, .sl 0 1 (wd.map vu)), (35, vi wd.length), (36, vi i)], [diceA (l.take 200) at2, [.sl 0 1 (a.map (vl 0))], [.sl 0 1 (b.map (vl 0))]]⟩)
      (fun i => wd.length - i) (fun i => i ≤ wd.length) 0 (by omega) ?_ ?_
    · simp only [go_sem, hlen0, List.map_nil]
    intro i hi
    by_cases h : i < wd.length
    · have g1 := getu h
      have hw : IntKind.i64.wrap (i + 1) = i + 1 := wrap_in (by omega) (by omega)
      have hb := hwx _ (mem_bang h)
      have hw2 : IntKind.i64.wrap wd[i]! = wd[i]! := wrap_in (by omega) (by omega)
      by_cases h5 : (i : Int) < 5
      · have ht : Int.tmod wd[i]! 3 = wd[i]! % 3 := Int.tmod_eq_emod_of_nonneg hb.1
        simp only [go_sem, h, g1, h5, hw2, ht, hw]
        have hwl5 := wordF_len wd i
        refine ⟨by simp only [roomFor]; omega, roundK.intro (i + 1) (by show i + 1 ≤ wd.length; omega) (by show wd.length - (i + 1) < wd.length - i; omega) ?_⟩
        simp only [go_sem, hloop i h h5, List.map_append, List.map_cons, List.map_nil]
      · simp only [go_sem, h, g1, h5, hw]
        refine roundK.intro (i + 1) (by show i + 1 ≤ wd.length; omega) (by show wd.length - (i + 1) < wd.length - i; omega) ?_
        simp only [go_sem, hloop2 i h5]
    · obtain rfl : i = wd.length := by omega
      have hn := hshort rfl
      generalize decide (0 < (accF a (wordF wd wd.length)).length) = da at ca hn
      generalize decide (0 < (accF b (wordF wd wd.length)).length) = db at cb hn
      simp only [go_sem, h]
      refine CallU.flat ca (by simp only [go_sem]) (by simp only [go_sem]) ?_
      rintro r bx rfl
      cases da
      · simp only [go_sem]
        refine CallU.flat cwa (by simp only [go_sem]) (by simp only [go_sem]) ?_
        rintro r bx rfl
        simp only [go_sem]
        refine CallU.flat cwb (by simp only [go_sem]) (by simp only [go_sem]) ?_
        rintro r bx rfl
        simp only [go_sem]
      · simp only [go_sem]
        refine CallU.flat cb (by simp only [go_sem]) (by simp only [go_sem]) ?_
        rintro r bx rfl
        cases db
        all_goals
          simp only [go_sem]
          refine CallU.flat cwa (by simp only [go_sem]) (by simp only [go_sem]) ?_
          rintro r bx rfl
          simp only [go_sem]
          refine CallU.flat cwb (by simp only [go_sem]) (by simp only [go_sem]) ?_
          rintro r bx rfl
        · have hge := hn rfl rfl
          simp only [go_sem, hge]
        · simp only [go_sem]
end Go.AM
