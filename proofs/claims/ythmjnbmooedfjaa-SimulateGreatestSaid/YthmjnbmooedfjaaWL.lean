/-
  Walks: SimulateGreatest.
-/
import Derived.Test.YthmjnbmooedfjaaWA
import Derived.Test.YthmjnbmooedfjaaWK
namespace Go.AM
open Go Go.Proofs Go.RowKit

set_option maxRecDepth 100000 in
set_option maxHeartbeats 2000000 in
theorem con_greatestLaw (hsane : Sane) (l : List Int) (hl : l.length ≤ 9223372036854775807) (hx : ∀ x ∈ l, 0 ≤ x ∧ x < 256) : Con Try.prog 6 [.sl 0 1 (l.map vu)] [] fun r _ => r = .sc (.bool true) := by
  have hs := seeds_take hx
  refine Con.intro Try.func6 rfl Try.ntmps6 Try.results6 (by kernel_rfl) (by simp) 0 (by simp) ?_
  simp only [go_sem]
  refine CallU.free hsane (by simp only [go_sem]) (by simp only [go_sem]) ?_
  rintro r bx rfl
  simp only [go_sem]
  refine CallU.news (bx0 := []) (con_new l hl) (by simp only [go_sem]) (by simp only [go_sem]) (by simp only [go_sem]) (by simp only [go_sem]) (by simp only [go_sem]) ?_
  rintro r bx ⟨rfl, rfl⟩
  simp only [go_sem]
  refine CallU.boxes (i := 0) (is := []) (bx0 := [diceA (l.take 200) 0]) (con_system (l.take 200) 0 hs (by omega)) (by simp only [go_sem]) (by simp only [go_sem]) (by simp only [go_sem]) (by simp only [go_sem]) (by simp only [go_sem]) ?_
  rintro r bx ⟨a, at1, rfl, hda, ha1, rfl⟩
  simp only [go_sem]
  refine CallU.boxes (i := 0) (is := []) (bx0 := [diceA (l.take 200) at1]) (con_system (l.take 200) at1 hs ha1) (by simp only [go_sem]) (by simp only [go_sem]) (by simp only [go_sem]) (by simp only [go_sem]) (by simp only [go_sem]) ?_
  rintro r bx ⟨b, at2, rfl, hdb, ha2, rfl⟩
  simp only [go_sem]
  have ka := dealt_check hda
  have kb := dealt_check hdb
  have la : a.length ≤ 8 := by have := hda.2.1; omega
  have lb : b.length ≤ 8 := by have := hdb.2.1; omega
  have pa : 0 < a.length := by have := hda.1; omega
  have pb : 0 < b.length := by have := hdb.1; omega
  refine CallU.freeze (con_greatest a b (dealt_both ka kb) (dealt_len hda) (dealt_len hdb) lb) (by simp only [go_sem]) (by simp only [go_sem]) ?_
  rintro r bx ⟨R, rfl, hR⟩
  have hRs := hR.1
  have hRl : R.length = a.length := hRs.1
  simp only [go_sem]
  refine CallU.free (con_simulates a b (dealt_both ka kb) (dealt_len hda) (dealt_len hdb) lb) (by simp only [go_sem]) (by simp only [go_sem]) ?_
  rintro r bx ⟨v, rfl, hv⟩
  have hvR : v = rel R 0 0 := by
    rw [hv.eq (checkS_inside ka) (checkS_inside kb) pa pb]
    exact (Sim00.eq ⟨R, hR, rfl⟩ (checkS_inside ka) (checkS_inside kb) pa pb).symm
  have h0 : 0 < R.length := by omega
  have h00l : R[0]!.length = b.length := hRs.2 _ (mem_bang h0)
  have h00 : 0 < R[0]!.length := by omega
  simp only [go_sem]
  refine DrawK.walk 33 mixed (by kernel_rfl) ?_
  have e1 : v = R[0]![0]! := hvR
  have g1 := gettb (t := 1730) h0
  have g2 := getvb h00
  have hnopen : ¬ openS a b R := fun ⟨i, j, hi, hj, h1, h2⟩ => by rw [hR.2.2 i j hi hj h1] at h2; cases h2
  have hH : ∀ e, HoldsV a b R e → e = if v = true then 0 else 42 := fun e he => by
    rcases he with ⟨h1, _⟩ | ⟨_, h2⟩
    · exact absurd h1 hnopen
    · rw [h2, hvR]
  simp only [go_sem, h0, h00, h00l, g1, g2, hRl, ← e1, pa, pb]
  refine CallU.flat (con_holds a b R (dealt_both ka kb) (dealt_len hda) (dealt_len hdb) hRs) (by simp only [go_sem]) (by simp only [go_sem]) ?_
  rintro r bx ⟨e, rfl, he⟩
  have hee := hH e he
  have hin : ∀ r : Rel, Sized r a.length b.length → HoldsV a b r 0 → v = true ∧ ∀ i j, i < a.length → j < b.length → rel r i j = true → rel R i j = true := fun r hrs hz => by
    have hsim : IsSim a b fun x y => rel r x y = true := fun x y hx hy hxy => by
      refine matchesF_iff.1 ?_
      cases hm : matchesF r a b x y
      · rcases hz with ⟨_, h2⟩ | ⟨h1, _⟩
        · cases h2
        · exact absurd ⟨x, y, hx, hy, hxy, hm⟩ h1
      · rfl
    have h1 : ∀ i j, i < a.length → j < b.length → rel r i j = true → rel R i j = true := fun i j hi hj h =>
      hR.greatest (checkS_inside ka) (checkS_inside kb) hsim hi hj h
    refine ⟨?_, h1⟩
    rw [hvR]
    refine h1 0 0 pa pb ?_
    rcases hz with ⟨_, h2⟩ | ⟨_, h2⟩
    · cases h2
    · cases hc : rel r 0 0
      · rw [hc] at h2; cases h2
      · rfl
  cases hvc : v
  all_goals
    rw [hvc] at hee
    simp at hee
    subst hee
    simp only [go_sem]
    refine LoopK.intro (fun p : Rel × Nat => ⟨145, [(3, .pb 0 0), (4, .pb 1 0), (5, .pb 2 0), (6, vtb 1730 R), (8, vb v), (11, .sl 6784 1 (p.1.map (vbl 0))), (87, vi a.length), (88, vi p.1.length)], [diceA (l.take 200) p.2, [.sl 0 1 (a.map (vl 0))], [.sl 0 1 (b.map (vl 0))]]⟩)
      (fun p => a.length - p.1.length) (fun p => p.1.length ≤ a.length ∧ (∀ row ∈ p.1, row.length = b.length) ∧ p.2 ≤ (l.take 200).length) ([], at2) ⟨by simp, by simp, ha2⟩ ?_ ?_
    · simp only [go_sem, hvc, List.length_nil, List.map_nil]
    rintro ⟨r, at3⟩ ⟨k1, k2, k3⟩
    simp only at k1 k2 k3
    by_cases hra : r.length < a.length
    · have hw : IntKind.i64.wrap (r.length + 1) = r.length + 1 := wrap_in (by omega) (by omega)
      simp only [go_sem, hra]
      refine LoopK.intro (fun p : List Bool × Nat => ⟨145, [(3, .pb 0 0), (4, .pb 1 0), (5, .pb 2 0), (6, vtb 1730 R), (8, vb v), (11, .sl 6784 1 (r.map (vbl 0))), (12, .sl 6464 1 (p.1.map vb)), (87, vi a.length), (88, vi r.length), (92, vi b.length), (93, vi p.1.length)], [diceA (l.take 200) p.2, [.sl 0 1 (a.map (vl 0))], [.sl 0 1 (b.map (vl 0))]]⟩)
        (fun p => b.length - p.1.length) (fun p => p.1.length ≤ b.length ∧ p.2 ≤ (l.take 200).length) ([], at3) ⟨by simp, k3⟩ ?_ ?_
      · simp only [go_sem, List.length_nil, List.map_nil]
      rintro ⟨row, at4⟩ ⟨m1, m2⟩
      simp only at m1 m2
      by_cases hrb : row.length < b.length
      · have hw2 : IntKind.i64.wrap (row.length + 1) = row.length + 1 := wrap_in (by omega) (by omega)
        simp only [go_sem, hrb]
        refine CallU.boxes (i := 0) (is := []) (bx0 := [diceA (l.take 200) at4]) (con_pick (l.take 200) at4 2 hs m2 (by omega)) (by simp only [go_sem]) (by simp only [go_sem]) (by simp only [go_sem]) (by simp only [go_sem]) (by simp only [go_sem]) ?_
        rintro u bx ⟨n, at5, rfl, hn0, hn6, ha5, rfl⟩
        simp only [go_sem, hw2]
        refine ⟨by simp [roomFor]; omega, roundK.intro (row ++ [n == 0], at5) ⟨by simp; omega, ha5⟩ (by simp; omega) ?_⟩
        simp only [go_sem, List.length_append, List.length_cons, List.length_nil, List.map_append, List.map_cons, List.map_nil]
      · simp only [go_sem, hrb, hw]
        refine ⟨by simp [roomFor]; omega, roundK.intro (r ++ [row], at4) ⟨by simp; omega, fun x hx => ?_, m2⟩ (by simp; omega) ?_⟩
        · rcases List.mem_append.1 hx with hx | hx
          · exact k2 x hx
          · simp at hx; subst hx; omega
        · simp only [go_sem, List.length_append, List.length_cons, List.length_nil, List.map_append, List.map_cons, List.map_nil]
    · have hrs : Sized r a.length b.length := ⟨by omega, k2⟩
      simp only [go_sem, hra]
      refine CallU.flat (con_holds a b r (dealt_both ka kb) (dealt_len hda) (dealt_len hdb) hrs) (by simp only [go_sem]) (by simp only [go_sem]) ?_
      rintro u bx ⟨e, rfl, he2⟩
      by_cases hez : e = 0
      case neg =>
        have hez' : (e != 0) = true := by simpa using hez
        simp only [go_sem, hez']
      subst hez
      obtain ⟨q1, q2⟩ := hin r hrs he2
      simp only [go_sem]
      refine LoopK.intro (fun i : Nat => ⟨145, [(6, vtb 1730 R), (8, vb v), (11, .sl 6784 1 (r.map (vbl 0))), (113, vi a.length), (114, vi i)], [diceA (l.take 200) at3, [.sl 0 1 (a.map (vl 0))], [.sl 0 1 (b.map (vl 0))]]⟩)
        (fun i => a.length - i) (fun i => i ≤ a.length) 0 (by omega) ?_ ?_
      · simp only [go_sem, hrs.1]
      intro i hi
      by_cases hia : i < a.length
      · have hir : i < r.length := by rw [hrs.1]; exact hia
        have hiR : i < R.length := by rw [hRl]; exact hia
        have hlr : r[i]!.length = b.length := hrs.2 _ (mem_bang hir)
        have hlR : R[i]!.length = b.length := hRs.2 _ (mem_bang hiR)
        have gr := getvr hir
        have gR := gettb (t := 1730) hiR
        have hw : IntKind.i64.wrap (i + 1) = i + 1 := wrap_in (by omega) (by omega)
        simp only [go_sem, hia, hir, gr, hlr]
        refine LoopK.intro (fun j : Nat => ⟨145, [(6, vtb 1730 R), (8, vb v), (11, .sl 6784 1 (r.map (vbl 0))), (13, vi i), (113, vi a.length), (114, vi i), (121, vi b.length), (122, vi j)], [diceA (l.take 200) at3, [.sl 0 1 (a.map (vl 0))], [.sl 0 1 (b.map (vl 0))]]⟩)
          (fun j => b.length - j) (fun j => j ≤ b.length) 0 (by omega) ?_ ?_
        · simp only [go_sem, hvc]
        intro j hj
        by_cases hjb : j < b.length
        · have hjr : j < r[i]!.length := by omega
          have hjR : j < R[i]!.length := by omega
          have g3 := getvb hjr
          have g4 := getvb hjR
          have hw2 : IntKind.i64.wrap (j + 1) = j + 1 := wrap_in (by omega) (by omega)
          cases hrij : r[i]![j]!
          · simp only [go_sem, hjb, hir, gr, hjr, g3, hrij, hw2]
            refine roundK.intro (j + 1) (by show j + 1 ≤ b.length; omega) (by show b.length - (j + 1) < b.length - j; omega) ?_
            simp only [go_sem]
          · have hRij : R[i]![j]! = true := q2 i j hia hjb hrij
            simp only [go_sem, hjb, hir, gr, hjr, g3, hrij, hiR, gR, hjR, g4, hRij, hw2]
            refine roundK.intro (j + 1) (by show j + 1 ≤ b.length; omega) (by show b.length - (j + 1) < b.length - j; omega) ?_
            simp only [go_sem]
        · simp only [go_sem, hjb, hw]
          refine roundK.intro (i + 1) (by show i + 1 ≤ a.length; omega) (by show a.length - (i + 1) < a.length - i; omega) ?_
          simp only [go_sem]
      · simp only [go_sem, hia, q1]
end Go.AM
