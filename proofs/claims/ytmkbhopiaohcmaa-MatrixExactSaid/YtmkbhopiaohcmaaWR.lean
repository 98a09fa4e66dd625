/-
  Walks: the reference's Rank and Kernel.
-/
import Derived.Test.YtmkbhopiaohcmaaWQ
namespace Go.AM
open Go Go.Proofs Go.RowKit

set_option maxRecDepth 100000 in
theorem con_refRank (m : List (List Int)) (hm : Fits m) : Con Try.prog 26 [vm 0 m] [] fun r _ => r = .tup [vi (rankF m).1, vi (rankF m).2] := by
  refine Con.intro Try.func26 rfl Try.ntmps26 Try.results26 (by kernel_rfl) (by simp) 0 (by simp) ?_
  simp only [go_sem]
  refine CallU.free (con_refCheck m hm) (by simp only [go_sem]) (by simp only [go_sem]) ?_
  rintro r bx rfl
  by_cases h1 : checkF m = 0
  case neg =>
    have hb : (checkF m != 0) = true := bne_iff_ne.2 h1
    simp only [go_sem, hb, rankF, h1]
  have hV := check_ok h1
  simp only [go_sem, h1]
  refine CallU.free (con_reduced m hV) (by simp only [go_sem]) (by simp only [go_sem]) ?_
  rintro r bx rfl
  have e : (redF m).1.length = (leadF m).1.length := red_rank hV
  simp only [go_sem, vred, rankF, h1, e]

theorem wrap_nat {z : Nat} (h : (z : Int) ≤ 4611686018427387904) : IntKind.i64.wrap (z : Int) = z := wrap_in (by omega) (by omega)
theorem tdiv_nat {p : Int} {g : Nat} (h : 0 < p) : p.tdiv g = ((p.natAbs / g : Nat) : Int) := by
  have e : p = (p.natAbs : Int) := by omega
  conv => lhs; rw [e]
  exact (Int.ofNat_tdiv _ _).symm
theorem any_flip {l : List Int} {x : Int} : (l.any fun y => y == x) = l.any fun y => x == y := by
  congr 1; funext y; exact Bool.beq_comm ..

set_option maxRecDepth 100000 in
set_option maxHeartbeats 4000000 in
theorem con_refKernel (m : List (List Int)) (hm : Fits m) : Con Try.prog 25 [vm 0 m] [] fun r _ => r = vpairm (kernF m) := by
  refine Con.intro Try.func25 rfl Try.ntmps25 Try.results25 (by kernel_rfl) (by simp) 0 (by simp) ?_
  simp only [go_sem]
  refine CallU.free (con_refCheck m hm) (by simp only [go_sem]) (by simp only [go_sem]) ?_
  rintro r bx rfl
  by_cases h1 : checkF m = 0
  case neg =>
    have hb : (checkF m != 0) = true := bne_iff_ne.2 h1
    simp only [go_sem, hb, vpairm, kernF, h1]
  have hV := check_ok h1
  simp only [go_sem, h1]
  refine CallU.free (con_reduced m hV) (by simp only [go_sem]) (by simp only [go_sem]) ?_
  rintro r bx rfl
  have hQC := red_flat hV
  have hCe := red_cols hV
  obtain ⟨Q, hQ⟩ : ∃ Q, Q = (redF m).1 := ⟨_, rfl⟩
  obtain ⟨C, hC⟩ : ∃ C, C = (redF m).2 := ⟨_, rfl⟩
  have hker := fun {f} => ker_ok hV (f := f)
  rw [← hQ, ← hC] at hQC
  rw [← hC] at hCe
  rw [← hQ, ← hC] at hker
  obtain ⟨K, hK⟩ : ∃ K : Nat → List (List Int), K = fun f => kernGo m (leadF m).1 (leadF m).2 (detF m (leadF m).1 (leadF m).2) m[0]!.length f := ⟨_, rfl⟩
  have hKs : ∀ f, K (f + 1) = if (C.any fun x => (f : Int) == x) = true then K f else K f ++ [primF (kvec m f)] := fun f => by rw [hK, hCe]; rfl
  have hKe : kernF m = (K m[0]!.length, 0) := by rw [kernF, if_pos h1, hK]
  have hK0 : K 0 = [] := by rw [hK]; rfl
  rw [hKe]
  clear hK
  have hp := hV.pos
  have hg0 := getm hp
  have hcl := hV.cle
  have hml := hV.le
  have hQl : Q.length ≤ 6 := by rw [← hQC, hCe]; have := lead_len hV; omega
  simp only [go_sem, vred, ← hQ, ← hC]
  refine LoopK.intro (fun c : Nat => ⟨134, [(0, vm 0 m), (5, vm 1602 Q), (6, vs 1603 C), (7, .sl 8512 1 ((K c).map (vs 0))), (8, vi c)], []⟩)
    (fun c => m[0]!.length - c) (fun c => c ≤ m[0]!.length) 0 (by omega) ?_ ?_
  · simp only [go_sem, hK0, List.map_nil]
  intro c hc
  by_cases h : c < m[0]!.length
  case neg =>
    have hcn : c = m[0]!.length := by omega
    simp only [go_sem, hp, hg0, h, vpairm]
    rw [hcn]
  have hwc : IntKind.i64.wrap (c + 1) = c + 1 := wrap_in (by omega) (by omega)
  simp only [go_sem, hp, hg0, h]
  refine CallU.flat (con_has C c (by omega)) (by simp only [go_sem]) (by simp only [go_sem]) ?_
  rintro r bx rfl
  have hks := hKs c
  rw [any_flip]
  cases han : C.any fun y => (c : Int) == y
  case true =>
    rw [han, if_pos rfl] at hks
    simp only [go_sem, hwc]
    refine roundK.intro (c + 1) (by omega) (by omega) ?_
    simp only [go_sem, hks]
  rw [han, if_neg (by simp)] at hks
  have hnc : (c : Int) ∉ C := fun hm => by
    rw [List.any_eq_false] at han
    exact han _ hm (by simp)
  obtain ⟨a, hA⟩ := hker h hnc
  have hal := hA.ale
  have hap := hA.sol.apos
  simp only [go_sem]
  refine LoopK.intro (fun i : Nat => ⟨134, [(0, vm 0 m), (5, vm 1602 Q), (6, vs 1603 C), (7, .sl 8512 1 ((K c).map (vs 0))), (8, vi c), (9, vi (scR Q C c i)), (10, vi i)], []⟩)
    (fun i => Q.length - i) (fun i => i ≤ Q.length) 0 (by omega) ?_ ?_
  · simp only [go_sem, scR]
  have hrow : ∀ i, i < Q.length → c < Q[i]!.length ∧ i < C.length ∧ C[i]!.toNat < Q[i]!.length ∧ 0 ≤ C[i]! ∧ 0 < pvR Q C i ∧ pvR Q C i ≤ 12079595520 ∧ (-12079595520 ≤ Q[i]![c]! ∧ Q[i]![c]! ≤ 12079595520) := fun i hi => by
    have hb := hA.below.at (i := i) (by omega)
    have hw := hA.wide i hi
    have hpv := hA.sol.pos i hi
    have hs1 := hA.small i hi C[i]!.toNat (by omega)
    have hs2 := hA.small i hi c h
    refine ⟨by omega, by omega, by omega, hb.1, hpv, hs1.2, hs2⟩
  intro i hi
  by_cases h2 : i < Q.length
  · obtain ⟨r1, r2, r3, r4, r5, r6, r7⟩ := hrow i h2
    have hwi : IntKind.i64.wrap (i + 1) = i + 1 := wrap_in (by omega) (by omega)
    have hgQ := getm h2
    have hgC := getv r2
    have hgp := geti r3
    have hgq := getv r1
    simp only [go_sem, h2]
    refine DrawK.walk 11 mixed (by kernel_rfl) ?_
    have r3' : C[i]! < (Q[i]!.length : Int) := by omega
    have hsc := scR_le hA.sol (k := i) (by omega)
    have hsc2 := scR_le hA.sol (k := i + 1) (by omega)
    have hndp := ndR_pos hA.sol h2
    have hndl := ndR_le (Q := Q) (C := C) (f := c) (i := i)
    have hgp0 := gcR_pos hA.sol h2
    simp only [go_sem, h2, r1, r2, r3, r3', r4, hgQ, hgC, hgp, hgq]
    have ep : Q[i]![C[i]!.toNat]! = pvR Q C i := rfl
    rw [ep]
    refine CallU.flat (con_gcd (pvR Q C i) Q[i]![c]! (by omega) (by omega)) (by simp only [go_sem]) (by simp only [go_sem]) ?_
    rintro r bx rfl
    have eg : Nat.gcd (pvR Q C i).natAbs Q[i]![c]!.natAbs = gcR Q C c i := rfl
    rw [eg]
    have hgne : (gcR Q C c i : Int) ≠ 0 := by omega
    have hq1 : IntKind.i64.wrap ((pvR Q C i).tdiv (gcR Q C c i)) = (ndR Q C c i : Int) := by
      rw [tdiv_nat r5]; exact wrap_nat (z := ndR Q C c i) (by omega)
    simp only [go_sem, hq1]
    refine ⟨hgne, ?_⟩
    refine CallU.flat (con_gcd (scR Q C c i) (ndR Q C c i) (by omega) (by omega)) (by simp only [go_sem]) (by simp only [go_sem]) ?_
    rintro r bx rfl
    have hsp := scR_pos hA.sol (k := i) (by omega)
    have hg2 : 0 < Nat.gcd (scR Q C c i) (ndR Q C c i) := Nat.gcd_pos_of_pos_left _ hsp
    have hq2 : IntKind.i64.wrap ((scR Q C c i : Int).tdiv (Nat.gcd (scR Q C c i) (ndR Q C c i))) = ((scR Q C c i / Nat.gcd (scR Q C c i) (ndR Q C c i) : Nat) : Int) := by
      rw [← Int.ofNat_tdiv]
      have := Nat.div_le_self (scR Q C c i) (Nat.gcd (scR Q C c i) (ndR Q C c i))
      exact wrap_nat (by omega)
    have hq3 : IntKind.i64.wrap (((scR Q C c i / Nat.gcd (scR Q C c i) (ndR Q C c i) : Nat) : Int) * (ndR Q C c i : Int)) = (scR Q C c (i + 1) : Int) := by
      rw [← Int.natCast_mul]
      exact wrap_nat (z := scR Q C c (i + 1)) (by omega)
    have hne2 : ((Nat.gcd (scR Q C c i) (ndR Q C c i) : Nat) : Int) ≠ 0 := by omega
    simp only [go_sem, Int.natAbs_natCast, hq2, hq3, hwi]
    refine ⟨hne2, roundK.intro (i + 1) (by omega) (by omega) ?_⟩
    simp only [go_sem]
  have hiq : i = Q.length := by omega
  subst hiq
  simp only [go_sem, h2, hp, hg0]
  refine ⟨Nat.le_refl _, by omega, by omega, by simp only [List.length_replicate]; exact h, ?_⟩
  have hve0 : (List.replicate m[0]!.length (0 : Int)).set c ↑(scR Q C c Q.length) = veR Q C c m[0]!.length 0 := rfl
  rw [hve0]
  refine LoopK.intro (fun i : Nat => ⟨134, [(0, vm 0 m), (5, vm 1602 Q), (6, vs 1603 C), (7, .sl 8512 1 ((K c).map (vs 0))), (8, vi c), (9, vi (scR Q C c Q.length)), (13, vs 4928 (veR Q C c m[0]!.length i)), (14, vi i)], []⟩)
    (fun i => Q.length - i) (fun i => i ≤ Q.length) 0 (by omega) ?_ ?_
  · simp only [go_sem]
  intro i hi
  have hvl := veR_len (Q := Q) (C := C) (f := c) (n := m[0]!.length) i
  by_cases h3 : i < Q.length
  · obtain ⟨r1, r2, r3, r4, r5, r6, r7⟩ := hrow i h3
    have r3' : C[i]! < (Q[i]!.length : Int) := by omega
    have hwi : IntKind.i64.wrap (i + 1) = i + 1 := wrap_in (by omega) (by omega)
    have hgQ := getm h3
    have hgC := getv r2
    have hgp := geti r3
    have hgq := getv r1
    have hndp := ndR_pos hA.sol h3
    have hndl := ndR_le (Q := Q) (C := C) (f := c) (i := i)
    have hgp0 := gcR_pos hA.sol h3
    have hgne : (gcR Q C c i : Int) ≠ 0 := by omega
    have hsl := scR_le hA.sol (Nat.le_refl Q.length)
    have hnum := hA.nums i h3
    have hdv := vaR_div hA.sol (i := i)
    simp only [go_sem, h3]
    refine DrawK.walk 11 mixed (by kernel_rfl) ?_
    simp only [go_sem, h3, r1, r2, r3, r3', r4, hgQ, hgC, hgp, hgq]
    have ep : Q[i]![C[i]!.toNat]! = pvR Q C i := rfl
    rw [ep] at hgp ⊢
    refine CallU.flat (con_gcd (pvR Q C i) Q[i]![c]! (by omega) (by omega)) (by simp only [go_sem]) (by simp only [go_sem]) ?_
    rintro r bx rfl
    have eg : Nat.gcd (pvR Q C i).natAbs Q[i]![c]!.natAbs = gcR Q C c i := rfl
    rw [eg]
    simp only [go_sem]
    refine DrawK.walk 22 mixed (by kernel_rfl) ?_
    have hq1 : IntKind.i64.wrap ((pvR Q C i).tdiv (gcR Q C c i)) = (ndR Q C c i : Int) := by
      rw [tdiv_nat r5]; exact wrap_nat (z := ndR Q C c i) (by omega)
    have hq0 : -12079595520 ≤ Q[i]![c]!.tdiv (gcR Q C c i) ∧ Q[i]![c]!.tdiv (gcR Q C c i) ≤ 12079595520 := by
      have : (Q[i]![c]!.tdiv (gcR Q C c i)).natAbs ≤ Q[i]![c]!.natAbs := by rw [Int.natAbs_tdiv]; exact Nat.div_le_self _ _
      omega
    have hq2 : IntKind.i64.wrap (Q[i]![c]!.tdiv (gcR Q C c i)) = Q[i]![c]!.tdiv (gcR Q C c i) := wrap_in (by omega) (by omega)
    have hq3 : IntKind.i64.wrap (0 - Q[i]![c]!.tdiv (gcR Q C c i)) = -(Q[i]![c]!.tdiv (gcR Q C c i)) := by rw [Int.zero_sub]; exact wrap_in (by omega) (by omega)
    have hq4 : IntKind.i64.wrap ((scR Q C c Q.length : Int).tdiv (ndR Q C c i : Int)) = ((scR Q C c Q.length / ndR Q C c i : Nat) : Int) := by
      rw [← Int.ofNat_tdiv]; exact wrap_nat (by omega)
    have hq5 : IntKind.i64.wrap (-(Q[i]![c]!.tdiv (gcR Q C c i)) * ((scR Q C c Q.length / ndR Q C c i : Nat) : Int)) = vaR Q C c i := by
      show IntKind.i64.wrap (vaR Q C c i) = _
      exact wrap_in (by omega) (by omega)
    simp only [go_sem, h3, r1, r2, r4, hgQ, hgC, hgq, hq1, hq2, hq3, hq4, hq5, hwi]
    have hb := hA.below.at (i := i) (by omega)
    refine ⟨hgne, hgne, by omega, by omega, roundK.intro (i + 1) (by omega) (by omega) ?_⟩
    simp only [go_sem, veR]
  have hiq : i = Q.length := by omega
  have hpr := con_refPrim (veR Q C c m[0]!.length i) (by omega) (fun x hx => by rw [hiq] at hx; have := hA.vsmall x hx; omega)
  have hve : primF (veR Q C c m[0]!.length i) = primF (kvec m c) := by rw [hiq]; exact hA.vec
  rw [hve] at hpr
  simp only [go_sem, h3]
  refine CallU.flat hpr (by simp only [go_sem]) (by simp only [go_sem]) ?_
  rintro r bx rfl
  have hKl : (K c).length ≤ c := by
    clear hks hA hrow hve hpr han hnc h3 hiq hvl hve0 h2 hal hap
    clear hi h hwc hker
    induction c with
    | zero => rw [hK0]; simp
    | succ c ih =>
      rw [hKs c]
      split
      · have := ih (by omega); omega
      · have := ih (by omega); simp; omega
  simp only [go_sem, hwc]
  refine ⟨by simp [roomFor]; omega, roundK.intro (c + 1) (by omega) (by omega) ?_⟩
  simp only [go_sem, hks, List.map_append]
end Go.AM
