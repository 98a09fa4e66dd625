/-
  Walks: the reference's search for a word.
  Plain laws: what the search for a word answers.
  Walks: SimulateOrder, under the sanity check.
  Walks: SimulateWords, SimulateTraces.
  Contracts as SimulateSteps uses them: one answer for every input, the same of code and reference.
  Walks: SimulateSteps.
  How arguments read: slices of elements of several cells, structs.
-/
import Derived.Test.Ythmjnbmooedfjaag7
import Derived.Test.Ythmjnbmooedfjaag6
import Derived.Test.Ythmjnbmooedfjaag5
import Derived.SizedLaws
/-! ## SL -/
namespace Go.AM
open Go Go.Proofs Go.RowKit

def pairR (p : TP) : AV := .ag [vs 0 p.2.1, vs 0 p.2.2, vs 0 p.1]
theorem getpr {l : List TP} {i : Nat} (h : i < l.length) : (l.map pairR)[i]? = some (.ag [.sl 0 1 (l[i]!.2.1.map vi), .sl 0 1 (l[i]!.2.2.map vi), .sl 0 1 (l[i]!.1.map vi)]) := by
  rw [List.getElem?_map, List.getElem?_eq_getElem h, getElem!_pos l i h]; rfl
def sameP (na nb : List Int) (q : TP) : Bool := decide (q.2.1 = na) && decide (q.2.2 = nb)
theorem small_among {a b : Sys} {p : TP} (hca : checkS a = 0) (hcb : checkS b = 0) (h1 : Among a p.2.1) (h2 : Among b p.2.2) : Small p := by
  have a2 := (checkS_ok hca).2.1
  have b2 := (checkS_ok hcb).2.1
  exact ⟨fun i hi => by have := h1.2 i hi; omega, fun i hi => by have := h2.2 i hi; omega⟩
theorem met_any {l : List TP} {w na nb : List Int} (hl : ∀ p ∈ l, Small p) (hn : Small (w, na, nb)) : (l.map keyP).contains (keyP (w, na, nb)) = l.any (sameP na nb) := by
  rw [Bool.eq_iff_iff, List.contains_iff_mem, List.mem_map, List.any_eq_true]
  constructor
  · rintro ⟨q, hq, e⟩
    have := keyP_inj (hl q hq) hn e
    exact ⟨q, hq, by unfold sameP; rw [this]; simp⟩
  · rintro ⟨q, hq, e⟩
    unfold sameP at e
    simp only [Bool.and_eq_true, decide_eq_true_eq] at e
    refine ⟨q, hq, ?_⟩
    unfold keyP; rw [e.1, e.2]

theorem start_leR {t : Nat} (ht : 2 ≤ t) {x y : AV} : leV (.sl t 3 [.ag [x, y, .nil]]) (.sl t 3 [.ag [x, y, .sl 0 1 []]]) := leV_sem fun G w v h => by
  cases h with
  | froz h => exfalso; cases h <;> omega
  | own _ _ _ _ e vals h1 h2 h3 h4 h0 h5 =>
    have h5' : PW (FRel (Stable G) w) [x, y, .nil] vals := by simpa [flat, AV.cells] using h5
    refine .own t 3 _ v e vals h1 h2 h3 (fun z hz => by simp at hz; subst hz; rfl) h0 ?_
    obtain ⟨u1, us, rfl, k1, k2⟩ := h5'.cons_inv
    obtain ⟨u2, us, rfl, k3, k4⟩ := k2.cons_inv
    obtain ⟨u, us, rfl, k5, k6⟩ := k4.cons_inv
    have : FRel (Stable G) w (.sl 0 1 []) u := by cases k5; exact .slNil 0 1 none 0 (by omega) (fun h => by omega) (fun _ => rfl)
    simpa [flat, AV.cells] using PW.cons k1 (PW.cons k3 (PW.cons this k6))

theorem con_behindF (s : Sys) (l : List Int) (lab : Int) (hs : checkS s = 0) (hsl : ∀ x ∈ s, x.length ≤ 281474976710656) (hl : Among s l) :
    Con Try.prog 47 [vy 0 s, vs 0 l, vi lab] [] fun r _ => r = vs 0 (afterF s l lab) :=
  (Con.freezeR (fun _ => true) (con_behind s l lab hs hsl hl)).mono fun r bx ⟨r0, h1, h2⟩ => by subst h1; subst h2; rfl

theorem share2 {T : St → Prop} {A : Prop} {body : (Exit → St → Prop) → St → Prop} {Q : Exit → St → Prop} {σ1 : St} {rest : Prop} (hA : A) (key : ∀ τ, T τ → LoopK body Q τ) (h1 : T σ1) (h2 : (∀ τ, T τ → LoopK body Q τ) → rest) : andK (A ∧ LoopK body Q σ1) rest :=
  ⟨⟨hA, key _ h1⟩, h2 key⟩
/-- the region's operations: the new variable ahead of the second append -/
def traceRow : List Nat := [0, 1, 2, 3, 4, 5, 6, 7, 8, 9, 10, 11, 12, 13, 14, 15, 16, 17, 18, 19, 20, 21, 22, 23, 24, 25, 26, 27, 28, 29, 30, 31, 32, 35, 33, 34, 36]

set_option maxRecDepth 100000 in
set_option maxHeartbeats 4000000 in
theorem con_rtrace (a b : Sys) (most : Nat) (hca : checkS a = 0) (hcb : checkS b = 0) (hm : most ≤ 16) (ha : ∀ l ∈ a, l.length ≤ 1000000) (hb : ∀ l ∈ b, l.length ≤ 1000000) :
    Con Try.prog 30 [vy 0 a, vy 0 b, vi most] [] fun r _ => r = outT (traceF a b most) := by
  have ha' : ∀ l ∈ a, l.length ≤ 281474976710656 := fun l hl => Nat.le_trans (ha l hl) (by decide)
  have hb' : ∀ l ∈ b, l.length ≤ 281474976710656 := fun l hl => Nat.le_trans (hb l hl) (by decide)
  have a2 := (checkS_ok hca).2.1
  have b2 := (checkS_ok hcb).2.1
  have hab : bothS a b = 0 := dealt_both hca hcb
  refine Con.intro Try.func30 rfl Try.ntmps30 Try.results30 (by kernel_rfl) (by simp) 0 (by simp) ?_
  simp only [go_sem]
  refine CallU.free (con_rboth a b ha' (by omega) hb' (by omega)) (by simp only [go_sem]) (by simp only [go_sem]) ?_
  rintro r bx rfl
  have hm0 : ¬ ((most : Int) < 0) := by omega
  have hm1 : ¬ ((16 : Int) < most) := by omega
  simp only [go_sem, hab, hm0, hm1]
  refine LoopK.intro (fun q : List TP × Nat => ⟨136, [(2, vi most), (3, .pb 0 0), (4, .pb 1 0), (10, .sl 2112 3 (q.1.map pairR)), (11, vi q.2)], [[.sl 0 1 (a.map (vl 0))], [.sl 0 1 (b.map (vl 0))]]⟩)
    (fun q => 4096 - q.2)
    (fun q => q.2 ≤ q.1.length ∧ q.1.length ≤ 4096 ∧ (∀ p ∈ q.1, p.1.length ≤ most ∧ Among a p.2.1 ∧ Among b p.2.2) ∧
      (q.1.Pairwise fun p r => p.1.length ≤ r.1.length) ∧ (q.2 < q.1.length → ∀ p ∈ q.1, p.1.length ≤ q.1[q.2]!.1.length + 1) ∧
      (outerF a b most (4096 - q.2) (q.1.drop q.2) (q.1.map keyP) = traceF a b most ∨ traceF a b most = ([], false, 0) ∧ ∀ p ∈ q.1.drop q.2, most ≤ p.1.length)) ([startP], 0)
    ⟨by simp, by simp, fun p hp => by simp at hp; subst hp; exact ⟨by simp [startP], among_start hca, among_start hcb⟩, by simp, fun _ p hp => by simp at hp; subst hp; simp, .inl rfl⟩ ?_ ?_
  · simp only [go_sem]
    exact start_leR (by omega)
  rintro ⟨l, i⟩ ⟨c1, c2, c3, c4, c5, c6⟩
  simp only at c1 c2 c3 c4 c5 c6
  by_cases hi : i < l.length
  case neg =>
    have e : traceF a b most = ([], false, 0) := by
      rcases c6 with c6 | c6
      · rw [← c6, List.drop_of_length_le (by omega)]; unfold outerF; rfl
      · exact c6.1
    simp only [go_sem, hi, e, outT]
  have hw1 : IntKind.i64.wrap (i + 1) = i + 1 := wrap_in (by omega) (by omega)
  have gp := getpr hi
  have hpm : l[i]! ∈ l := mem_bang hi
  have c5 := c5 hi
  have hdrop : l.drop i = l[i]! :: l.drop (i + 1) := by rw [← List.getElem_cons_drop hi, ← getElem!_pos l i hi]
  have hnext : i + 1 < l.length → l[i]!.1.length ≤ l[i + 1]!.1.length := fun h => by
    have := List.pairwise_iff_getElem.1 c4 i (i + 1) hi h (by omega)
    rwa [getElem!_pos l i hi, getElem!_pos l (i + 1) h]
  have hlev : i + 1 < l.length → ∀ p ∈ l, p.1.length ≤ l[i + 1]!.1.length + 1 := fun h p hp => by have := hnext h; have := c5 p hp; omega
  by_cases hw : most ≤ l[i]!.1.length
  · have hwi : (most : Int) ≤ l[i]!.1.length := by omega
    have hB : traceF a b most = ([], false, 0) ∧ ∀ p ∈ l.drop (i + 1), most ≤ p.1.length := by
      rcases c6 with c6 | c6
      · refine ⟨?_, fun p hp => ?_⟩
        · rw [← c6, hdrop, show 4096 - i = (4096 - i - 1) + 1 by omega]
          unfold outerF
          rw [if_pos (by have := (c3 _ hpm).1; omega)]
        · obtain ⟨j, hj⟩ := List.getElem?_of_mem hp
          rw [List.getElem?_drop] at hj
          have hjl := List.getElem?_eq_some_iff.1 hj
          have := List.pairwise_iff_getElem.1 c4 i (i + 1 + j) hi hjl.1 (by omega)
          rw [hjl.2, ← getElem!_pos l i hi] at this
          omega
      · exact ⟨c6.1, fun p hp => c6.2 p (by rw [hdrop]; simp [hp])⟩
    simp only [go_sem, hi, gp, hwi, hw1]
    refine roundK.intro (l, i + 1) ⟨by show i + 1 ≤ l.length; omega, c2, c3, c4, hlev, .inr hB⟩ (by show 4096 - (i + 1) < 4096 - i; omega) ?_
    simp only [go_sem]
  have hwi : ¬ ((most : Int) ≤ l[i]!.1.length) := by omega
  have c6 : outerF a b most (4096 - i) (l.drop i) (l.map keyP) = traceF a b most := c6.resolve_right fun h => hw (h.2 _ (by rw [hdrop]; simp))
  rw [hdrop, show 4096 - i = (4096 - (i + 1)) + 1 by omega] at c6
  unfold outerF at c6
  rw [if_neg (by omega)] at c6
  obtain ⟨d1, d2, d3⟩ := c3 _ hpm
  generalize hp : l[i]! = p at *
  obtain ⟨w, pa, pb⟩ := p
  simp only at d1 d2 d3 gp hw hwi c6 c5
  simp only [go_sem, hi, gp, hwi]
  refine DrawK.walk 6 mixed (by kernel_rfl) ?_
  simp only [go_sem, hi, gp]
  refine CallU.free (con_rlabels a pa d2 ha) (by simp only [go_sem]) (by simp only [go_sem]) ?_
  rintro r bx rfl
  generalize hI : innerF a b (w, pa, pb) (labelsF a pa) ((w, pa, pb) :: List.drop (i + 1) l) (l.map keyP) = I at c6
  generalize hL : labelsF a pa = L at hI
  have hLl : L.length ≤ 128 * 1000000 := by rw [← hL]; exact labels_len d2 ha
  simp only [go_sem]
  refine LoopK.intro (fun q : List TP × Nat => ⟨136, [(2, vi most), (3, .pb 0 0), (4, .pb 1 0), (10, .sl 2112 3 (q.1.map pairR)), (11, vi i), (12, vs 0 L), (13, vi q.2)], [[.sl 0 1 (a.map (vl 0))], [.sl 0 1 (b.map (vl 0))]]⟩)
    (fun q => L.length - q.2)
    (fun q => q.2 ≤ L.length ∧ i < q.1.length ∧ q.1.length ≤ 4096 ∧ (∀ p ∈ q.1, p.1.length ≤ most ∧ Among a p.2.1 ∧ Among b p.2.2) ∧
      (q.1.Pairwise fun p r => p.1.length ≤ r.1.length) ∧ (∀ p ∈ q.1, p.1.length ≤ w.length + 1) ∧ q.1[i]! = (w, pa, pb) ∧
      innerF a b (w, pa, pb) (L.drop q.2) (q.1.drop i) (q.1.map keyP) = I) (l, 0)
    ⟨Nat.zero_le _, hi, c2, c3, c4, c5, hp, by show innerF a b (w, pa, pb) (L.drop 0) (l.drop i) (l.map keyP) = I; rw [hdrop]; exact hI⟩ ?_ ?_
  · simp only [go_sem]
  clear hI hdrop hnext hlev c3 c4 c5 gp hpm hp c2 hi
  rintro ⟨l2, k⟩ ⟨m1, m2, m3, m4, m5, m6, m7, m8⟩
  simp only at m1 m2 m3 m4 m5 m6 m7 m8
  by_cases hk : k < L.length
  case neg =>
    obtain rfl : k = L.length := by omega
    rw [List.drop_length] at m8
    simp only [go_sem, hk, hw1]
    refine roundK.intro (l2, i + 1) ⟨by show i + 1 ≤ l2.length; omega, m3, m4, m5, fun h p hp => ?_, .inl ?_⟩ (by show 4096 - (i + 1) < 4096 - i; omega) ?_
    · have := m6 p hp
      have h2 := List.pairwise_iff_getElem.1 m5 i (i + 1) m2 h (by omega)
      rw [← getElem!_pos l2 i m2, ← getElem!_pos l2 (i + 1) h, m7] at h2
      simp only at h2 ⊢
      omega
    · show outerF a b most (4096 - (i + 1)) (l2.drop (i + 1)) (l2.map keyP) = traceF a b most
      rw [← c6, ← m8]
      simp only [innerF]
      rw [List.tail_drop]
    · simp only [go_sem]
  have hkw : IntKind.i64.wrap (k + 1) = k + 1 := wrap_in (by omega) (by omega)
  have hdk : L.drop k = L[k]! :: L.drop (k + 1) := by rw [← List.getElem_cons_drop hk, ← getElem!_pos L k hk]
  rw [hdk] at m8
  have gl := getv hk
  generalize hlab : L[k]! = lab at gl m8
  have gp := getpr m2
  rw [m7] at gp
  simp only [go_sem, hk]
  refine DrawK.effs traceRow 0 [] [] 34 (.one 34 (.one 35 (.one 36 .done))) (some (33, .alt (.hd 33 (.one 34 (.one 35 (.one 36 .done)))) (.one 34 (.alt (.hd 33 (.one 35 (.one 36 .done))) (.one 35 (.hd 33 (.one 36 .done))))))) [.sl 0 1 (a.map (vl 0))] mixed (by kernel_rfl) (by simp only [traceRow, permG, renO, List.getElem?_cons_zero, List.getElem?_cons_succ, Option.map_none]; exact rfl) (by kernel_rfl) (by kernel_rfl) (by simp only [go_sem]) (by simp only [go_sem]) ?_
  simp only [go_sem, m2, gp, hk, gl]
  refine CallY.mk (con_behindF a pa lab hca ha' d2) (by simp only [go_sem]) (by simp only [go_sem]) (.inl (by simp only [go_sem])) ?_
  simp only [go_sem, m2, gp, hk, gl]
  refine CallY.mk (con_behindF b pb lab hcb hb' d3) (by simp only [go_sem]) (by simp only [go_sem]) (.inl (by simp only [go_sem])) ?_
  have hAna : Among a (afterF a pa lab) := among_afterF hca d2
  have hAnb : Among b (afterF b pb lab) := among_afterF hcb d3
  generalize hna : afterF a pa lab = na at hAna
  generalize hnb : afterF b pb lab = nb at hAnb
  have hnext : nextP a b (w, pa, pb) lab = (w ++ [lab], na, nb) := by unfold nextP; rw [hna, hnb]
  simp only [innerF, hnext] at m8
  have r1 : roomFor w.length 8 := by simp only [roomFor]; omega
  have r2 : roomFor (w.length + 1) 8 := by simp only [roomFor]; omega
  by_cases hz : nb = []
  · rw [if_pos hz] at m8
    have e : traceF a b most = (w ++ [lab], true, 0) := by rw [← c6, ← m8]
    have hz' : ((nb.length : Int) == 0) = true := by rw [hz]; rfl
    have hmap : List.map vi (w ++ [lab]) = List.map vi w ++ [.sc (.int .i64 lab)] := by simp [vi]
    simp only [go_sem, m2, gp, hk, gl, hz', e, outT, hmap]
    refine ⟨r1, r2, ?_⟩
    simp only [go_sem, hz', e, outT, hmap]
    refine ⟨r2, ?_⟩
    simp only [go_sem, hz']
    exact r2
  rw [if_neg hz] at m8
  have hzl : 0 < nb.length := List.length_pos_iff.2 hz
  have hz' : ((nb.length : Int) == 0) = false := by simp; omega
  have hpt : AV.ag [AV.sl 0 1 (na.map vi), AV.sl 0 1 (nb.map vi), AV.sl 0 1 (w.map vi ++ [.sc (.int .i64 lab)])] = pairR (w ++ [lab], na, nb) := by simp [pairR, vs, vi]
  simp only [go_sem, m2, gp, hk, gl, hz']
  refine ⟨r1, share2 (T := fun τ => τ.le ⟨136, [(2, vi most), (3, .pb 0 0), (4, .pb 1 0), (10, .sl 2112 3 (l2.map pairR)), (11, vi i), (12, vs 0 L), (13, vi k), (14, .pe 960 3 [.ag [.sl 0 1 (na.map vi), .sl 0 1 (nb.map vi), .sl 0 1 (w.map vi ++ [.sc (.int .i64 lab)])]] 0 0), (15, vb false), (16, vi 0)], [[.sl 0 1 (a.map (vl 0))], [.sl 0 1 (b.map (vl 0))]]⟩) r2 ?_ ?_ ?_⟩
  · intro τ hτ
    have e0 : (l2.take 0).any (sameP na nb) = false := rfl
    refine LoopK.intro (fun j : Nat => ⟨136, [(2, vi most), (3, .pb 0 0), (4, .pb 1 0), (10, .sl 2112 3 (l2.map pairR)), (11, vi i), (12, vs 0 L), (13, vi k), (14, .pe 960 3 [.ag [.sl 0 1 (na.map vi), .sl 0 1 (nb.map vi), .sl 0 1 (w.map vi ++ [.sc (.int .i64 lab)])]] 0 0), (15, vb ((l2.take j).any (sameP na nb))), (16, vi j)], [[.sl 0 1 (a.map (vl 0))], [.sl 0 1 (b.map (vl 0))]]⟩)
      (fun j => l2.length - j) (fun j => j ≤ l2.length) 0 (by omega) hτ ?_
    intro j hj
    by_cases hjl : j < l2.length
    · have hwj : IntKind.i64.wrap (j + 1) = j + 1 := wrap_in (by omega) (by omega)
      have gq := getpr hjl
      have e1 : (l2.take (j + 1)).any (sameP na nb) = ((l2.take j).any (sameP na nb) || sameP na nb l2[j]!) := by
        rw [List.take_succ_eq_append_getElem hjl, List.any_append, ← getElem!_pos l2 j hjl]; simp
      have hq := m4 _ (mem_bang hjl)
      simp only [go_sem, hjl]
      refine DrawK.walk 21 mixed (by kernel_rfl) ?_
      cases hso : (l2.take j).any (sameP na nb)
      case true =>
        rw [hso, Bool.true_or] at e1
        simp only [go_sem, hwj]
        refine roundK.intro (j + 1) (by show j + 1 ≤ l2.length; omega) (by show l2.length - (j + 1) < l2.length - j; omega) ?_
        simp only [go_sem, e1]
      rw [hso, Bool.false_or] at e1
      simp only [go_sem, hjl, gq]
      refine CallY.mk (con_ints l2[j]!.2.1 na (by have := hq.2.1.1; omega)) (by simp only [go_sem]) (by simp only [go_sem]) (.inl (by simp only [go_sem])) ?_
      by_cases hea : l2[j]!.2.1 = na
      case neg =>
        have e2 : sameP na nb l2[j]! = false := by unfold sameP; rw [decide_eq_false hea]; rfl
        rw [e2] at e1
        simp only [go_sem, hea, decide_false, hwj]
        refine roundK.intro (j + 1) (by show j + 1 ≤ l2.length; omega) (by show l2.length - (j + 1) < l2.length - j; omega) ?_
        simp only [go_sem, e1]
      have hda : decide (l2[j]!.2.1 = na) = true := decide_eq_true hea
      simp only [go_sem, hjl, gq, hda]
      refine CallY.mk (con_ints l2[j]!.2.2 nb (by have := hq.2.2.1; omega)) (by simp only [go_sem]) (by simp only [go_sem]) (.inl (by simp only [go_sem])) ?_
      have e2 : sameP na nb l2[j]! = decide (l2[j]!.2.2 = nb) := by unfold sameP; rw [hda, Bool.true_and]
      rw [e2] at e1
      cases hdb : decide (l2[j]!.2.2 = nb)
      · rw [hdb] at e1
        simp only [go_sem, hwj]
        refine roundK.intro (j + 1) (by show j + 1 ≤ l2.length; omega) (by show l2.length - (j + 1) < l2.length - j; omega) ?_
        simp only [go_sem, e1]
      · rw [hdb] at e1
        simp only [go_sem, hwj]
        refine roundK.intro (j + 1) (by show j + 1 ≤ l2.length; omega) (by show l2.length - (j + 1) < l2.length - j; omega) ?_
        simp only [go_sem, e1]
    obtain rfl : j = l2.length := by omega
    have hT : l2.take l2.length = l2 := List.take_length
    have hsm : Small (w ++ [lab], na, nb) := small_among hca hcb hAna hAnb
    rw [met_any (fun p hp => small_among hca hcb (m4 p hp).2.1 (m4 p hp).2.2) hsm, List.length_map] at m8
    cases hany : l2.any (sameP na nb)
    case true =>
      rw [hany, if_pos rfl] at m8
      simp only [go_sem, hjl, hT, hany, hkw]
      refine roundK.intro (l2, k + 1) ⟨by show k + 1 ≤ L.length; omega, m2, m3, m4, m5, m6, m7, m8⟩ (by show L.length - (k + 1) < L.length - k; omega) ?_
      simp only [go_sem]
    rw [hany, if_neg (by simp)] at m8
    by_cases hfull : 4096 ≤ l2.length
    · rw [if_pos hfull] at m8
      have e : traceF a b most = ([], false, 1) := by rw [← c6, ← m8]
      have hf : (4096 : Int) ≤ l2.length := by omega
      simp only [go_sem, hjl, hT, hany, hf, e, outT]
    rw [if_neg hfull] at m8
    have hf : ¬ ((4096 : Int) ≤ l2.length) := by omega
    have hpt : pairR (w ++ [lab], na, nb) = AV.ag [AV.sl 0 1 (na.map vi), AV.sl 0 1 (nb.map vi), AV.sl 0 1 (w.map vi ++ [.sc (.int .i64 lab)])] := by simp [pairR, vs, vi]
    simp only [go_sem, hjl, hT, hany, hf, hkw]
    have hnew : ∀ p ∈ [((w ++ [lab], na, nb) : TP)], p.1.length = w.length + 1 ∧ Among a p.2.1 ∧ Among b p.2.2 := fun p hp => by
      simp at hp; subst hp
      exact ⟨by simp, hAna, hAnb⟩
    refine ⟨by simp only [roomFor]; omega, roundK.intro (l2 ++ [(w ++ [lab], na, nb)], k + 1) ⟨by show k + 1 ≤ L.length; omega, by simp; omega, by simp; omega, fun p hp => ?_, ?_, fun p hp => ?_, ?_, ?_⟩ (by show L.length - (k + 1) < L.length - k; omega) ?_⟩
    · rcases List.mem_append.1 hp with hp | hp
      · exact m4 p hp
      · have := hnew p hp; exact ⟨by omega, this.2⟩
    · refine List.pairwise_append.2 ⟨m5, by simp, fun p hp q hq => ?_⟩
      have h1 := m6 p hp
      have h2 := (hnew q hq).1
      omega
    · rcases List.mem_append.1 hp with hp | hp
      · exact m6 p hp
      · have := (hnew p hp).1; omega
    · show (l2 ++ [(w ++ [lab], na, nb)])[i]! = (w, pa, pb)
      rw [getElem!_pos _ i (by simp; omega), List.getElem_append_left m2, ← getElem!_pos l2 i m2]; exact m7
    · show innerF a b (w, pa, pb) (L.drop (k + 1)) ((l2 ++ [(w ++ [lab], na, nb)]).drop i) ((l2 ++ [(w ++ [lab], na, nb)]).map keyP) = I
      rw [List.drop_append_of_le_length (by omega), List.map_append]; exact m8
    · simp only [go_sem, List.map_append, List.map_cons, List.map_nil, hpt]
  · simp only [go_sem]
  · intro key
    simp only [go_sem, hz']
    refine ⟨⟨r2, key _ (by simp only [go_sem])⟩, ?_⟩
    simp only [go_sem, hz']
    refine ⟨r2, ⟨key _ (by simp only [go_sem]), ?_⟩⟩
    simp only [go_sem, hz']
    exact key _ (by simp only [go_sem])
end Go.AM

/-! ## Le -/
namespace Go.AM

theorem small_of {a b : Sys} (ha : checkS a = 0) (hb : checkS b = 0) {p : TP} (h : p.2.1 = accF a p.1 ∧ p.2.2 = accF b p.1 ∧ p.2.2 ≠ []) : Small p := by
  have a2 := (checkS_ok ha).2.1
  have b2 := (checkS_ok hb).2.1
  refine ⟨fun i hi => ?_, fun i hi => ?_⟩
  · rw [h.1] at hi; have := (accF_among ha p.1).2 i hi; omega
  · rw [h.2.1] at hi; have := (accF_among hb p.1).2 i hi; omega

/-- during a round: the first labels have been looked at -/
structure Round (a b : Sys) (seen : List TP) (k : Nat) (p : TP) (rest : List Int) : Prop where
  met : Met a b seen k
  at_ : seen[k]? = some p
  got : ∀ lab ∈ labelsF a p.2.1, lab ∈ rest ∨ ∃ q ∈ seen, q.1.length ≤ p.1.length + 1 ∧ q.2.1 = afterF a p.2.1 lab ∧ q.2.2 = afterF b p.2.2 lab

theorem contains_key {a b : Sys} (ha : checkS a = 0) (hb : checkS b = 0) {seen : List TP} {k : Nat} (h : Met a b seen k) {n : TP} (hn : Small n) : (seen.map keyP).contains (keyP n) = true ↔ ∃ q ∈ seen, q.2 = n.2 := by
  rw [List.contains_iff_mem, List.mem_map]
  constructor
  · rintro ⟨q, hq, e⟩
    exact ⟨q, hq, keyP_inj (small_of ha hb (h.valid q hq)) hn e⟩
  · rintro ⟨q, hq, e⟩
    exact ⟨q, hq, by unfold keyP; rw [e]⟩

theorem Round.add {a b : Sys} (_ha : checkS a = 0) (_hb : checkS b = 0) {seen : List TP} {k : Nat} {p : TP} {lab : Int} {rest : List Int} (h : Round a b seen k p (lab :: rest)) (hne : (nextP a b p lab).2.2 ≠ []) (hno : ¬ ∃ q ∈ seen, q.2 = (nextP a b p lab).2) :
    Round a b (seen ++ [nextP a b p lab]) k p rest := by
  have hkl := (List.getElem?_eq_some_iff.1 h.at_).1
  have hpm : p ∈ seen := List.mem_of_getElem? h.at_
  have hv := h.met.valid p hpm
  refine ⟨⟨fun q hq => ?_, ?_, List.mem_append_left _ h.met.first, fun q hq l hl => ?_, fun q hq p' hp' => ?_, ?_⟩, by rw [List.getElem?_append_left hkl]; exact h.at_, fun l hl => ?_⟩
  · rcases List.mem_append.1 hq with hq | hq
    · exact h.met.valid q hq
    · simp at hq; subst hq
      exact ⟨by simp only [nextP]; rw [accF_snoc, ← hv.1], by simp only [nextP]; rw [accF_snoc, ← hv.2.1], hne⟩
  · rw [List.pairwise_append]
    refine ⟨h.met.sorted, by simp, fun q hq r hr => ?_⟩
    simp at hr; subst hr
    have := h.met.level q hq p h.at_
    simpa [nextP] using this
  · rw [List.take_append_of_le_length (by omega)] at hq
    obtain ⟨r, hr, g⟩ := h.met.done q hq l hl
    exact ⟨r, List.mem_append_left _ hr, g⟩
  · rw [List.getElem?_append_left hkl] at hp'
    rcases List.mem_append.1 hq with hq | hq
    · exact h.met.level q hq p' hp'
    · simp at hq; subst hq
      rw [h.at_] at hp'; cases hp'
      simp [nextP]
  · rw [List.pairwise_append]
    refine ⟨h.met.apart, by simp, fun q hq r hr => ?_⟩
    simp at hr; subst hr
    exact fun e => hno ⟨q, hq, e⟩
  · rcases h.got l hl with hm | ⟨q, hq, g⟩
    · rcases List.mem_cons.1 hm with rfl | hm
      · exact .inr ⟨_, List.mem_append_right _ (List.mem_singleton.2 rfl), by simp [nextP], rfl, rfl⟩
      · exact .inl hm
    · exact .inr ⟨q, List.mem_append_left _ hq, g⟩

theorem Round.skip {a b : Sys} {seen : List TP} {k : Nat} {p : TP} {lab : Int} {rest : List Int} (h : Round a b seen k p (lab :: rest)) (hyes : ∃ q ∈ seen, q.2 = (nextP a b p lab).2) : Round a b seen k p rest :=
  ⟨h.met, h.at_, fun l hl => by
    rcases h.got l hl with hm | hm
    · rcases List.mem_cons.1 hm with rfl | hm
      · obtain ⟨q, hq, e⟩ := hyes
        exact .inr ⟨q, hq, h.met.level q hq p h.at_, by rw [e]; rfl, by rw [e]; rfl⟩
      · exact .inl hm
    · exact .inr hm⟩

theorem Round.next {a b : Sys} {seen : List TP} {k : Nat} {p : TP} (h : Round a b seen k p []) : Met a b seen (k + 1) := by
  have hkl := (List.getElem?_eq_some_iff.1 h.at_).1
  refine ⟨h.met.valid, h.met.sorted, h.met.first, fun q hq l hl => ?_, fun q hq p' hp' => ?_, h.met.apart⟩
  · rw [List.take_add_one, h.at_] at hq
    rcases List.mem_append.1 hq with hq | hq
    · exact h.met.done q hq l hl
    · simp at hq; subst hq
      rcases h.got l hl with hm | hm
      · simp at hm
      · exact hm
  · have h1 := h.met.level q hq p h.at_
    have hl' := (List.getElem?_eq_some_iff.1 hp').1
    have h2 := List.pairwise_iff_getElem.1 h.met.sorted k (k + 1) hkl hl' (by omega)
    rw [List.getElem?_eq_getElem hl'] at hp'; cases hp'
    have h3 := h.at_
    rw [List.getElem?_eq_getElem hkl] at h3; cases h3
    omega

/-- what a round leaves -/
def InnerOk (a b : Sys) (k : Nat) (p : TP) (most : Nat) : TOut → Prop
  | .go todo met => ∃ seen, todo = seen.drop k ∧ met = seen.map keyP ∧ Round a b seen k p [] ∧ seen.length ≤ 4096 ∧ ∀ q ∈ seen, q.1.length ≤ most
  | .done w s e => (s = true ∧ e = 0 ∧ ∃ lab ∈ labelsF a p.2.1, w = p.1 ++ [lab] ∧ afterF b p.2.2 lab = []) ∨ (s = false ∧ e = 1 ∧ w = [] ∧ ∃ seen k, Met a b seen k ∧ 4096 ≤ seen.length ∧ ∀ q ∈ seen, q.1.length ≤ most)

theorem inner_ok {a b : Sys} (ha : checkS a = 0) (hb : checkS b = 0) {k : Nat} {p : TP} {most : Nat} (hm : p.1.length < most) : ∀ (rest : List Int) (seen : List TP), (∀ l ∈ rest, l ∈ labelsF a p.2.1) → Round a b seen k p rest → seen.length ≤ 4096 → (∀ q ∈ seen, q.1.length ≤ most) →
    InnerOk a b k p most (innerF a b p rest (seen.drop k) (seen.map keyP))
  | [], seen, _, h, h2, h3 => ⟨seen, rfl, rfl, h, h2, h3⟩
  | lab :: rest, seen, hl, h, h2, h3 => by
    have hkl := (List.getElem?_eq_some_iff.1 h.at_).1
    have hpm : p ∈ seen := List.mem_of_getElem? h.at_
    have hv := h.met.valid p hpm
    unfold innerF
    by_cases hz : (nextP a b p lab).2.2 = []
    · rw [if_pos hz]
      exact .inl ⟨rfl, rfl, lab, hl lab (by simp), rfl, hz⟩
    rw [if_neg hz]
    have hs : Small (nextP a b p lab) := small_of ha hb ⟨by simp only [nextP]; rw [accF_snoc, ← hv.1], by simp only [nextP]; rw [accF_snoc, ← hv.2.1], hz⟩
    by_cases hc : (seen.map keyP).contains (keyP (nextP a b p lab)) = true
    · rw [if_pos hc]
      exact inner_ok ha hb hm rest seen (fun l hl' => hl l (by simp [hl'])) (h.skip ((contains_key ha hb h.met hs).1 hc)) h2 h3
    rw [if_neg hc, List.length_map]
    by_cases hf : 4096 ≤ seen.length
    · rw [if_pos hf]
      exact .inr ⟨rfl, rfl, rfl, seen, k, h.met, hf, h3⟩
    rw [if_neg hf]
    have hadd := h.add ha hb hz (fun e => hc ((contains_key ha hb h.met hs).2 e))
    have := inner_ok ha hb hm rest (seen ++ [nextP a b p lab]) (fun l hl' => hl l (by simp [hl'])) hadd (by simp; omega) (fun q hq => by
      rcases List.mem_append.1 hq with hq | hq
      · exact h3 q hq
      · simp at hq; subst hq; simp [nextP]; omega)
    rw [List.drop_append_of_le_length (by omega), List.map_append] at this
    exact this

/-- what the search answers -/
structure TraceOk (a b : Sys) (most : Nat) (r : List Int × Bool × Int) : Prop where
  some : r.2.1 = true → r.2.2 = 0 ∧ ApartW a b r.1 ∧ r.1.length ≤ most ∧ ∀ x, x.length < r.1.length → ¬ ApartW a b x
  none : r.2.1 = false → r.1 = [] ∧ (r.2.2 = 0 ∨ r.2.2 = 1)
  all : r.2.1 = false → r.2.2 = 0 → ∀ x, x.length ≤ most → ¬ ApartW a b x
  many : r.2.2 = 1 → ∃ seen k, Met a b seen k ∧ 4096 ≤ seen.length ∧ ∀ q ∈ seen, q.1.length ≤ most

theorem ok_none {a b : Sys} {seen : List TP} {k most : Nat} (h : Met a b seen k) (hx : ∀ p, seen[k]? = some p → most ≤ p.1.length) : TraceOk a b most ([], false, 0) :=
  ⟨fun e => (by cases e), fun _ => ⟨rfl, .inl rfl⟩, fun _ _ x hl => h.none (fun p hp => Nat.le_trans hl (hx p hp)), fun e => (by cases e)⟩
theorem outer_ok {a b : Sys} (ha : checkS a = 0) (hb : checkS b = 0) {most : Nat} : ∀ (n : Nat) (seen : List TP) (k : Nat), Met a b seen k → k ≤ seen.length → seen.length ≤ 4096 → (∀ q ∈ seen, q.1.length ≤ most) → 4096 - k ≤ n →
    TraceOk a b most (outerF a b most n (seen.drop k) (seen.map keyP)) := by
  intro n
  induction n with
  | zero =>
    intro seen k h hk h2 h3 hn
    have : seen.drop k = [] := List.drop_of_length_le (by omega)
    rw [this]
    unfold outerF
    exact ok_none h fun p hp => (by have := (List.getElem?_eq_some_iff.1 hp).1; omega)
  | succ n ih =>
    intro seen k h hk h2 h3 hn
    rcases Nat.lt_or_ge k seen.length with hkl | hge
    · have hk0 : seen[k]? = some seen[k] := List.getElem?_eq_getElem hkl
      have hd : seen.drop k = seen[k] :: seen.drop (k + 1) := (List.getElem_cons_drop hkl).symm
      generalize hp : seen[k] = p at hk0 hd
      have hpm : p ∈ seen := List.mem_of_getElem? hk0
      have hv := h.valid p hpm
      rw [hd]
      unfold outerF
      by_cases hm : p.1.length = most
      · rw [if_pos hm]
        exact ok_none h fun p' hp' => (by rw [hk0] at hp'; cases hp'; omega)
      rw [if_neg hm]
      have hlt : p.1.length < most := by have := h3 p hpm; omega
      have hin := inner_ok ha hb hlt (labelsF a p.2.1) seen (fun l hl => hl) ⟨h, hk0, fun l hl => .inl hl⟩ h2 h3
      rw [hd] at hin
      cases hI : innerF a b p (labelsF a p.2.1) (p :: seen.drop (k + 1)) (seen.map keyP) with
      | go todo met =>
        rw [hI] at hin
        obtain ⟨seen2, e1, e2, e3, e4, e5⟩ := hin
        have hk2 := (List.getElem?_eq_some_iff.1 e3.at_).1
        subst e1; subst e2
        simp only
        rw [List.tail_drop]
        exact ih seen2 (k + 1) e3.next (by omega) e4 e5 (by omega)
      | done w s e =>
        rw [hI] at hin
        simp only
        rcases hin with ⟨rfl, rfl, lab, hl, rfl, hz⟩ | ⟨rfl, rfl, rfl, hmany⟩
        · refine ⟨fun _ => ⟨rfl, ⟨?_, ?_⟩, by simp; omega, fun x hx => h.none fun p' hp' => ?_⟩, fun e => (by cases e), fun e => (by cases e), fun e => (by simp at e)⟩
          · obtain ⟨i, hi, t, ht⟩ := mem_labelsF.1 hl
            have : t ∈ afterF a p.2.1 lab := mem_afterF.2 ⟨i, hi, ht⟩
            unfold Acc
            rw [accF_snoc, ← hv.1]
            exact List.ne_nil_of_mem this
          · unfold Acc
            rw [accF_snoc, ← hv.2.1, hz]
            exact fun h => h rfl
          · rw [hk0] at hp'; cases hp'
            simp at hx; omega
        · exact ⟨fun e => (by cases e), fun _ => ⟨rfl, .inr rfl⟩, fun _ e => (by cases e), fun _ => hmany⟩
    · have : seen.drop k = [] := List.drop_of_length_le (by omega)
      rw [this]
      unfold outerF
      exact ok_none h fun p hp => (by have := (List.getElem?_eq_some_iff.1 hp).1; omega)

theorem met_start (a b : Sys) : Met a b [startP] 0 where
  valid := fun p hp => by simp at hp; subst hp; exact ⟨rfl, rfl, by simp [startP]⟩
  sorted := by simp
  first := by simp
  done := fun p hp => by simp at hp
  level := fun q hq p hp => by simp at hq hp; subst hq; subst hp; omega
  apart := by simp

theorem trace_ok {a b : Sys} (ha : checkS a = 0) (hb : checkS b = 0) (most : Nat) : TraceOk a b most (traceF a b most) :=
  outer_ok ha hb 4096 [startP] 0 (met_start a b) (by simp) (by simp) (fun q hq => by simp at hq; subst hq; simp [startP]) (by omega)
end Go.AM

/-! ## WA -/
namespace Go.AM
open Go Go.Proofs Go.RowKit

/-- the sanity check holds -/
def Sane : Prop := Con Try.prog 9 [] [] fun r _ => r = .sc (.bool true)

theorem seeds_take {l : List Int} (hx : ∀ x ∈ l, 0 ≤ x ∧ x < 256) : Seeds (l.take 200) := ⟨by rw [List.length_take]; omega, fun x h => hx x (List.mem_of_mem_take h)⟩

theorem order_refl {a : Sys} {o : Bool} (ka : checkS a = 0) (h : Sim00 a a o) : o = true := by
  obtain ⟨R, hR, rfl⟩ := h
  exact great_refl hR (checkS_inside ka) (checkS_ok ka).1
theorem order_trans {a b c : Sys} {p q u : Bool} (ka : checkS a = 0) (kb : checkS b = 0) (kc : checkS c = 0) (hp : Sim00 a b p) (hq : Sim00 b c q) (hu : Sim00 a c u) : p = true → q = true → u = true := by
  obtain ⟨R, hR, rfl⟩ := hp
  obtain ⟨S, hS, rfl⟩ := hq
  obtain ⟨T, hT, rfl⟩ := hu
  exact great_trans hR hS hT (checkS_inside ka) (checkS_inside kb) (checkS_inside kc) (checkS_ok ka).1 (checkS_ok kb).1 (checkS_ok kc).1
theorem order_all {a : Sys} (ka : checkS a = 0) (hd : Dealt a) : simV a allS = true := by
  obtain ⟨R, hR⟩ := exists_greatest a allS
  have h : Sim00 a allS (rel R 0 0) := ⟨R, hR, rfl⟩
  rw [← h.eq (checkS_inside ka) (checkS_inside all_check) (checkS_ok ka).1 (by decide)]
  exact great_all hR (checkS_inside ka) (fun l hl q hq => by have := (hd.2.2 l hl).2 q hq; omega) (checkS_ok ka).1

set_option maxRecDepth 100000 in
set_option maxHeartbeats 2000000 in
theorem con_order (hsane : Sane) (l : List Int) (hl : l.length ≤ 9223372036854775807) (hx : ∀ x ∈ l, 0 ≤ x ∧ x < 256) : Con Try.prog 5 [.sl 0 1 (l.map vu)] [] fun r _ => r = .sc (.bool true) := by
  have hs := seeds_take hx
  refine Con.intro Try.func5 rfl Try.ntmps5 Try.results5 (by kernel_rfl) (by simp) 0 (by simp) ?_
  simp only [go_sem]
  refine CallU.free hsane (by simp only [go_sem]) (by simp only [go_sem]) ?_
  rintro r bx rfl
  simp only [go_sem]
  refine CallU.news (bx0 := []) (con_new l hl) (by simp only [go_sem]) (by simp only [go_sem]) (by simp only [go_sem]) (by simp only [go_sem]) (by simp only [go_sem]) ?_
  rintro r bx ⟨rfl, rfl⟩
  simp only [go_sem]
  refine CallU.boxes (i := 0) (is := []) (bx0 := [diceA (l.take 200) 0]) (con_system (l.take 200) 0 hs (by omega)) (by simp only [go_sem]) (by simp only [go_sem]) (by simp only [go_sem]) (by simp only [go_sem]) (by simp only [go_sem]) ?_
  rintro r bx ⟨a, at1, rfl, hda, ha1, rfl⟩
  simp only [go_sem]
  refine CallU.boxes (i := 0) (is := []) (bx0 := [diceA (l.take 200) at1]) (con_system (l.take 200) at1 hs ha1) (by simp only [go_sem]) (by simp only [go_sem]) (by simp only [go_sem]) (by simp only [go_sem]) (by simp only [go_sem]) ?_
  rintro r bx ⟨b, at2, rfl, hdb, ha2, rfl⟩
  simp only [go_sem]
  refine CallU.boxes (i := 0) (is := []) (bx0 := [diceA (l.take 200) at2]) (con_system (l.take 200) at2 hs ha2) (by simp only [go_sem]) (by simp only [go_sem]) (by simp only [go_sem]) (by simp only [go_sem]) (by simp only [go_sem]) ?_
  rintro r bx ⟨c, at3, rfl, hdc, ha3, rfl⟩
  simp only [go_sem]
  have ka := dealt_check hda
  have kb := dealt_check hdb
  have kc := dealt_check hdc
  have la : a.length ≤ 8 := by have := hda.2.1; omega
  have lb : b.length ≤ 8 := by have := hdb.2.1; omega
  have lc : c.length ≤ 8 := by have := hdc.2.1; omega
  refine CallU.flat (con_simulates a b (dealt_both ka kb) (dealt_len hda) (dealt_len hdb) lb) (by simp only [go_sem]) (by simp only [go_sem]) ?_
  rintro r bx ⟨p, rfl, hp⟩
  simp only [go_sem]
  refine CallU.flat (con_simulates b c (dealt_both kb kc) (dealt_len hdb) (dealt_len hdc) lc) (by simp only [go_sem]) (by simp only [go_sem]) ?_
  rintro r bx ⟨q, rfl, hq⟩
  simp only [go_sem]
  refine CallU.flat (con_simulates a c (dealt_both ka kc) (dealt_len hda) (dealt_len hdc) lc) (by simp only [go_sem]) (by simp only [go_sem]) ?_
  rintro r bx ⟨u, rfl, hu⟩
  simp only [go_sem]
  refine CallU.flat (con_simulates a a (dealt_both ka ka) (dealt_len hda) (dealt_len hda) la) (by simp only [go_sem]) (by simp only [go_sem]) ?_
  rintro r bx ⟨o, rfl, ho⟩
  simp only [go_sem]
  refine DrawK.walk 8 mixed (by kernel_rfl) ?_
  simp only [go_sem]
  refine CallY.mk con_all (by simp only [go_sem]) (by simp only [go_sem]) (.inl rfl) ?_
  simp only [go_sem]
  refine CallY.mk (con_simulatesV a allS ka all_check (dealt_len hda) all_len (by decide)) (by simp only [go_sem, allS, List.map_cons, List.map_nil]) (by simp only [go_sem]) (.inr (by simp only [go_sem])) ?_
  have e1 : o = true := order_refl ka ho
  have e2 : simV a allS = true := order_all ka hda
  have e3 : p = true → q = true → u = true := order_trans ka kb kc hp hq hu
  cases p
  · cases q <;> simp only [go_sem, e1, e2]
  · cases q
    · simp only [go_sem, e1, e2]
    · simp only [go_sem, e1, e2, e3 rfl rfl]
end Go.AM

/-! ## WR -/
namespace Go.AM
open Go Go.Proofs Go.RowKit

theorem con_acc (s : Sys) (word : List Int) (hs : checkS s = 0) (hl : ∀ l ∈ s, l.length ≤ 1000000) (hw : word.length ≤ 1000000) :
    Con Try.prog 14 [vy 0 s, vs 0 word] [] fun r _ => r = .sc (.bool (decide (0 < (accF s word).length))) :=
  (con_accepts s word (fun k => accF s (word.take k)) hs (fun l hm => Nat.le_trans (hl l hm) (by decide)) hw rfl fun k hk => by
    have := con_after (accF s (word.take k)) s word[k]! (accF_among hs _) hl
    rw [take_snoc hk, accF_snoc]; exact this).mono fun r bx h => by rw [h, List.take_length]
theorem dealt_small {s : Sys} (h : Dealt s) : ∀ l ∈ s, l.length ≤ 1000000 := fun l hl => by have := (h.2.2 l hl).1; omega
theorem acc_iff {s : Sys} {w : List Int} : decide (0 < (accF s w).length) = true ↔ Acc s w := by
  rw [decide_eq_true_iff]; unfold Acc; exact List.length_pos_iff

/-- the first five, as letters -/
def wordF (l : List Int) (i : Nat) : List Int := (l.take (min i 5)).map (· % 3)
theorem wordF_len (l : List Int) (i : Nat) : (wordF l i).length ≤ 5 := by unfold wordF; rw [List.length_map, List.length_take]; omega

theorem sim_yes {a b : Sys} {v : Bool} (ha : checkS a = 0) (hb : checkS b = 0) (h : Sim00 a b v) (hv : v = true) {w : List Int} (hw : Acc a w) : Acc b w := by
  obtain ⟨R, hR, rfl⟩ := h
  exact sim_acc (S := fun x y => rel R x y = true) ha hb hR.sim hv hw

set_option maxRecDepth 100000 in
set_option maxHeartbeats 2000000 in
theorem con_wordsLaw (l : List Int) (wd : List Int) (hl : l.length ≤ 9223372036854775807) (hx : ∀ x ∈ l, 0 ≤ x ∧ x < 256) (hwl : wd.length ≤ 9223372036854775807) (hwx : ∀ x ∈ wd, 0 ≤ x ∧ x < 256) :
    Con Try.prog 3 [.sl 0 1 (l.map vu), .sl 0 1 (wd.map vu)] [] fun r _ => r = .sc (.bool true) := by
  have hs := seeds_take hx
  refine Con.intro Try.func3 rfl Try.ntmps3 Try.results3 (by kernel_rfl) (by simp) 0 (by simp) ?_
  simp only [go_sem]
  refine CallU.free con_sane (by simp only [go_sem]) (by simp only [go_sem]) ?_
  rintro r bx rfl
  simp only [go_sem]
  refine CallU.news (bx0 := []) (con_new l hl) (by simp only [go_sem]) (by simp only [go_sem]) (by simp only [go_sem]) (by simp only [go_sem]) (by simp only [go_sem]) ?_
  rintro r bx ⟨rfl, rfl⟩
  simp only [go_sem]
  refine CallU.boxes (i := 0) (is := []) (bx0 := [diceA (l.take 200) 0]) (con_system (l.take 200) 0 hs (by omega)) (by simp only [go_sem]) (by simp only [go_sem]) (by simp only [go_sem]) (by simp only [go_sem]) (by simp only [go_sem]) ?_
  rintro r bx ⟨a, at1, rfl, hda, ha1, rfl⟩
  simp only [go_sem]
  refine CallU.boxes (i := 0) (is := []) (bx0 := [diceA (l.take 200) at1]) (con_system (l.take 200) at1 hs ha1) (by simp only [go_sem]) (by simp only [go_sem]) (by simp only [go_sem]) (by simp only [go_sem]) (by simp only [go_sem]) ?_
  rintro r bx ⟨b, at2, rfl, hdb, ha2, rfl⟩
  simp only [go_sem]
  have ka := dealt_check hda
  have kb := dealt_check hdb
  have lb : b.length ≤ 8 := by have := hdb.2.1; omega
  refine CallU.freeze (con_simulates a b (dealt_both ka kb) (dealt_len hda) (dealt_len hdb) lb) (by simp only [go_sem]) (by simp only [go_sem]) ?_
  rintro r bx ⟨v, rfl, hv⟩
  simp only [go_sem]
  refine LoopK.intro (fun i : Nat => ⟨80, [(6, .pb 1 0), (7, .pb 2 0), (8, vb v), (9, vi 0), (10, .sl 2880 1 ((wordF wd i).map vi)), (30, .sl 0 1 (wd.map vu)), (31, vi wd.length), (32, vi i)], [diceA (l.take 200) at2, [.sl 0 1 (a.map (vl 0))], [.sl 0 1 (b.map (vl 0))]]⟩)
    (fun i => wd.length - i) (fun i => i ≤ wd.length) 0 (by omega) ?_ ?_
  · simp only [go_sem, wordF, Nat.zero_min, List.take_zero, List.map_nil]
  intro i hi
  by_cases h : i < wd.length
  · have g1 := getu h
    have hw : IntKind.i64.wrap (i + 1) = i + 1 := wrap_in (by omega) (by omega)
    have hb := hwx _ (mem_bang h)
    have hw2 : IntKind.i64.wrap wd[i]! = wd[i]! := wrap_in (by omega) (by omega)
    by_cases h5 : (i : Int) < 5
    · have ht : Int.tmod wd[i]! 3 = wd[i]! % 3 := Int.tmod_eq_emod_of_nonneg hb.1
      have hsn : wordF wd (i + 1) = wordF wd i ++ [wd[i]! % 3] := by
        unfold wordF
        rw [show min (i + 1) 5 = i + 1 by omega, show min i 5 = i by omega, take_snoc h, List.map_append]; rfl
      simp only [go_sem, h, g1, h5, hw2, ht, hw]
      have hwl5 := wordF_len wd i
      refine ⟨by simp only [roomFor]; omega, roundK.intro (i + 1) (by show i + 1 ≤ wd.length; omega) (by show wd.length - (i + 1) < wd.length - i; omega) ?_⟩
      simp only [go_sem, hsn, List.map_append, List.map_cons, List.map_nil]
    · have hsn : wordF wd (i + 1) = wordF wd i := by unfold wordF; rw [show min (i + 1) 5 = 5 by omega, show min i 5 = 5 by omega]
      simp only [go_sem, h, g1, h5, hw]
      refine roundK.intro (i + 1) (by show i + 1 ≤ wd.length; omega) (by show wd.length - (i + 1) < wd.length - i; omega) ?_
      simp only [go_sem, hsn]
  · obtain rfl : i = wd.length := by omega
    simp only [go_sem, h]
    refine CallU.free (con_trace a b 5 ka kb (by omega) (dealt_small hda) (dealt_small hdb)) (by simp only [go_sem]) (by simp only [go_sem]) ?_
    rintro r bx rfl
    have hT := trace_ok ka kb 5
    have hW := wordF_len wd wd.length
    generalize wordF wd wd.length = W at hW
    rcases hr : traceF a b 5 with ⟨w, s, e⟩
    rw [hr] at hT
    have k1 : v = true → s = false := fun hv1 => by
      cases s
      · rfl
      · obtain ⟨_, ⟨h1, h2⟩, _⟩ := hT.some rfl
        exact absurd (sim_yes ka kb hv hv1 h1) h2
    have k2 : v = true → decide (0 < (accF a W).length) = true → decide (0 < (accF b W).length) = true := fun hv1 h1 =>
      acc_iff.2 (sim_yes ka kb hv hv1 (acc_iff.1 h1))
    have k3 : e = 0 ∨ e = 1 := by
      cases s
      · exact (hT.none rfl).2
      · exact .inl (hT.some rfl).1
    have ca := con_acc a W ka (dealt_small hda) (by omega)
    have cb := con_acc b W kb (dealt_small hdb) (by omega)
    generalize decide (0 < (accF a W).length) = da at k2 ca
    generalize decide (0 < (accF b W).length) = db at k2 cb
    have fin : ∀ e, e = 0 ∨ e = 1 → ∀ s, (v = true → s = false) → ∀ wv : AV, wv = .nil ∨ (∃ w, wv = vs 0 w) → True := fun _ _ _ _ _ _ => trivial
    cases s
    all_goals
      rcases k3 with rfl | rfl
      all_goals
        cases v
        all_goals
          first
          | (have := k1 rfl; cases this; done)
          | skip
    all_goals simp only [outT, if_true, Bool.false_eq_true, if_false, go_sem]
    all_goals
      refine CallU.flat ca (by simp only [go_sem]) (by simp only [go_sem]) ?_
      rintro r bx rfl
      cases da
      all_goals simp only [go_sem]
    all_goals
      refine CallU.flat cb (by simp only [go_sem]) (by simp only [go_sem]) ?_
      rintro r bx rfl
      have := k2 rfl rfl
      subst this
      simp only [go_sem]

set_option maxRecDepth 100000 in
set_option maxHeartbeats 2000000 in
theorem con_tracesLaw (l : List Int) (wd : List Int) (hl : l.length ≤ 9223372036854775807) (hx : ∀ x ∈ l, 0 ≤ x ∧ x < 256) (hwl : wd.length ≤ 9223372036854775807) (hwx : ∀ x ∈ wd, 0 ≤ x ∧ x < 256) :
    Con Try.prog 4 [.sl 0 1 (l.map vu), .sl 0 1 (wd.map vu)] [] fun r _ => r = .sc (.bool true) := by
  have hs := seeds_take hx
  refine Con.intro Try.func4 rfl Try.ntmps4 Try.results4 (by kernel_rfl) (by simp) 0 (by simp) ?_
  simp only [go_sem]
  refine CallU.free con_sane (by simp only [go_sem]) (by simp only [go_sem]) ?_
  rintro r bx rfl
  simp only [go_sem]
  refine CallU.news (bx0 := []) (con_new l hl) (by simp only [go_sem]) (by simp only [go_sem]) (by simp only [go_sem]) (by simp only [go_sem]) (by simp only [go_sem]) ?_
  rintro r bx ⟨rfl, rfl⟩
  simp only [go_sem]
  refine CallU.boxes (i := 0) (is := []) (bx0 := [diceA (l.take 200) 0]) (con_system (l.take 200) 0 hs (by omega)) (by simp only [go_sem]) (by simp only [go_sem]) (by simp only [go_sem]) (by simp only [go_sem]) (by simp only [go_sem]) ?_
  rintro r bx ⟨a, at1, rfl, hda, ha1, rfl⟩
  simp only [go_sem]
  refine CallU.boxes (i := 0) (is := []) (bx0 := [diceA (l.take 200) at1]) (con_system (l.take 200) at1 hs ha1) (by simp only [go_sem]) (by simp only [go_sem]) (by simp only [go_sem]) (by simp only [go_sem]) (by simp only [go_sem]) ?_
  rintro r bx ⟨b, at2, rfl, hdb, ha2, rfl⟩
  simp only [go_sem]
  have ka := dealt_check hda
  have kb := dealt_check hdb
  refine CallU.freeze (con_trace a b 5 ka kb (by omega) (dealt_small hda) (dealt_small hdb)) (by simp only [go_sem]) (by simp only [go_sem]) ?_
  rintro r bx rfl
  have hT := trace_ok ka kb 5
  rcases hr : traceF a b 5 with ⟨w, s, e⟩
  rw [hr] at hT
  have hW := wordF_len wd wd.length
  have ca := con_acc a (wordF wd wd.length) ka (dealt_small hda) (by omega)
  have cb := con_acc b (wordF wd wd.length) kb (dealt_small hdb) (by omega)
  have hnone : s = false → e = 0 → decide (0 < (accF a (wordF wd wd.length)).length) = true → decide (0 < (accF b (wordF wd wd.length)).length) = true := fun h1 h2 h3 => by
    have := hT.all h1 h2 _ hW
    refine acc_iff.2 (Classical.byContradiction fun h => this ⟨acc_iff.1 h3, h⟩)
  have hshort : s = true → decide (0 < (accF a (wordF wd wd.length)).length) = true → decide (0 < (accF b (wordF wd wd.length)).length) = false → ((w.length : Int) ≤ (wordF wd wd.length).length) := fun h1 h2 h3 => by
    obtain ⟨_, _, _, h4⟩ := hT.some h1
    rcases Nat.lt_or_ge (wordF wd wd.length).length w.length with h | h
    · exact absurd ⟨acc_iff.1 h2, fun hb => by rw [acc_iff.2 hb] at h3; cases h3⟩ (h4 _ h)
    · omega
  have hloop : ∀ i, i < wd.length → (i : Int) < 5 → wordF wd (i + 1) = wordF wd i ++ [wd[i]! % 3] := fun i h h5 => by
    unfold wordF
    rw [show min (i + 1) 5 = i + 1 by omega, show min i 5 = i by omega, take_snoc h, List.map_append]; rfl
  have hloop2 : ∀ i : Nat, ¬ (i : Int) < 5 → wordF wd (i + 1) = wordF wd i := fun i h5 => by unfold wordF; rw [show min (i + 1) 5 = 5 by omega, show min i 5 = 5 by omega]
  have hlen0 : (wordF wd 0) = [] := by simp [wordF]
  cases s
  case false =>
    have h1 := hT.none rfl
    simp only at h1
    obtain ⟨rfl, h1⟩ := h1
    rcases h1 with rfl | rfl
    case inr => simp only [outT, if_true, Bool.false_eq_true, if_false, go_sem]
    simp only [outT, if_true, Bool.false_eq_true, if_false, go_sem]
    refine LoopK.intro (fun i : Nat => ⟨88, [(6, .pb 1 0), (7, .pb 2 0), (8, .nil), (9, vb false), (11, .sl 3136 1 ((wordF wd i).map vi)), (34, .sl 0 1 (wd.map vu)), (35, vi wd.length), (36, vi i)], [diceA (l.take 200) at2, [.sl 0 1 (a.map (vl 0))], [.sl 0 1 (b.map (vl 0))]]⟩)
      (fun i => wd.length - i) (fun i => i ≤ wd.length) 0 (by omega) ?_ ?_
    · simp only [go_sem, hlen0, List.map_nil]
    intro i hi
    by_cases h : i < wd.length
    · have g1 := getu h
      have hw : IntKind.i64.wrap (i + 1) = i + 1 := wrap_in (by omega) (by omega)
      have hb := hwx _ (mem_bang h)
      have hw2 : IntKind.i64.wrap wd[i]! = wd[i]! := wrap_in (by omega) (by omega)
      by_cases h5 : (i : Int) < 5
      · have ht : Int.tmod wd[i]! 3 = wd[i]! % 3 := Int.tmod_eq_emod_of_nonneg hb.1
        simp only [go_sem, h, g1, h5, hw2, ht, hw]
        have hwl5 := wordF_len wd i
        refine ⟨by simp only [roomFor]; omega, roundK.intro (i + 1) (by show i + 1 ≤ wd.length; omega) (by show wd.length - (i + 1) < wd.length - i; omega) ?_⟩
        simp only [go_sem, hloop i h h5, List.map_append, List.map_cons, List.map_nil]
      · simp only [go_sem, h, g1, h5, hw]
        refine roundK.intro (i + 1) (by show i + 1 ≤ wd.length; omega) (by show wd.length - (i + 1) < wd.length - i; omega) ?_
        simp only [go_sem, hloop2 i h5]
    · obtain rfl : i = wd.length := by omega
      have hn := hnone rfl rfl
      generalize decide (0 < (accF a (wordF wd wd.length)).length) = da at ca hn
      generalize decide (0 < (accF b (wordF wd wd.length)).length) = db at cb hn
      simp only [go_sem, h]
      refine CallU.flat ca (by simp only [go_sem]) (by simp only [go_sem]) ?_
      rintro r bx rfl
      cases da
      · simp only [go_sem]
      · simp only [go_sem]
        refine CallU.flat cb (by simp only [go_sem]) (by simp only [go_sem]) ?_
        rintro r bx rfl
        have := hn rfl
        subst this
        simp only [go_sem]
  case true =>
    obtain ⟨h0, ⟨h1, h2⟩, h3, h4⟩ := hT.some rfl
    simp only at h0 h1 h2 h3
    subst h0
    have cwa := con_acc a w ka (dealt_small hda) (by omega)
    have cwb := con_acc b w kb (dealt_small hdb) (by omega)
    rw [acc_iff.2 h1] at cwa
    have h2' : decide (0 < (accF b w).length) = false := by
      cases hc : decide (0 < (accF b w).length)
      · rfl
      · exact absurd (acc_iff.1 hc) h2
    rw [h2'] at cwb
    simp only [outT, if_true, go_sem]
    refine LoopK.intro (fun i : Nat => ⟨88, [(6, .pb 1 0), (7, .pb 2 0), (8, vs 0 w), (9, vb true), (11, .sl 3136 1 ((wordF wd i).map vi)), (34, .sl 0 1 (wd.map vu)), (35, vi wd.length), (36, vi i)], [diceA (l.take 200) at2, [.sl 0 1 (a.map (vl 0))], [.sl 0 1 (b.map (vl 0))]]⟩)
      (fun i => wd.length - i) (fun i => i ≤ wd.length) 0 (by omega) ?_ ?_
    · simp only [go_sem, hlen0, List.map_nil]
    intro i hi
    by_cases h : i < wd.length
    · have g1 := getu h
      have hw : IntKind.i64.wrap (i + 1) = i + 1 := wrap_in (by omega) (by omega)
      have hb := hwx _ (mem_bang h)
      have hw2 : IntKind.i64.wrap wd[i]! = wd[i]! := wrap_in (by omega) (by omega)
      by_cases h5 : (i : Int) < 5
      · have ht : Int.tmod wd[i]! 3 = wd[i]! % 3 := Int.tmod_eq_emod_of_nonneg hb.1
        simp only [go_sem, h, g1, h5, hw2, ht, hw]
        have hwl5 := wordF_len wd i
        refine ⟨by simp only [roomFor]; omega, roundK.intro (i + 1) (by show i + 1 ≤ wd.length; omega) (by show wd.length - (i + 1) < wd.length - i; omega) ?_⟩
        simp only [go_sem, hloop i h h5, List.map_append, List.map_cons, List.map_nil]
      · simp only [go_sem, h, g1, h5, hw]
        refine roundK.intro (i + 1) (by show i + 1 ≤ wd.length; omega) (by show wd.length - (i + 1) < wd.length - i; omega) ?_
        simp only [go_sem, hloop2 i h5]
    · obtain rfl : i = wd.length := by omega
      have hn := hshort rfl
      generalize decide (0 < (accF a (wordF wd wd.length)).length) = da at ca hn
      generalize decide (0 < (accF b (wordF wd wd.length)).length) = db at cb hn
      simp only [go_sem, h]
      refine CallU.flat ca (by simp only [go_sem]) (by simp only [go_sem]) ?_
      rintro r bx rfl
      cases da
      · simp only [go_sem]
        refine CallU.flat cwa (by simp only [go_sem]) (by simp only [go_sem]) ?_
        rintro r bx rfl
        simp only [go_sem]
        refine CallU.flat cwb (by simp only [go_sem]) (by simp only [go_sem]) ?_
        rintro r bx rfl
        simp only [go_sem]
      · simp only [go_sem]
        refine CallU.flat cb (by simp only [go_sem]) (by simp only [go_sem]) ?_
        rintro r bx rfl
        cases db
        all_goals
          simp only [go_sem]
          refine CallU.flat cwa (by simp only [go_sem]) (by simp only [go_sem]) ?_
          rintro r bx rfl
          simp only [go_sem]
          refine CallU.flat cwb (by simp only [go_sem]) (by simp only [go_sem]) ?_
          rintro r bx rfl
        · have hge := hn rfl rfl
          simp only [go_sem, hge]
        · simp only [go_sem]
end Go.AM

/-! ## SP -/
namespace Go.AM
open Go Go.Proofs Go.RowKit

/-- a system that the law speaks of -/
structure LenOk (x : Sys) : Prop where
  few : x.length ≤ 6
  rows : ∀ l ∈ x, l.length ≤ 8796093022208
theorem LenOk.r48 {x : Sys} (h : LenOk x) : ∀ l ∈ x, l.length ≤ 281474976710656 := fun l hl => Nat.le_trans (h.rows l hl) (by decide)
theorem LenOk.r0 {x : Sys} (h : LenOk x) : x.length ≤ 9223372036854775806 := by have := h.few; omega
theorem LenOk.dealt {x : Sys} (h : Dealt x) : LenOk x := ⟨h.2.1, fun l hl => by have := (h.2.2 l hl).1; omega⟩
theorem LenOk.all : LenOk [[(0, 0), (1, 0), (2, 0)]] := ⟨by decide, by decide⟩

theorem sum_mem {s : Sys} : ∀ l ∈ s, l.length ≤ (s.map List.length).sum := by
  induction s with
  | nil => intro l h; simp at h
  | cons a t ih =>
    intro l h
    simp only [List.map_cons, List.sum_cons]
    rcases List.mem_cons.1 h with rfl | h
    · omega
    · have := ih l h; omega
theorem check_rows {s : Sys} (h : checkS s = 0) : ∀ l ∈ s, l.length ≤ 1000000 := fun l hl => by
  have h1 := sum_mem l hl
  unfold checkS at h
  split at h
  · cases h
  · rename_i hn
    simp only [Bool.not_eq_true, Bool.or_eq_false_iff, decide_eq_false_iff_not] at hn
    omega
theorem both_zero {a b : Sys} (h : bothS a b = 0) : checkS a = 0 ∧ checkS b = 0 := by
  have hca : checkS a = 0 := by unfold bothS at h; split at h <;> assumption
  have hcb : checkS b = 0 := by unfold bothS at h; rw [if_pos hca] at h; exact h
  exact ⟨hca, hcb⟩

/-! ### words -/
def accV (x : Sys) (w : List Int) : Bool := if checkS x = 0 then decide (0 < (accF x w).length) else false
theorem con_accV (x : Sys) (w : List Int) (hx : LenOk x) (hw : w.length ≤ 1000000) : Con Try.prog 14 [vy 0 x, vs 0 w] [] fun r _ => r = .sc (.bool (accV x w)) := by
  unfold accV
  by_cases h : checkS x = 0
  · rw [if_pos h]; exact con_acc x w h (check_rows h) hw
  · rw [if_neg h]; exact con_acceptsE x w h hx.r48 hx.r0
theorem con_racc (x : Sys) (w : List Int) (hx : LenOk x) (hw : w.length ≤ 1000000) : Con Try.prog 25 [vy 0 x, vs 0 w] [] fun r _ => r = .sc (.bool (accV x w)) :=
  con_raccepts x w hx.r48 hx.r0 (by omega)

/-! ### relations -/
noncomputable def greatR (a b : Sys) : Rel := open Classical in if h : ∃ R, IsGreatest a b R then h.choose else []
noncomputable def greatV (a b : Sys) : Rel := if bothS a b = 0 then greatR a b else []
theorem greatR_eq {a b : Sys} {R : Rel} (h : IsGreatest a b R) (ha : checkS a = 0) (hb : checkS b = 0) : R = greatR a b := by
  have he : ∃ R, IsGreatest a b R := ⟨R, h⟩
  have e : greatR a b = he.choose := dif_pos he
  rw [e]
  exact great_one h he.choose_spec (checkS_inside ha) (checkS_inside hb)
theorem greatV_sized {a b : Sys} : (greatV a b).length ≤ a.length ∧ ∀ row ∈ greatV a b, row.length = b.length := by
  unfold greatV greatR
  split
  · split
    · rename_i h
      have := h.choose_spec.1
      exact ⟨by rw [this.1]; exact Nat.le_refl _, this.2⟩
    · exact ⟨Nat.zero_le _, fun _ h => by simp at h⟩
  · exact ⟨Nat.zero_le _, fun _ h => by simp at h⟩
section
variable {f : FuncId} (a b : Sys)
theorem great_weak (hz : bothS a b = 0 → Con Try.prog f [vy 0 a, vy 0 b] [] fun r _ => ∃ R, r = .tup [vtb 2 R, vi 0] ∧ IsGreatest a b R)
    (hn : bothS a b ≠ 0 → Con Try.prog f [vy 0 a, vy 0 b] [] fun r _ => r = .tup [.nil, vi (bothS a b)]) :
    Con Try.prog f [vy 0 a, vy 0 b] [] fun r _ => r = .tup [vr 0 (greatV a b), vi (bothS a b)] := by
  unfold greatV
  by_cases h : bothS a b = 0
  · rw [if_pos h, h]
    refine (Con.freezeR (fun _ => true) (hz h)).mono fun r bx ⟨r0, ⟨R, h1, hR⟩, h2⟩ => ?_
    subst h1
    rw [h2, ← greatR_eq hR (both_zero h).1 (both_zero h).2]
    simp only [go_sem, AV.freeze, vr]
  · rw [if_neg h]
    refine (hn h).weak fun r bx h1 => ⟨_, rfl, ?_⟩
    subst h1
    exact leV_tup ⟨leV_nil _ _, leV_refl _, trivial⟩
end
theorem con_gr (a b : Sys) (ha : LenOk a) (hb : LenOk b) : Con Try.prog 16 [vy 0 a, vy 0 b] [] fun r _ => r = .tup [vr 0 (greatV a b), vi (bothS a b)] :=
  great_weak a b (fun h => con_greatest a b h ha.r48 hb.r48 (by have := hb.few; omega)) fun h => con_greatestE a b h ha.r48 ha.r0 hb.r48 hb.r0
theorem con_rgr (a b : Sys) (ha : LenOk a) (hb : LenOk b) : Con Try.prog 26 [vy 0 a, vy 0 b] [] fun r _ => r = .tup [vr 0 (greatV a b), vi (bothS a b)] :=
  great_weak a b (fun h => con_rgreatest a b h ha.r48 hb.r48) fun h => con_rgreatestE a b h ha.r48 ha.r0 hb.r48 hb.r0

noncomputable def simE (a b : Sys) : Bool := if bothS a b = 0 then simV a b else false
section
variable {f : FuncId} (a b : Sys)
theorem sim_weak (hz : bothS a b = 0 → Con Try.prog f [vy 0 a, vy 0 b] [] fun r _ => ∃ v, r = .tup [.sc (.bool v), vi 0] ∧ Sim00 a b v)
    (hn : bothS a b ≠ 0 → Con Try.prog f [vy 0 a, vy 0 b] [] fun r _ => r = .tup [.sc (.bool false), vi (bothS a b)]) :
    Con Try.prog f [vy 0 a, vy 0 b] [] fun r _ => r = .tup [.sc (.bool (simE a b)), vi (bothS a b)] := by
  unfold simE
  by_cases h : bothS a b = 0
  · obtain ⟨hca, hcb⟩ := both_zero h
    rw [if_pos h, h]
    exact (hz h).mono fun r bx ⟨v, h1, h2⟩ => by rw [h1, h2.eq (checkS_ok hca).2.2 (checkS_ok hcb).2.2 (checkS_ok hca).1 (checkS_ok hcb).1]
  · rw [if_neg h]; exact hn h
end
theorem con_sim (a b : Sys) (ha : LenOk a) (hb : LenOk b) : Con Try.prog 12 [vy 0 a, vy 0 b] [] fun r _ => r = .tup [.sc (.bool (simE a b)), vi (bothS a b)] :=
  sim_weak a b (fun h => con_simulates a b h ha.r48 hb.r48 (by have := hb.few; omega)) fun h => con_simulatesE a b h ha.r48 ha.r0 hb.r48 hb.r0
theorem con_rsimF (a b : Sys) (ha : LenOk a) (hb : LenOk b) : Con Try.prog 28 [vy 0 a, vy 0 b] [] fun r _ => r = .tup [.sc (.bool (simE a b)), vi (bothS a b)] :=
  sim_weak a b (fun h => con_rsim a b h ha.r48 hb.r48) fun h => con_rsimE a b h ha.r48 ha.r0 hb.r48 hb.r0

noncomputable def holdE (a b : Sys) (r : Rel) : Int := open Classical in if bothS a b = 0 then (if h : ∃ e, HoldsW a b r e then h.choose else 0) else bothS a b
section
variable {f : FuncId} (a b : Sys) (r : Rel)
theorem hold_weak (hz : bothS a b = 0 → Con Try.prog f [vy 0 a, vy 0 b, vr 0 r] [] fun u _ => ∃ e, u = vi e ∧ HoldsW a b r e)
    (hn : bothS a b ≠ 0 → Con Try.prog f [vy 0 a, vy 0 b, vr 0 r] [] fun u _ => u = vi (bothS a b)) :
    Con Try.prog f [vy 0 a, vy 0 b, vr 0 r] [] fun u _ => u = vi (holdE a b r) := by
  unfold holdE
  by_cases h : bothS a b = 0
  · rw [if_pos h]
    exact (hz h).mono fun u bx ⟨e, h1, h2⟩ => by
      have he : ∃ e, HoldsW a b r e := ⟨e, h2⟩
      rw [h1, dif_pos he, h2.one he.choose_spec]
  · rw [if_neg h]; exact hn h
end
theorem con_hold (a b : Sys) (r : Rel) (ha : LenOk a) (hb : LenOk b) (hr : r.length ≤ 9223372036854775806) : Con Try.prog 17 [vy 0 a, vy 0 b, vr 0 r] [] fun u _ => u = vi (holdE a b r) :=
  hold_weak a b r (fun h => con_holdsW a b h ha.r48 ha.r0 hb.r48 hb.r0 r hr) fun h => con_holdsE a b h ha.r48 ha.r0 hb.r48 hb.r0 r
theorem con_rhold (a b : Sys) (r : Rel) (ha : LenOk a) (hb : LenOk b) (hr : r.length ≤ 9223372036854775806) : Con Try.prog 29 [vy 0 a, vy 0 b, vr 0 r] [] fun u _ => u = vi (holdE a b r) :=
  hold_weak a b r (fun h => con_rholds a b r h ha.r48 hb.r48 hr) fun h => con_rholdsE a b h ha.r48 ha.r0 hb.r48 hb.r0 r

/-! ### the search -/
def traceV (a b : Sys) (most : Int) : List Int × Bool × Int :=
  if bothS a b = 0 then if most < 0 ∨ 16 < most then ([], false, 2) else traceF a b most.toNat else ([], false, bothS a b)
def wordV (r : List Int × Bool × Int) : List Int := if r.2.1 = true then r.1 else []
section
variable {f : FuncId} (a b : Sys) (most : Int)
theorem trace_weak (hz : checkS a = 0 → checkS b = 0 → ∀ n : Nat, n ≤ 16 → Con Try.prog f [vy 0 a, vy 0 b, vi n] [] fun r _ => r = outT (traceF a b n))
    (hm : bothS a b = 0 → most < 0 ∨ 16 < most → Con Try.prog f [vy 0 a, vy 0 b, vi most] [] fun u _ => u = .tup [.nil, .sc (.bool false), vi 2])
    (hn : bothS a b ≠ 0 → Con Try.prog f [vy 0 a, vy 0 b, vi most] [] fun u _ => u = .tup [.nil, .sc (.bool false), vi (bothS a b)]) :
    Con Try.prog f [vy 0 a, vy 0 b, vi most] [] fun u _ => u = .tup [vs 0 (wordV (traceV a b most)), .sc (.bool (traceV a b most).2.1), vi (traceV a b most).2.2] := by
  have hw : ∀ (s : Bool) (e : Int), leV (.tup [.nil, .sc (.bool s), vi e]) (.tup [vs 0 [], .sc (.bool s), vi e]) := fun s e => leV_tup ⟨leV_nil _ _, leV_refl _, leV_refl _, trivial⟩
  unfold traceV
  by_cases h : bothS a b = 0
  · rw [if_pos h]
    by_cases h2 : most < 0 ∨ 16 < most
    · rw [if_pos h2]
      exact (hm h h2).weak fun r bx h1 => ⟨_, rfl, by subst h1; exact hw _ _⟩
    · rw [if_neg h2]
      obtain ⟨n, rfl⟩ := Int.eq_ofNat_of_zero_le (show 0 ≤ most by omega)
      refine (hz (both_zero h).1 (both_zero h).2 n (by omega)).weak fun r bx h1 => ⟨_, rfl, ?_⟩
      subst h1
      rw [show ((n : Nat) : Int).toNat = n by omega]
      rcases traceF a b n with ⟨w, s, e⟩
      cases s
      · exact hw false e
      · exact leV_refl _
  · rw [if_neg h]
    exact (hn h).weak fun r bx h1 => ⟨_, rfl, by subst h1; exact hw _ _⟩
end
theorem con_tr (a b : Sys) (most : Int) (ha : LenOk a) (hb : LenOk b) : Con Try.prog 13 [vy 0 a, vy 0 b, vi most] [] fun u _ => u = .tup [vs 0 (wordV (traceV a b most)), .sc (.bool (traceV a b most).2.1), vi (traceV a b most).2.2] :=
  trace_weak a b most (fun h1 h2 n hn => con_trace a b n h1 h2 hn (check_rows h1) (check_rows h2)) (fun h => con_traceM a b h ha.r48 ha.r0 hb.r48 hb.r0 most) fun h => con_traceE a b h ha.r48 ha.r0 hb.r48 hb.r0 most
theorem con_rtr (a b : Sys) (most : Int) (ha : LenOk a) (hb : LenOk b) : Con Try.prog 30 [vy 0 a, vy 0 b, vi most] [] fun u _ => u = .tup [vs 0 (wordV (traceV a b most)), .sc (.bool (traceV a b most).2.1), vi (traceV a b most).2.2] :=
  trace_weak a b most (fun h1 h2 n hn => con_rtrace a b n h1 h2 hn (check_rows h1) (check_rows h2)) (fun h => con_rtraceM a b h ha.r48 ha.r0 hb.r48 hb.r0 most) fun h => con_rtraceE a b h ha.r48 ha.r0 hb.r48 hb.r0 most
end Go.AM

/-! ## SQ -/
namespace Go.AM
open Go Go.Proofs Go.RowKit

theorem Sub.slE {t es : Nat} {xs ys : List AV} (hl : xs.length = ys.length) (hy : ∀ y ∈ ys, y.cells.length = es) (h : PW Sub (flat xs) (flat ys)) : Sub (.sl t es xs) (.sl t es ys) := fun S w v hv => by
  cases hv with
  | slNil _ _ a c h1 h2 h3 =>
    have : ys = [] := List.eq_nil_of_length_eq_zero (by simpa using hl.symm)
    subst this; exact .slNil t es a c h1 h2 h3
  | sl _ _ _ b off c vals h1 h2 h3 hc h4 h5 h0 h6 h7 =>
    rw [hl]
    refine .sl t es ys b off c vals h1 h2 (fun e => by rw [h3 e, hl]) (by omega) hy (by rw [← h.1]; exact h5) h0 h6 fun j y u hj hu => ?_
    have hjl : j < (flat xs).length := by rw [h.1]; exact (List.getElem?_eq_some_iff.1 hj).1
    exact h.2 j _ y (List.getElem?_eq_getElem hjl) hj S w u (h7 j _ u (List.getElem?_eq_getElem hjl) hu)
theorem leV_slE {t es : Nat} {xs ys : List AV} (hl : xs.length = ys.length) (hy : ∀ y ∈ ys, y.cells.length = es) (h : PW Sub (flat xs) (flat ys)) : leV (.sl t es xs) (.sl t es ys) := leV_sem fun G w v hv => by
  cases hv with
  | froz h' => exact .froz (Sub.slE hl hy h _ _ _ h')
  | own _ _ _ _ e vals h1 h2 h3 h4 h0 h5 =>
    refine .own t es ys v e vals h1 (by rw [← hl]; exact h2) h3 hy h0 ⟨by rw [← h.1]; exact h5.1, fun j y u hj hu => ?_⟩
    have hjl : j < (flat xs).length := by rw [h.1]; exact (List.getElem?_eq_some_iff.1 hj).1
    exact h.2 j _ y (List.getElem?_eq_getElem hjl) hj _ _ u (h5.2 j _ u (List.getElem?_eq_getElem hjl) hu)

/-- configurations that are numbers -/
def cvs (n : Nat) : List CV := (List.range n).map fun (i : Nat) => CV.mk (i : Int) []
theorem sub_cfg (n : Nat) : Sub (.sl 0 2 ((List.range n).map cfg)) (.sl 0 2 ((cvs n).map vV)) := by
  have key : ∀ l : List Nat, PW Sub (flat (l.map cfg)) (flat ((l.map fun (i : Nat) => CV.mk (i : Int) []).map vV)) := by
    intro l
    induction l with
    | nil => exact .nil _
    | cons i l ih => exact .cons (.refl _) (.cons (.nil 2) ih)
  refine Sub.slE (by simp [cvs]) (fun y hy => ?_) (key _)
  obtain ⟨x, _, rfl⟩ := List.mem_map.1 hy
  rw [vV_eq]; rfl
theorem cvs_ok (n : Nat) : ∀ x ∈ cvs n, x.Ok := fun x hx => by
  obtain ⟨i, _, rfl⟩ := List.mem_map.1 hx
  exact .mk _ _ (by decide) fun y hy => by simp at hy

def vGp (g : List CV × Sys) : AV := vG g.1 g.2
theorem getG {l : List (List CV × Sys)} {i : Nat} (h : i < l.length) : (l.map vGp)[i]? = some (.ag [.sl 0 2 (l[i]!.1.map vV), .sl 0 1 (l[i]!.2.map (vl 0))]) := by
  rw [List.getElem?_map, List.getElem?_eq_getElem h, getElem!_pos l i h]; rfl
theorem getX {l : List Sys} {i : Nat} (h : i < l.length) : (l.map (vy 0))[i]? = some (.ag [.sl 0 1 (l[i]!.map (vl 0))]) := by
  rw [List.getElem?_map, List.getElem?_eq_getElem h, getElem!_pos l i h]; rfl
theorem getvrs {l : List Rel} {i : Nat} (h : i < l.length) : (l.map (vr 0))[i]? = some (.sl 0 1 (l[i]!.map (vbl 0))) := by
  rw [List.getElem?_map, List.getElem?_eq_getElem h, getElem!_pos l i h]; rfl
theorem getW {l : List (List Int)} {i : Nat} (h : i < l.length) : (l.map (vs 0))[i]? = some (.sl 0 1 (l[i]!.map vi)) := by
  rw [List.getElem?_map, List.getElem?_eq_getElem h, getElem!_pos l i h]; rfl

theorem wordV_len (a b : Sys) (most : Int) : (wordV (traceV a b most)).length ≤ 16 := by
  unfold wordV
  split
  · rename_i h
    unfold traceV at *
    by_cases hb : bothS a b = 0
    · rw [if_pos hb] at *
      by_cases hm : most < 0 ∨ 16 < most
      · rw [if_pos hm] at *; simp
      · rw [if_neg hm] at *
        have := ((trace_ok (both_zero hb).1 (both_zero hb).2 most.toNat).some h).2.2.1
        omega
    · rw [if_neg hb] at *; simp
  · simp
theorem share3 {body : (Exit → St → Prop) → St → Prop} {Q : Exit → St → Prop} {T : St → Prop} {A : Prop} (h : (∀ τ, T τ → LoopK body Q τ) → A) (key : ∀ τ, T τ → LoopK body Q τ) : A := h key
def stepsTree : Tr := .front 1 (.front 5 (.alt (.one 0 (.one 2 (.one 3 (.one 4 .done)))) (.one 2 (.one 0 (.one 3 (.one 4 .done))))))

set_option maxRecDepth 100000 in
set_option maxHeartbeats 8000000 in
theorem con_stepsLaw (l : List Int) (raw : Sys) (cs : List CV) (arcs : Sys) (r : Rel) (most : Int) (word : List Int)
    (hl : l.length ≤ 9223372036854775807) (hx : ∀ x ∈ l, 0 ≤ x ∧ x < 256) (hraw : ∀ x ∈ raw, x.length ≤ 8796093022208) (hco : ∀ x ∈ cs, x.Ok) (harr : ∀ x ∈ arcs, x.length ≤ 8796093022208) :
    Con Try.prog 8 [.sl 0 1 (l.map vu), vy 0 raw, vG cs arcs, vr 0 r, vi most, vs 0 word] [] fun u _ => u = .sc (.bool true) := by
  have hs := seeds_take hx
  refine Con.intro Try.func8 rfl Try.ntmps8 Try.results8 (by kernel_rfl) (by simp) 0 (by simp) ?_
  simp only [go_sem]
  refine CallU.free con_sane (by simp only [go_sem]) (by simp only [go_sem]) ?_
  rintro u bx rfl
  by_cases h1 : (6 : Int) < raw.length
  · simp only [go_sem, h1]
  by_cases h2 : (5 : Int) < cs.length
  · simp only [go_sem, h1, h2]
  by_cases h3 : (6 : Int) < arcs.length
  · simp only [go_sem, h1, h2, h3]
  by_cases h4 : (7 : Int) < r.length
  · simp only [go_sem, h1, h2, h3, h4]
  by_cases h5 : (8 : Int) < word.length
  · simp only [go_sem, h1, h2, h3, h4, h5]
  simp only [go_sem, h1, h2, h3, h4, h5]
  refine CallU.news (bx0 := []) (con_new l hl) (by simp only [go_sem]) (by simp only [go_sem]) (by simp only [go_sem]) (by simp only [go_sem]) (by simp only [go_sem]) ?_
  rintro u bx ⟨rfl, rfl⟩
  simp only [go_sem]
  refine CallU.boxes (i := 2) (is := []) (bx0 := [diceA (l.take 200) 0]) (con_system (l.take 200) 0 hs (by omega)) (by simp only [go_sem]) (by simp only [go_sem]) (by simp only [go_sem]) (by simp only [go_sem]) (by simp only [go_sem]) ?_
  rintro u bx ⟨a, at1, rfl, hda, ha1, rfl⟩
  simp only [go_sem]
  refine CallU.boxes (i := 2) (is := []) (bx0 := [diceA (l.take 200) at1]) (con_system (l.take 200) at1 hs ha1) (by simp only [go_sem]) (by simp only [go_sem]) (by simp only [go_sem]) (by simp only [go_sem]) (by simp only [go_sem]) ?_
  rintro u bx ⟨b, at2, rfl, hdb, ha2, rfl⟩
  simp only [go_sem]
  refine DrawK.tree stepsTree mixed (by kernel_rfl) ?_
  unfold stepsTree
  apply share3 (T := fun τ => ∃ (s : Sys) (at3 : Nat), Dealt s ∧ at3 ≤ (l.take 200).length ∧ (τ.map (freezeLeaf fun _ => true)).le ⟨327, [(3, vr 0 r), (4, vi most), (5, vs 0 word), (7, .pb 0 0), (13, .pb 2 0), (14, .pb 3 0), (15, .pb 4 0), (87, .sl 0 2 ([(cs, arcs), (cvs s.length, s)].map vGp)), (88, vi 2), (89, vi 0)],
    [.sl 0 1 (raw.map (vl 0))] :: [.sl 0 2 (cs.map vV), .sl 0 1 (arcs.map (vl 0))] :: diceA (l.take 200) at3 :: [.sl 0 1 (a.map (vl 0))] :: [.sl 0 1 (b.map (vl 0))] :: Jk []⟩)
  · intro key
    have hle : ∀ (t : Nat) (s : Sys), leV (.sl t 2 [.ag [.sl 0 2 (cs.map vV), .sl 0 1 (arcs.map (vl 0))], .ag [.sl 0 2 ((List.range s.length).map cfg), .sl 0 1 (s.map (vl 0))]]) (.sl t 2 ([(cs, arcs), (cvs s.length, s)].map vGp)) := fun t s =>
      leV_slE rfl (fun y hy => by obtain ⟨g, _, rfl⟩ := List.mem_map.1 hy; rfl) (.cons (.refl _) (.cons (.refl _) (.cons (sub_cfg _) (.cons (.refl _) (.nil _)))))
    simp only [go_sem]
    refine ⟨?_, ?_⟩
    · refine CallU.boxes (i := 2) (is := []) (bx0 := [diceA (l.take 200) at2]) (con_graph (l.take 200) at2 hs ha2) (by simp only [go_sem]) (by simp only [go_sem]) (by simp only [go_sem]) (by simp only [go_sem]) (by simp only [go_sem]) ?_
      rintro u bx ⟨s, at3, rfl, e1, e2, e3, e4, rfl⟩
      simp only [go_sem]
      refine key _ ⟨s, at3, ⟨e1, e2, e3⟩, e4, ?_⟩
      simp only [go_sem]
      exact ⟨hle 0 s, leB_self []⟩
    · simp only [go_sem]
      refine CallU.boxes (i := 2) (is := []) (bx0 := [diceA (l.take 200) at2]) (con_graph (l.take 200) at2 hs ha2) (by simp only [go_sem]) (by simp only [go_sem]) (by simp only [go_sem]) (by simp only [go_sem]) (by simp only [go_sem]) ?_
      rintro u bx ⟨s, at3, rfl, e1, e2, e3, e4, rfl⟩
      simp only [go_sem]
      refine key _ ⟨s, at3, ⟨e1, e2, e3⟩, e4, ?_⟩
      simp only [go_sem]
      exact ⟨hle 0 s, leB_self []⟩
  · rintro τ ⟨s, at3, hds, ha3, hle⟩
    obtain ⟨Gs, hGs⟩ : ∃ Gs, Gs = [(cs, arcs), (cvs s.length, s)] := ⟨_, rfl⟩
    have hGl : Gs.length = 2 := by rw [hGs]; rfl
    have hG : ∀ g ∈ Gs, g.1.length ≤ 9223372036854775807 ∧ (∀ x ∈ g.1, x.Ok) ∧ g.2.length ≤ 6 ∧ ∀ x ∈ g.2, x.length ≤ 8796093022208 := fun g hg => by
      rw [hGs] at hg
      rcases List.mem_cons.1 hg with rfl | hg
      · exact ⟨by show cs.length ≤ _; omega, hco, by show arcs.length ≤ _; omega, harr⟩
      · rw [List.mem_singleton] at hg; subst hg
        have := hds.2.1
        exact ⟨by show (cvs s.length).length ≤ _; unfold cvs; simp; omega, cvs_ok _, this, fun x hx => by have := (hds.2.2 x hx).1; omega⟩
    rw [← hGs] at hle
    refine LoopK.freeze (fun _ => true) (fun p : Nat × List Nat => ⟨327, [(3, vr 0 r), (4, vi most), (5, vs 0 word), (7, .pb 0 0), (13, .pb 2 0), (14, .pb 3 0), (15, .pb 4 0), (87, .sl 0 2 (Gs.map vGp)), (88, vi 2), (89, vi p.1)],
      [.sl 0 1 (raw.map (vl 0))] :: [.sl 0 2 (cs.map vV), .sl 0 1 (arcs.map (vl 0))] :: diceA (l.take 200) at3 :: [.sl 0 1 (a.map (vl 0))] :: [.sl 0 1 (b.map (vl 0))] :: Jk p.2⟩)
      (fun p => 2 - p.1) (fun p => p.1 ≤ 2) (0, []) (by omega) hle ?_
    rintro ⟨i, ks⟩ hi
    simp only at hi
    have hB := Jk_len ks
    by_cases h : i < 2
    · have hiI : (i : Int) < 2 := by omega
      have hiG : i < Gs.length := by omega
      have hw1 : IntKind.i64.wrap (i + 1) = i + 1 := wrap_in (by omega) (by omega)
      have gg := getG hiG
      have n0 := fun L : List (List AV) => app_at0 (L := L) hB
      have n1 := fun L : List (List AV) => app_at1 (L := L) hB
      have n2 := fun L : List (List AV) => show (Jk ks ++ L)[ks.length + 1 + 1]? = L[2]? from app_at (L := L) (i := 2) hB
      have s0 := fun (L : List (List AV)) z => app_set0 (L := L) (z := z) hB
      have s1 := fun (L : List (List AV)) z => app_set1 (L := L) (z := z) hB
      have s2 := fun (L : List (List AV)) z => show (Jk ks ++ L).set (ks.length + 1 + 1) z = Jk ks ++ L.set 2 z from app_setN (L := L) (i := 2) (z := z) hB
      obtain ⟨k1, k2, k3, k4⟩ := hG _ (mem_bang hiG)
      generalize Gs[i]! = g at gg k1 k2 k3 k4
      obtain ⟨gc, ga⟩ := g
      simp only at gg k1 k2 k3 k4
      simp only [go_sem, hiI, hiG, gg, hB, n0, s0, List.length_cons, List.length_nil]
      refine CallU.free (con_of gc ga k1 k2 k4) (by simp only [go_sem]) (by simp only [go_sem]) ?_
      rintro u bx rfl
      simp only [go_sem, hB, n0, n1, s1, List.append_assoc, List.length_append, List.length_cons, List.length_nil]
      refine CallU.free (con_rof gc ga k1 k2 k4) (by simp only [go_sem]) (by simp only [go_sem]) ?_
      rintro u bx rfl
      have q0 : (ofS gc ga).length ≤ 6 := by unfold ofS; split; exact k3; exact Nat.zero_le _
      have q1 : ∀ l ∈ ofS gc ga, l.length ≤ 9223372036854775806 := fun l hl => by
        unfold ofS at hl
        split at hl
        · have := k4 l hl; omega
        · simp at hl
      have q2 : (ofE gc ga != ofE gc ga) = false := by simp
      have q3 : decide (ofS gc ga = ofS gc ga) = true := by simp
      simp only [go_sem, hB, n1, n2, s2, List.append_assoc, List.length_append, List.length_cons, List.length_nil, q2]
      refine CallU.free (con_samesys (ofS gc ga) (ofS gc ga) (by omega) q1) (by simp only [go_sem]) (by simp only [go_sem]) ?_
      rintro u bx rfl
      simp only [go_sem, hw1]
      refine roundK.freeze (fun _ => true) (i + 1, ks ++ [2, 1, 1]) (by show i + 1 ≤ 2; omega) (by show 2 - (i + 1) < 2 - i; omega) ?_
      simp only [go_sem]
      exact leB_JkA ⟨⟨leV_any _, leV_any _, trivial⟩, ⟨leV_any _, trivial⟩, ⟨leV_any _, trivial⟩, trivial⟩
    have hie : i = 2 := by omega
    subst hie
    simp only [go_sem]
    refine DrawK.walk 6 mixed (by kernel_rfl) ?_
    simp only [go_sem]
    refine CallY.mk con_allF (by simp only [go_sem]) (by simp only [go_sem]) (.inl (by simp only [go_sem])) ?_
    simp only [go_sem]
    clear hG hGl hGs hle
    obtain ⟨Xs, hXs⟩ : ∃ Xs, Xs = [a, raw, allS] := ⟨_, rfl⟩
    have hXl : Xs.length = 3 := by rw [hXs]; rfl
    have okr : LenOk raw := ⟨by omega, hraw⟩
    have hXk : ∀ x ∈ Xs, LenOk x := fun x hx => by
      rw [hXs] at hx
      simp only [List.mem_cons, List.not_mem_nil, or_false] at hx
      rcases hx with rfl | rfl | rfl
      · exact .dealt hda
      · exact okr
      · exact .all
    have hle : leV (.sl 0 1 [.ag [.sl 0 1 (a.map (vl 0))], .ag [.sl 0 1 (raw.map (vl 0))], .ag [.sl 0 1 (allS.map (vl 0))]]) (.sl 0 1 (Xs.map (vy 0))) := leV_eq (by rw [hXs]; rfl)
    refine LoopK.freeze (fun _ => true) (fun p : Nat × List Nat × Nat => ⟨327, [(3, vr 0 r), (4, vi most), (5, vs 0 word), (7, .pb 0 0), (13, .pb 2 0), (15, .pb 4 0), (116, .sl 0 1 (Xs.map (vy 0))), (117, vi 3), (118, vi p.1)],
      [.sl 0 1 (raw.map (vl 0))] :: [.sl 0 2 (cs.map vV), .sl 0 1 (arcs.map (vl 0))] :: diceA (l.take 200) p.2.2 :: [.sl 0 1 (a.map (vl 0))] :: [.sl 0 1 (b.map (vl 0))] :: Jk p.2.1⟩)
      (fun p => 3 - p.1) (fun p => p.1 ≤ 3 ∧ p.2.2 ≤ (l.take 200).length) (0, ks, at3) ⟨by omega, ha3⟩ ?_ ?_
    · simp only [go_sem]
      exact hle
    clear hle ha3 hB hi h hXs
    rintro ⟨i, ks, at3⟩ ⟨hi, ha3⟩
    simp only at hi ha3
    by_cases h : i < 3
    case neg =>
      have hie : i = 3 := by omega
      subst hie
      simp only [go_sem]
    have hiI : (i : Int) < 3 := by omega
    have hiX : i < Xs.length := by omega
    have hw1 : IntKind.i64.wrap (i + 1) = i + 1 := wrap_in (by omega) (by omega)
    have gg := getX hiX
    have okx := hXk _ (mem_bang hiX)
    have hB := Jk_len ks
    have n0 := fun L : List (List AV) => app_at0 (L := L) hB
    have s0 := fun (L : List (List AV)) z => app_set0 (L := L) (z := z) hB
    generalize Xs[i]! = x at gg okx
    simp only [go_sem, hiI, hiX, gg, hB, n0, s0]
    refine DrawK.walk 5 mixed (by kernel_rfl) ?_
    simp only [go_sem, n0]
    refine CallY.mk (con_check x okx.r48 okx.r0) (by simp only [go_sem]) (by simp only [go_sem]) (.inl (by simp only [go_sem])) ?_
    simp only [go_sem, n0]
    refine CallY.mk (con_rcheck x okx.r48 okx.r0) (by simp only [go_sem]) (by simp only [go_sem]) (.inl (by simp only [go_sem])) ?_
    simp only [go_sem, bne_self_eq_false]
    refine CallU.boxes (i := 2) (is := []) (bx0 := [diceA (l.take 200) at3]) (con_pick (l.take 200) at3 3 hs ha3 (by omega)) (by simp only [go_sem]) (by simp only [go_sem]) (by simp only [go_sem]) (by simp only [go_sem]) (by simp only [go_sem]) ?_
    rintro u bx ⟨p1, at4, rfl, -, -, ha4, rfl⟩
    simp only [go_sem]
    refine CallU.boxes (i := 2) (is := []) (bx0 := [diceA (l.take 200) at4]) (con_pick (l.take 200) at4 3 hs ha4 (by omega)) (by simp only [go_sem]) (by simp only [go_sem]) (by simp only [go_sem]) (by simp only [go_sem]) (by simp only [go_sem]) ?_
    rintro u bx ⟨p2, at5, rfl, -, -, ha5, rfl⟩
    simp only [go_sem]
    obtain ⟨Ws, hWs⟩ : ∃ Ws, Ws = [word, [0], [p1, p2], []] := ⟨_, rfl⟩
    have hWl : Ws.length = 4 := by rw [hWs]; rfl
    have hWk : ∀ w ∈ Ws, w.length ≤ 1000000 := fun w hw => by
      rw [hWs] at hw
      simp only [List.mem_cons, List.not_mem_nil, or_false] at hw
      rcases hw with rfl | rfl | rfl | rfl
      · omega
      · simp
      · simp
      · simp
    refine LoopK.freeze (fun _ => true) (fun j : Nat => ⟨327, [(3, vr 0 r), (4, vi most), (5, vs 0 word), (7, .pb 0 0), (13, .pb 2 0), (15, .pb 4 0), (116, .sl 0 1 (Xs.map (vy 0))), (117, vi 3), (118, vi i), (23, .pb (ks.length + 1 + 1 + 1 + 1 + 1) 0), (134, .sl 0 1 (Ws.map (vs 0))), (135, vi 4), (136, vi j)],
      [.sl 0 1 (raw.map (vl 0))] :: [.sl 0 2 (cs.map vV), .sl 0 1 (arcs.map (vl 0))] :: diceA (l.take 200) at5 :: [.sl 0 1 (a.map (vl 0))] :: [.sl 0 1 (b.map (vl 0))] :: (Jk ks ++ [[.sl 0 1 (x.map (vl 0))]])⟩)
      (fun j => 4 - j) (fun j => j ≤ 4) 0 (by omega) ?_ ?_
    · simp only [go_sem]
      rw [hWs]
      exact leV_slE rfl (fun y hy => by obtain ⟨w, _, rfl⟩ := List.mem_map.1 hy; rfl) (.cons (.refl _) (.cons (.refl _) (.cons (.refl _) (.cons (.nil 1) (.nil _)))))
    intro j hj
    by_cases h2 : j < 4
    · have hjI : (j : Int) < 4 := by omega
      have hjW : j < Ws.length := by omega
      have hw2 : IntKind.i64.wrap (j + 1) = j + 1 := wrap_in (by omega) (by omega)
      have gw := getW hjW
      have wl := hWk _ (mem_bang hjW)
      generalize Ws[j]! = w at gw wl
      simp only [go_sem, hjI, hjW, gw]
      refine DrawK.walk 7 mixed (by kernel_rfl) ?_
      simp only [go_sem, n0]
      refine CallY.mk (con_accV x w okx wl) (by simp only [go_sem]) (by simp only [go_sem]) (.inl (by simp only [go_sem])) ?_
      simp only [go_sem, n0]
      refine CallY.mk (con_racc x w okx wl) (by simp only [go_sem]) (by simp only [go_sem]) (.inl (by simp only [go_sem])) ?_
      simp only [go_sem, hw2]
      refine roundK.freeze (fun _ => true) (j + 1) (by show j + 1 ≤ 4; omega) (by show 4 - (j + 1) < 4 - j; omega) ?_
      simp only [go_sem]
    have hje : j = 4 := by omega
    subst hje
    simp only [go_sem]
    refine DrawK.walk 6 mixed (by kernel_rfl) ?_
    simp only [go_sem]
    refine CallY.mk con_allF (by simp only [go_sem]) (by simp only [go_sem]) (.inl (by simp only [go_sem])) ?_
    simp only [go_sem]
    clear hWs hWl hWk hj ha4 ha3
    obtain ⟨Ys, hYs⟩ : ∃ Ys, Ys = [b, raw, allS] := ⟨_, rfl⟩
    have hYl : Ys.length = 3 := by rw [hYs]; rfl
    have hYk : ∀ x ∈ Ys, LenOk x := fun x hx => by
      rw [hYs] at hx
      simp only [List.mem_cons, List.not_mem_nil, or_false] at hx
      rcases hx with rfl | rfl | rfl
      · exact .dealt hdb
      · exact okr
      · exact .all
    have hle : leV (.sl 0 1 [.ag [.sl 0 1 (b.map (vl 0))], .ag [.sl 0 1 (raw.map (vl 0))], .ag [.sl 0 1 (allS.map (vl 0))]]) (.sl 0 1 (Ys.map (vy 0))) := leV_eq (by rw [hYs]; rfl)
    refine LoopK.freeze (fun _ => true) (fun p : Nat × List Nat × Nat => ⟨327, [(3, vr 0 r), (4, vi most), (5, vs 0 word), (7, .pb 0 0), (13, .pb 2 0), (15, .pb 4 0), (116, .sl 0 1 (Xs.map (vy 0))), (117, vi 3), (118, vi i), (23, .pb (ks.length + 1 + 1 + 1 + 1 + 1) 0), (151, .sl 0 1 (Ys.map (vy 0))), (152, vi 3), (153, vi p.1)],
      [.sl 0 1 (raw.map (vl 0))] :: [.sl 0 2 (cs.map vV), .sl 0 1 (arcs.map (vl 0))] :: diceA (l.take 200) p.2.2 :: [.sl 0 1 (a.map (vl 0))] :: [.sl 0 1 (b.map (vl 0))] :: (Jk ks ++ ([.sl 0 1 (x.map (vl 0))] :: Jk p.2.1))⟩)
      (fun p => 3 - p.1) (fun p => p.1 ≤ 3 ∧ p.2.2 ≤ (l.take 200).length) (0, [], at5) ⟨by omega, ha5⟩ ?_ ?_
    · simp only [go_sem]
      exact ⟨hle, leB_app (leB_self _) (leB_self _)⟩
    clear hle hYs ha5
    rintro ⟨j, ds, at6⟩ ⟨hj, ha6⟩
    simp only at hj ha6
    have hD := Jk_len ds
    by_cases h2 : j < 3
    case neg =>
      have hje : j = 3 := by omega
      subst hje
      simp only [go_sem, hw1]
      refine roundK.freeze (fun _ => true) (i + 1, ks ++ (1 :: ds), at6) ⟨by show i + 1 ≤ 3; omega, ha6⟩ (by show 3 - (i + 1) < 3 - i; omega) ?_
      simp only [go_sem]
      exact leB_JkA ⟨⟨leV_any _, trivial⟩, leB_self _⟩
    have hjI : (j : Int) < 3 := by omega
    have hjY : j < Ys.length := by omega
    have hw2 : IntKind.i64.wrap (j + 1) = j + 1 := wrap_in (by omega) (by omega)
    have gy := getX hjY
    have oky := hYk _ (mem_bang hjY)
    generalize Ys[j]! = y at gy oky
    have m0 := fun L : List (List AV) => app_at0 (L := L) hD
    have t0 := fun (L : List (List AV)) z => app_set0 (L := L) (z := z) hD
    have n1 := fun (L : List (List AV)) (i : Nat) => app_at (L := L) (i := i) hB
    have s1 := fun (L : List (List AV)) (i : Nat) z => app_setN (L := L) (i := i) (z := z) hB
    simp only [go_sem, hjI, hjY, gy, hB, hD, n0, n1, s1, m0, t0, List.append_assoc, List.cons_append, List.length_append, List.length_cons]
    refine CallU.free (con_gr x y okx oky) (by simp only [go_sem]) (by simp only [go_sem]) ?_
    rintro u bx rfl
    simp only [go_sem, n0, n1, m0]
    refine CallU.free (con_rgr x y okx oky) (by simp only [go_sem]) (by simp only [go_sem]) ?_
    rintro u bx rfl
    have gs := greatV_sized (a := x) (b := y)
    generalize greatV x y = G at gs
    have hGl : G.length ≤ 6 := by have := okx.few; omega
    have hGr : ∀ row ∈ G, row.length ≤ 6 := fun row hr => by rw [gs.2 row hr]; exact oky.few
    have hGG : decide (G = G) = true := by simp
    simp only [go_sem, bne_self_eq_false]
    refine CallU.free (con_samerel G G (by omega) fun row hr => by have := hGr row hr; omega) (by simp only [go_sem]) (by simp only [go_sem]) ?_
    rintro u bx rfl
    simp only [go_sem, n0, n1, m0]
    refine CallU.free (con_sim x y okx oky) (by simp only [go_sem]) (by simp only [go_sem]) ?_
    rintro u bx rfl
    simp only [go_sem, n0, n1, m0]
    refine CallU.free (con_rsimF x y okx oky) (by simp only [go_sem]) (by simp only [go_sem]) ?_
    rintro u bx rfl
    have hbb : (simE x y != simE x y) = false := by simp
    apply share3 (T := fun τ => ∃ (Zs : List Rel) (at7 : Nat), Zs.length = 3 ∧ (∀ z ∈ Zs, z.length ≤ 7) ∧ at7 ≤ (l.take 200).length ∧ (τ.map (freezeLeaf fun _ => true)).le ⟨327, [(3, vr 0 r), (4, vi most), (5, vs 0 word), (7, .pb 0 0), (13, .pb 2 0), (15, .pb 4 0), (116, .sl 0 1 (Xs.map (vy 0))), (117, vi 3), (118, vi i), (23, .pb (ks.length + 1 + 1 + 1 + 1 + 1) 0), (151, .sl 0 1 (Ys.map (vy 0))), (152, vi 3), (153, vi j), (27, .pb (ks.length + (ds.length + 1) + 1 + 1 + 1 + 1 + 1) 0), (249, .sl 0 1 (Zs.map (vr 0))), (250, vi 3), (251, vi 0)], [.sl 0 1 (raw.map (vl 0))] :: [.sl 0 2 (cs.map vV), .sl 0 1 (arcs.map (vl 0))] :: diceA (l.take 200) at7 :: [.sl 0 1 (a.map (vl 0))] :: [.sl 0 1 (b.map (vl 0))] :: (Jk ks ++ ([.sl 0 1 (x.map (vl 0))] :: (Jk ds ++ [[.sl 0 1 (y.map (vl 0))]])))⟩)
    · intro key
      have hrl : r.length ≤ 7 := by omega
      by_cases hq : 0 < G.length
      case neg =>
        simp only [go_sem, bne_self_eq_false, hq]
        refine key _ ⟨[G, r, r], at6, rfl, fun z hz => ?_, ha6, ?_⟩
        · simp only [List.mem_cons, List.not_mem_nil, or_false] at hz
          rcases hz with rfl | rfl | rfl <;> omega
        · simp only [go_sem]
      simp only [go_sem, bne_self_eq_false, hq]
      refine LoopK.intro (fun k : Nat => ⟨327, [(3, vr 0 r), (4, vi most), (5, vs 0 word), (7, .pb 0 0), (13, .pb 2 0), (15, .pb 4 0), (116, .sl 0 1 (Xs.map (vy 0))), (117, vi 3), (118, vi i), (23, .pb (ks.length + 1 + 1 + 1 + 1 + 1) 0), (151, .sl 0 1 (Ys.map (vy 0))), (152, vi 3), (153, vi j), (27, .pb (ks.length + (ds.length + 1) + 1 + 1 + 1 + 1 + 1) 0), (30, vr 0 G), (34, .so 3 (rowsB 3 (G.take k))), (202, vr 0 G), (203, vi G.length), (204, vi k)], [.sl 0 1 (raw.map (vl 0))] :: [.sl 0 2 (cs.map vV), .sl 0 1 (arcs.map (vl 0))] :: diceA (l.take 200) at6 :: [.sl 0 1 (a.map (vl 0))] :: [.sl 0 1 (b.map (vl 0))] :: (Jk ks ++ ([.sl 0 1 (x.map (vl 0))] :: (Jk ds ++ [[.sl 0 1 (y.map (vl 0))]])))⟩)
        (fun k => G.length - k) (fun k => k ≤ G.length) 0 (by omega) ?_ ?_
      · simp only [go_sem, List.take_zero]
      intro k hk
      by_cases hk2 : k < G.length
      · have gk := getvr hk2
        have hwk : IntKind.i64.wrap (k + 1) = k + 1 := wrap_in (by omega) (by omega)
        have e1 := take_snoc hk2
        have hti : (G.take k).length = k := by rw [List.length_take]; omega
        have hrk := hGr _ (mem_bang hk2)
        simp only [go_sem, hk2, gk, hwk]
        refine ⟨by simp only [roomFor]; omega, by simp only [roomFor, hti]; omega, roundK.intro (k + 1) (by show k + 1 ≤ G.length; omega) (by show G.length - (k + 1) < G.length - k; omega) ?_⟩
        simp only [go_sem, e1]
      have hkl : k = G.length := by omega
      subst hkl
      have hN : (1 : Int) ≤ G.length := by omega
      simp only [go_sem, List.take_length, Int.lt_irrefl]
      refine CallU.boxes (i := 2) (is := []) (bx0 := [diceA (l.take 200) at6]) (con_pick (l.take 200) at6 G.length hs ha6 hN) (by simp only [go_sem]) (by simp only [go_sem]) (by simp only [go_sem]) (by simp only [go_sem]) (by simp only [go_sem]) ?_
      rintro u bx ⟨v, at7, rfl, v0, v1, ha7, rfl⟩
      obtain ⟨X, rfl, hX⟩ : ∃ X : Nat, v = X ∧ X < G.length := ⟨v.toNat, by omega, by omega⟩
      have gX := gettb (t := 3) hX
      have hfz : ∀ M : Rel, (rowsB 3 M).map (freezeRow fun u => u == 3) = M.map (vbl 0) := fun M => rowsB_freeze rfl
      by_cases hrow : 0 < G[X]!.length
      case neg =>
        simp only [go_sem, hX, gX, hrow]
        refine key _ ⟨[G, r, G], at7, rfl, fun z hz => ?_, ha7, ?_⟩
        · simp only [List.mem_cons, List.not_mem_nil, or_false] at hz
          rcases hz with rfl | rfl | rfl <;> omega
        · simp only [go_sem, hfz]
      have hM : (1 : Int) ≤ G[X]!.length := by omega
      simp only [go_sem, hX, gX, hrow]
      refine CallU.boxes (i := 2) (is := []) (bx0 := [diceA (l.take 200) at7]) (con_pick (l.take 200) at7 G[X]!.length hs ha7 hM) (by simp only [go_sem]) (by simp only [go_sem]) (by simp only [go_sem]) (by simp only [go_sem]) (by simp only [go_sem]) ?_
      rintro u bx ⟨v, at8, rfl, w0, w1, ha8, rfl⟩
      obtain ⟨Y, rfl, hY⟩ : ∃ Y : Nat, v = Y ∧ Y < G[X]!.length := ⟨v.toNat, by omega, by omega⟩
      have gY := getvb hY
      simp only [go_sem]
      refine DrawK.walk 13 mixed (by kernel_rfl) ?_
      simp only [go_sem, hX, gX, hY, gY]
      refine key _ ⟨[G, r, G.set X (G[X]!.set Y (!G[X]![Y]!))], at8, rfl, fun z hz => ?_, ha8, ?_⟩
      · simp only [List.mem_cons, List.not_mem_nil, or_false] at hz
        rcases hz with rfl | rfl | rfl
        · omega
        · omega
        · rw [List.length_set]; omega
      · simp only [go_sem, hfz]
    rintro τ ⟨Zs, at7, hZl, hZk, ha7, hle⟩
    refine LoopK.freeze (fun _ => true) (fun m : Nat => ⟨327, [(3, vr 0 r), (4, vi most), (5, vs 0 word), (7, .pb 0 0), (13, .pb 2 0), (15, .pb 4 0), (116, .sl 0 1 (Xs.map (vy 0))), (117, vi 3), (118, vi i), (23, .pb (ks.length + 1 + 1 + 1 + 1 + 1) 0), (151, .sl 0 1 (Ys.map (vy 0))), (152, vi 3), (153, vi j), (27, .pb (ks.length + (ds.length + 1) + 1 + 1 + 1 + 1 + 1) 0), (249, .sl 0 1 (Zs.map (vr 0))), (250, vi 3), (251, vi m)], [.sl 0 1 (raw.map (vl 0))] :: [.sl 0 2 (cs.map vV), .sl 0 1 (arcs.map (vl 0))] :: diceA (l.take 200) at7 :: [.sl 0 1 (a.map (vl 0))] :: [.sl 0 1 (b.map (vl 0))] :: (Jk ks ++ ([.sl 0 1 (x.map (vl 0))] :: (Jk ds ++ [[.sl 0 1 (y.map (vl 0))]])))⟩)
      (fun m => 3 - m) (fun m => m ≤ 3) 0 (by omega) hle ?_
    clear hle
    intro m hm
    by_cases h3 : m < 3
    · have hmI : (m : Int) < 3 := by omega
      have hmZ : m < Zs.length := by omega
      have hw3 : IntKind.i64.wrap (m + 1) = m + 1 := wrap_in (by omega) (by omega)
      have gz := getvrs hmZ
      have zl := hZk _ (mem_bang hmZ)
      generalize Zs[m]! = z at gz zl
      simp only [go_sem, hmI, hmZ, gz]
      refine DrawK.walk 9 mixed (by kernel_rfl) ?_
      simp only [go_sem, n0, n1, m0]
      refine CallY.mk (con_hold x y z okx oky (by omega)) (by simp only [go_sem]) (by simp only [go_sem]) (.inl (by simp only [go_sem])) ?_
      simp only [go_sem, n0, n1, m0]
      refine CallY.mk (con_rhold x y z okx oky (by omega)) (by simp only [go_sem]) (by simp only [go_sem]) (.inl (by simp only [go_sem])) ?_
      simp only [go_sem, bne_self_eq_false, hw3]
      refine roundK.freeze (fun _ => true) (m + 1) (by show m + 1 ≤ 3; omega) (by show 3 - (m + 1) < 3 - m; omega) ?_
      simp only [go_sem]
    have hme : m = 3 := by omega
    subst hme
    simp only [go_sem]
    obtain ⟨Ms, hMs⟩ : ∃ Ms, Ms = [most, 4, 17] := ⟨_, rfl⟩
    have hMl : Ms.length = 3 := by rw [hMs]; rfl
    have hle : leV (.sl 0 1 [.sc (.int .i64 most), .sc (.int .i64 4), .sc (.int .i64 17)]) (.sl 0 1 (Ms.map vi)) := leV_eq (by rw [hMs]; rfl)
    refine LoopK.freeze (fun _ => true) (fun m : Nat => ⟨327, [(3, vr 0 r), (4, vi most), (5, vs 0 word), (7, .pb 0 0), (13, .pb 2 0), (15, .pb 4 0), (116, .sl 0 1 (Xs.map (vy 0))), (117, vi 3), (118, vi i), (23, .pb (ks.length + 1 + 1 + 1 + 1 + 1) 0), (151, .sl 0 1 (Ys.map (vy 0))), (152, vi 3), (153, vi j), (27, .pb (ks.length + (ds.length + 1) + 1 + 1 + 1 + 1 + 1) 0), (266, .sl 0 1 (Ms.map vi)), (267, vi 3), (268, vi m)], [.sl 0 1 (raw.map (vl 0))] :: [.sl 0 2 (cs.map vV), .sl 0 1 (arcs.map (vl 0))] :: diceA (l.take 200) at7 :: [.sl 0 1 (a.map (vl 0))] :: [.sl 0 1 (b.map (vl 0))] :: (Jk ks ++ ([.sl 0 1 (x.map (vl 0))] :: (Jk ds ++ [[.sl 0 1 (y.map (vl 0))]])))⟩)
      (fun m => 3 - m) (fun m => m ≤ 3) 0 (by omega) ?_ ?_
    · simp only [go_sem]
      exact hle
    clear hle hm hMs
    intro m hm
    by_cases h4 : m < 3
    case neg =>
      have hme : m = 3 := by omega
      subst hme
      simp only [go_sem, hw2]
      refine roundK.freeze (fun _ => true) (j + 1, ds ++ [1], at7) ⟨by show j + 1 ≤ 3; omega, ha7⟩ (by show 3 - (j + 1) < 3 - j; omega) ?_
      simp only [go_sem]
      exact leB_app (leB_self _) ⟨leC_self _, leB_JkA ⟨⟨leV_any _, trivial⟩, trivial⟩⟩
    have hmI : (m : Int) < 3 := by omega
    have hmM : m < Ms.length := by omega
    have hw3 : IntKind.i64.wrap (m + 1) = m + 1 := wrap_in (by omega) (by omega)
    have gm := getv hmM
    generalize Ms[m]! = M at gm
    by_cases k1 : (6 : Int) < M
    · by_cases k2 : M < 17
      · simp only [go_sem, hmI, hmM, gm, k1, k2, n0, n1, m0]
        refine CallU.free (con_tr x y 6 okx oky) (by simp only [go_sem]) (by simp only [go_sem]) ?_
        rintro u bx rfl
        simp only [go_sem, n0, n1, m0]
        refine CallU.free (con_rtr x y 6 okx oky) (by simp only [go_sem]) (by simp only [go_sem]) ?_
        rintro u bx rfl
        rcases hT : traceV x y 6 with ⟨W, S, E⟩
        have hV : (wordV (W, S, E)).length ≤ 16 := by rw [← hT]; exact wordV_len x y 6
        generalize wordV (W, S, E) = V at hV
        have hSS : (S != S) = false := by simp
        simp only [go_sem, bne_self_eq_false]
        refine LoopK.freeze (fun _ => true) (fun q : Nat => ⟨327, [(3, vr 0 r), (4, vi most), (5, vs 0 word), (7, .pb 0 0), (13, .pb 2 0), (15, .pb 4 0), (116, .sl 0 1 (Xs.map (vy 0))), (117, vi 3), (118, vi i), (23, .pb (ks.length + 1 + 1 + 1 + 1 + 1) 0), (151, .sl 0 1 (Ys.map (vy 0))), (152, vi 3), (153, vi j), (27, .pb (ks.length + (ds.length + 1) + 1 + 1 + 1 + 1 + 1) 0), (266, .sl 0 1 (Ms.map vi)), (267, vi 3), (268, vi m), (43, vs 0 V), (46, vs 0 V), (309, vs 0 V), (310, vi V.length), (311, vi q)], [.sl 0 1 (raw.map (vl 0))] :: [.sl 0 2 (cs.map vV), .sl 0 1 (arcs.map (vl 0))] :: diceA (l.take 200) at7 :: [.sl 0 1 (a.map (vl 0))] :: [.sl 0 1 (b.map (vl 0))] :: (Jk ks ++ ([.sl 0 1 (x.map (vl 0))] :: (Jk ds ++ [[.sl 0 1 (y.map (vl 0))]])))⟩)
          (fun q => V.length - q) (fun q => q ≤ V.length) 0 (by omega) ?_ ?_
        · simp only [go_sem]
        intro q hq
        by_cases hq2 : q < V.length
        case neg =>
          simp only [go_sem, hq2, hw3]
          refine roundK.freeze (fun _ => true) (m + 1) (by show m + 1 ≤ 3; omega) (by show 3 - (m + 1) < 3 - m; omega) ?_
          simp only [go_sem]
        have gq := getv hq2
        have hwq : IntKind.i64.wrap (q + 1) = q + 1 := wrap_in (by omega) (by omega)
        simp only [go_sem, hq2]
        refine DrawK.walk 9 mixed (by kernel_rfl) ?_
        simp only [go_sem, hq2, gq, bne_self_eq_false, hwq]
        refine roundK.freeze (fun _ => true) (q + 1) (by show q + 1 ≤ V.length; omega) (by show V.length - (q + 1) < V.length - q; omega) ?_
        simp only [go_sem]
      · simp only [go_sem, hmI, hmM, gm, k1, k2, n0, n1, m0]
        refine CallU.free (con_tr x y M okx oky) (by simp only [go_sem]) (by simp only [go_sem]) ?_
        rintro u bx rfl
        simp only [go_sem, n0, n1, m0]
        refine CallU.free (con_rtr x y M okx oky) (by simp only [go_sem]) (by simp only [go_sem]) ?_
        rintro u bx rfl
        rcases hT : traceV x y M with ⟨W, S, E⟩
        have hV : (wordV (W, S, E)).length ≤ 16 := by rw [← hT]; exact wordV_len x y M
        generalize wordV (W, S, E) = V at hV
        have hSS : (S != S) = false := by simp
        simp only [go_sem, bne_self_eq_false]
        refine LoopK.freeze (fun _ => true) (fun q : Nat => ⟨327, [(3, vr 0 r), (4, vi most), (5, vs 0 word), (7, .pb 0 0), (13, .pb 2 0), (15, .pb 4 0), (116, .sl 0 1 (Xs.map (vy 0))), (117, vi 3), (118, vi i), (23, .pb (ks.length + 1 + 1 + 1 + 1 + 1) 0), (151, .sl 0 1 (Ys.map (vy 0))), (152, vi 3), (153, vi j), (27, .pb (ks.length + (ds.length + 1) + 1 + 1 + 1 + 1 + 1) 0), (266, .sl 0 1 (Ms.map vi)), (267, vi 3), (268, vi m), (43, vs 0 V), (46, vs 0 V), (309, vs 0 V), (310, vi V.length), (311, vi q)], [.sl 0 1 (raw.map (vl 0))] :: [.sl 0 2 (cs.map vV), .sl 0 1 (arcs.map (vl 0))] :: diceA (l.take 200) at7 :: [.sl 0 1 (a.map (vl 0))] :: [.sl 0 1 (b.map (vl 0))] :: (Jk ks ++ ([.sl 0 1 (x.map (vl 0))] :: (Jk ds ++ [[.sl 0 1 (y.map (vl 0))]])))⟩)
          (fun q => V.length - q) (fun q => q ≤ V.length) 0 (by omega) ?_ ?_
        · simp only [go_sem]
        intro q hq
        by_cases hq2 : q < V.length
        case neg =>
          simp only [go_sem, hq2, hw3]
          refine roundK.freeze (fun _ => true) (m + 1) (by show m + 1 ≤ 3; omega) (by show 3 - (m + 1) < 3 - m; omega) ?_
          simp only [go_sem]
        have gq := getv hq2
        have hwq : IntKind.i64.wrap (q + 1) = q + 1 := wrap_in (by omega) (by omega)
        simp only [go_sem, hq2]
        refine DrawK.walk 9 mixed (by kernel_rfl) ?_
        simp only [go_sem, hq2, gq, bne_self_eq_false, hwq]
        refine roundK.freeze (fun _ => true) (q + 1) (by show q + 1 ≤ V.length; omega) (by show V.length - (q + 1) < V.length - q; omega) ?_
        simp only [go_sem]
    · simp only [go_sem, hmI, hmM, gm, k1, n0, n1, m0]
      refine CallU.free (con_tr x y M okx oky) (by simp only [go_sem]) (by simp only [go_sem]) ?_
      rintro u bx rfl
      simp only [go_sem, n0, n1, m0]
      refine CallU.free (con_rtr x y M okx oky) (by simp only [go_sem]) (by simp only [go_sem]) ?_
      rintro u bx rfl
      rcases hT : traceV x y M with ⟨W, S, E⟩
      have hV : (wordV (W, S, E)).length ≤ 16 := by rw [← hT]; exact wordV_len x y M
      generalize wordV (W, S, E) = V at hV
      have hSS : (S != S) = false := by simp
      simp only [go_sem, bne_self_eq_false]
      refine LoopK.freeze (fun _ => true) (fun q : Nat => ⟨327, [(3, vr 0 r), (4, vi most), (5, vs 0 word), (7, .pb 0 0), (13, .pb 2 0), (15, .pb 4 0), (116, .sl 0 1 (Xs.map (vy 0))), (117, vi 3), (118, vi i), (23, .pb (ks.length + 1 + 1 + 1 + 1 + 1) 0), (151, .sl 0 1 (Ys.map (vy 0))), (152, vi 3), (153, vi j), (27, .pb (ks.length + (ds.length + 1) + 1 + 1 + 1 + 1 + 1) 0), (266, .sl 0 1 (Ms.map vi)), (267, vi 3), (268, vi m), (43, vs 0 V), (46, vs 0 V), (309, vs 0 V), (310, vi V.length), (311, vi q)], [.sl 0 1 (raw.map (vl 0))] :: [.sl 0 2 (cs.map vV), .sl 0 1 (arcs.map (vl 0))] :: diceA (l.take 200) at7 :: [.sl 0 1 (a.map (vl 0))] :: [.sl 0 1 (b.map (vl 0))] :: (Jk ks ++ ([.sl 0 1 (x.map (vl 0))] :: (Jk ds ++ [[.sl 0 1 (y.map (vl 0))]])))⟩)
        (fun q => V.length - q) (fun q => q ≤ V.length) 0 (by omega) ?_ ?_
      · simp only [go_sem]
      intro q hq
      by_cases hq2 : q < V.length
      case neg =>
        simp only [go_sem, hq2, hw3]
        refine roundK.freeze (fun _ => true) (m + 1) (by show m + 1 ≤ 3; omega) (by show 3 - (m + 1) < 3 - m; omega) ?_
        simp only [go_sem]
      have gq := getv hq2
      have hwq : IntKind.i64.wrap (q + 1) = q + 1 := wrap_in (by omega) (by omega)
      simp only [go_sem, hq2]
      refine DrawK.walk 9 mixed (by kernel_rfl) ?_
      simp only [go_sem, hq2, gq, bne_self_eq_false, hwq]
      refine roundK.freeze (fun _ => true) (q + 1) (by show q + 1 ≤ V.length; omega) (by show V.length - (q + 1) < V.length - q; omega) ?_
      simp only [go_sem]
end Go.AM

/-! ## Am3 -/
namespace Go.AM
open Go.ChangeShapes Go.WideShapes Go.ChangeAt Go.RowKit

section
variable {H : Type} {enc : TypeId × Value → H} {P : Program} {w : World} {base : Nat} {spare : Nat → Bool} {held : Bool}

/-- what these cells stand for -/
def Reads (w : World) (xs : List AV) (cs : List Value) : Prop := PW (FRel (Stable (oldG w)) w) xs cs ∧ One cs
theorem Reads.cons {x : AV} {xs : List AV} {v : Value} {cs : List Value} (h : Reads w [x] [v]) (k : Reads w xs cs) : Reads w (x :: xs) (v :: cs) :=
  ⟨.cons (h.1.2 0 x v rfl rfl) k.1, fun u hu => by
    rcases List.mem_cons.1 hu with rfl | hu
    · exact h.2 u (by simp)
    · exact k.2 u hu⟩
theorem Reads.one {x : AV} {v : Value} (h : Reads w [x] [v]) : FRel (Stable (oldG w)) w x v := h.1.2 0 x v rfl rfl
theorem Reads.of {x : AV} {v : Value} (h : FRel (Stable (oldG w)) w x v) (k : v.oneCell' = true) : Reads w [x] [v] := ⟨.cons h (.nil _), fun u hu => by simp at hu; subst hu; exact k⟩

def elemsOf : DataW H → List (DataW H)
  | .slice l _ => l
  | _ => []
def partsOf : DataW H → List (DataW H)
  | .agg l => l
  | _ => []

theorem flatten_at {α : Type} {es : Nat} : ∀ {L : List (List α)} {j : Nat} {u : α}, (∀ l ∈ L, l.length = es) → L.flatten[j]? = some u → ∃ i o l, j = i * es + o ∧ L[i]? = some l ∧ l[o]? = some u
  | [], j, u, _, h => by simp at h
  | l :: L, j, u, hl, h => by
    rw [List.flatten_cons] at h
    by_cases hj : j < l.length
    · rw [List.getElem?_append_left hj] at h; exact ⟨0, j, l, by omega, rfl, h⟩
    · rw [List.getElem?_append_right (by omega)] at h
      obtain ⟨i, o, l', h1, h2, h3⟩ := flatten_at (fun l' hl' => hl l' (by simp [hl'])) h
      have := hl l (by simp)
      exact ⟨i + 1, o, l', by rw [Nat.succ_mul]; omega, by simpa using h2, h3⟩

/-- a slice, its elements read by g -/
theorem slice_reads {t e : TypeId} {g : DataW H → AV} {es fuel : Nat} {cs : List Value} {d : DataW H} {ps : List MemPlace} (ht : P.underlying t = some (.slice e)) (hc : P.cellsOf e = es) (hes : 0 < es)
    (h : DataW.trod enc P w base spare held fuel t cs = some (d, ps))
    (hel : ∀ x ∈ elemsOf d, ∀ n cs' ps', DataW.trod enc P w base spare held n e cs' = some (x, ps') → Reads w (g x).cells cs') :
    ∃ v, cs = [v] ∧ Reads w [.sl 0 es ((elemsOf d).map g)] [v] ∧ (elemsOf d).length ≤ 9223372036854775807 ∧ ∀ x ∈ elemsOf d, ∃ n cs' ps', DataW.trod enc P w base spare held n e cs' = some (x, ps') := by
  rcases Go.Deep.open_slice ht h with ⟨rfl, h2⟩ | ⟨a, len, cap, m, n, D, Pl, rfl, _, hl, hcm, hm, h2, hx⟩
  · simp only [Prod.mk.injEq] at h2
    obtain ⟨rfl, _⟩ := h2
    exact ⟨_, rfl, .of (.slNil _ _ _ _ (by omega) (by simp) (by simp)) rfl, by simp [elemsOf], fun x hx => by simp [elemsOf] at hx⟩
  · simp only [Prod.mk.injEq] at h2
    obtain ⟨rfl, _⟩ := h2
    refine ⟨_, rfl, ?_, by simp only [elemsOf, List.length_map, List.length_range]; unfold maxLen at hcm; omega, fun x hx' => by
      simp only [elemsOf] at hx'
      obtain ⟨i, hi, rfl⟩ := List.mem_map.1 hx'
      obtain ⟨cs', _, h2⟩ := hx i (by have := List.mem_range.1 hi; rw [hm]; split <;> omega)
      exact ⟨n, cs', _, h2⟩⟩
    refine .of ?_ rfl
    have hlm : len ≤ m := by rw [hm]; split <;> omega
    rcases Nat.eq_zero_or_pos len with h0 | hp
    · subst h0
      exact .slNil _ _ _ _ (by omega) (by simp) (by simp)
    obtain ⟨CS, hCS⟩ := Go.Deep.choose_lt (α := List Value) (p := fun i cs' => w.cells? base (a.add (i * P.cellsOf e)) (P.cellsOf e) = some cs' ∧ DataW.trod enc P w base spare held n e cs' = some (D i, Pl i)) (n := len) (fun i hi => hx i (by omega))
    rw [hc] at hCS
    have hcell : ∀ i, i < len → (CS i).length = es ∧ ∀ o, o < es → w.cell? ((a.add (i * es)).add o) = (CS i)[o]? := fun i hi =>
      let ⟨_, h1, h2⟩ := World.cells?_some (hCS i hi).1
      ⟨h1, h2⟩
    have hrd : ∀ i, i < len → Reads w (g (D i)).cells (CS i) := fun i hi => hel (D i) (by simp only [elemsOf]; exact List.mem_map.2 ⟨i, List.mem_range.2 hi, rfl⟩) n (CS i) (Pl i) (hCS i hi).2
    obtain ⟨b, off, spot⟩ := a
    have h00 : ∃ u, w.cell? (((Addr.mk b off spot).add (0 * es)).add 0) = some u := by
      rw [(hcell 0 hp).2 0 hes]
      exact ⟨_, List.getElem?_eq_getElem (by rw [(hcell 0 hp).1]; exact hes)⟩
    obtain ⟨u0, hu0⟩ := h00
    have hspot : spot = none := by simpa [Addr.add] using World.cell?_spot hu0
    subst hspot
    have hb : b < w.heap.size := by simpa [Addr.add] using cell_old hu0
    simp only [elemsOf, List.map_map]
    have hlen : ((List.range len).map (g ∘ D)).length = len := by simp
    have hL : ∀ l ∈ (List.range len).map CS, l.length = es := fun l hl => by
      obtain ⟨i, hi, rfl⟩ := List.mem_map.1 hl
      exact (hcell i (List.mem_range.1 hi)).1
    have hpw : PW (FRel (Stable (oldG w)) w) (flat ((List.range len).map (g ∘ D))) ((List.range len).map CS).flatten := by
      have := PW.flatMap (R := FRel (Stable (oldG w)) w) (f := AV.cells) (g := fun l : List Value => l) (xs := (List.range len).map (g ∘ D)) (ys := (List.range len).map CS) ⟨by simp, fun j x y hx hy => by
        have hjl : j < len := by have := (List.getElem?_eq_some_iff.1 hx).1; simpa using this
        simp only [List.getElem?_map, List.getElem?_range hjl, Option.map_some, Option.some.injEq] at hx hy
        subst hx; subst hy
        exact (hrd j hjl).1⟩
      have e : ((List.range len).map CS).flatMap (fun l => l) = ((List.range len).map CS).flatten := by rw [List.flatMap_def]; congr 1; exact List.map_id' _
      rw [e] at this
      exact this
    have := FRel.sl (S := Stable (oldG w)) (w := w) 0 es ((List.range len).map (g ∘ D)) b off cap ((List.range len).map CS).flatten (by omega) (oldG_lt hb) (by simp) (by rw [hlen]; exact hl)
      (fun x hx => by
        obtain ⟨i, hi, rfl⟩ := List.mem_map.1 hx
        have hi := List.mem_range.1 hi
        rw [← (hcell i hi).1]; exact (hrd i hi).1.1)
      hpw.1
      (fun u hu => by
        obtain ⟨l, hl, hul⟩ := List.mem_flatten.1 hu
        obtain ⟨i, hi, rfl⟩ := List.mem_map.1 hl
        exact (hrd i (List.mem_range.1 hi)).2 u hul)
      (fun j u hj => by
        obtain ⟨i, o, l, rfl, h1, h2⟩ := flatten_at hL hj
        have hil : i < len := by have := (List.getElem?_eq_some_iff.1 h1).1; simpa using this
        simp only [List.getElem?_map, List.getElem?_range hil, Option.map_some, Option.some.injEq] at h1
        subst h1
        have ho : o < es := by have := (List.getElem?_eq_some_iff.1 h2).1; rw [(hcell i hil).1] at this; exact this
        have := (hcell i hil).2 o ho
        rw [h2] at this
        rw [add_plain, add_plain, Nat.add_assoc] at this
        exact this)
      (fun j x u hx hu => hpw.2 j x u hx hu)
    rw [hlen] at this
    exact this

theorem int_reads {e : TypeId} {fuel : Nat} {cs : List Value} {d : DataW H} {ps : List MemPlace} (he : P.underlying e = some (.int .i64)) (h : DataW.trod enc P w base spare held fuel e cs = some (d, ps)) :
    ∃ v, cs = [v] ∧ Reads w [.sc (.int .i64 (numI d))] [v] := by
  obtain ⟨x, e0, e1, wx⟩ := DataW.trod_int he h
  subst e0
  exact ⟨_, rfl, .of (stands_i64 he fuel _ d ps h).1 rfl⟩
theorem bool_reads {e : TypeId} {fuel : Nat} {cs : List Value} {d : DataW H} {ps : List MemPlace} (he : P.underlying e = some .bool) (h : DataW.trod enc P w base spare held fuel e cs = some (d, ps)) :
    ∃ v b, cs = [v] ∧ d = .lit (.bool b) ∧ Reads w [.sc (.bool b)] [v] := by
  obtain ⟨x, e0, e1⟩ := DataW.trod_bool he h
  subst e0
  simp only [Prod.mk.injEq] at e1
  obtain ⟨rfl, _⟩ := e1
  exact ⟨_, x, rfl, rfl, .of (.sc _) rfl⟩
/-- a struct of two fields of one cell each -/
theorem struct2_reads {e : TypeId} {f0 f1 : Field} {fuel : Nat} {cs : List Value} {d : DataW H} {ps : List MemPlace} (he : P.underlying e = some (.struct #[f0, f1])) (ce : P.cellsOf e = 2)
    (o0 : f0.offset = 0) (o1 : f1.offset = 1) (c0 : P.cellsOf f0.type = 1) (c1 : P.cellsOf f1.type = 1) (h : DataW.trod enc P w base spare held fuel e cs = some (d, ps)) :
    ∃ v0 v1 d0 d1 n p0 p1, cs = [v0, v1] ∧ d = .agg [d0, d1] ∧ DataW.trod enc P w base spare held n f0.type [v0] = some (d0, p0) ∧ DataW.trod enc P w base spare held n f1.type [v1] = some (d1, p1) := by
  obtain ⟨y0, y1, n, hxy, hl, g0, g1⟩ := trod_struct2 he h
  rw [ce] at hl
  match cs, hl with
  | [v0, v1], _ =>
    simp [o0, o1, c0, c1] at g0 g1
    simp only [Prod.mk.injEq] at hxy
    exact ⟨v0, v1, y0.1, y1.1, n, y0.2, y1.2, rfl, hxy.1, g0, g1⟩
theorem struct1_reads {e : TypeId} {f0 : Field} {fuel : Nat} {cs : List Value} {d : DataW H} {ps : List MemPlace} (he : P.underlying e = some (.struct #[f0])) (ce : P.cellsOf e = 1)
    (o0 : f0.offset = 0) (c0 : P.cellsOf f0.type = 1) (h : DataW.trod enc P w base spare held fuel e cs = some (d, ps)) :
    ∃ v0 d0 n p0, cs = [v0] ∧ d = .agg [d0] ∧ DataW.trod enc P w base spare held n f0.type [v0] = some (d0, p0) := by
  obtain ⟨y0, n, hxy, hl, g0⟩ := trod_struct1 he h
  rw [ce] at hl
  match cs, hl with
  | [v0], _ =>
    simp [o0, c0] at g0
    simp only [Prod.mk.injEq] at hxy
    exact ⟨v0, y0.1, n, y0.2, rfl, hxy.1, g0⟩
/-- an argument that is a struct -/
theorem agg_arg {t : TypeId} {fs : Array Field} {v : Value} {xs : List AV} {r : Reach} {b0 : Nat} (ht : P.underlying t = some (.struct fs)) (hv : Value.okWide P w r b0 t v) (h : Reads w xs v.cells.toList) : VRel (oldG w) w (.ag xs) v := by
  obtain ⟨cs, rfl, _⟩ := okWide_struct ht hv
  have h : Reads w xs cs.toList := h
  exact .froz (.ag xs cs h.1.1 h.2 h.1.2)

theorem elems_size {d x : DataW H} (h : x ∈ elemsOf d) : SizeOf.sizeOf x < SizeOf.sizeOf d := by
  cases d <;> simp only [elemsOf, List.not_mem_nil] at h
  have := List.sizeOf_lt_of_mem h
  rw [DataW.slice.sizeOf_spec]; omega
/-! ### how long slices are -/
theorem weights_slice {t e : TypeId} {d : DataW H} (ht : P.underlying t = some (.slice e)) (h : ∀ n ∈ d.weights P t, n ≤ reachBytes) : (elemsOf d).length * P.bytesOf e ≤ reachBytes ∧ ∀ x ∈ elemsOf d, ∀ n ∈ x.weights P e, n ≤ reachBytes := by
  have key : ∀ (l : List (DataW H)) (x : DataW H), x ∈ l → ∀ n ∈ x.weights P e, n ∈ DataW.weightsAll P e l := by
    intro l
    induction l with
    | nil => intro x hx; simp at hx
    | cons a l ih =>
      intro x hx n hn
      simp only [DataW.weightsAll, List.mem_append]
      rcases List.mem_cons.1 hx with rfl | hx
      · exact .inl hn
      · exact .inr (ih x hx n hn)
  cases d <;> simp only [elemsOf, List.length_nil, Nat.zero_mul, List.not_mem_nil] <;> try exact ⟨Nat.zero_le _, fun x hx => by cases hx⟩
  rename_i l sp
  refine ⟨?_, fun x hx n hn => ?_⟩
  · have := h ((l.length + sp.length) * P.bytesOf e) (by simp [DataW.weights, ht])
    exact Nat.le_trans (Nat.mul_le_mul_right _ (Nat.le_add_right _ _)) this
  · refine h n ?_
    simp only [DataW.weights, ht, List.mem_cons, List.mem_append]
    exact .inr (.inl (key l x hx n hn))
end
end Go.AM
