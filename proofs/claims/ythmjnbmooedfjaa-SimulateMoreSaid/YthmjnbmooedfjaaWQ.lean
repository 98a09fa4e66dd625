/-
  Walks: Trace.
-/
import Derived.Test.YthmjnbmooedfjaaLc
namespace Go.AM
open Go Go.Proofs Go.RowKit

/-- the variables of k rounds -/
def Rx (k : Nat) : List (List AV) := List.replicate k [.any, .any, .any]
theorem Rx_len (k : Nat) : (Rx k).length = k := by simp [Rx]
@[go_sem] theorem freeB_Rx {d k : Nat} : freeB d (Rx k) = true := by
  induction k with
  | zero => rfl
  | succ k ih => unfold Rx at *; rw [List.replicate_succ, freeB, ih]; rfl
theorem mapB_Rx {f : AV → AV} (hf : f .any = .any) (k : Nat) : mapB f (Rx k) = Rx k := by
  induction k with
  | zero => rfl
  | succ k ih => unfold Rx at *; rw [List.replicate_succ, mapB, ih]; simp [mapTops, AV.mapTop, hf]
@[go_sem] theorem mapB_kill_Rx {t k : Nat} : mapB (killLeaf t) (Rx k) = Rx k := mapB_Rx rfl k
@[go_sem] theorem mapB_freeze_Rx {p : Nat → Bool} {k : Nat} : mapB (freezeLeaf p) (Rx k) = Rx k := mapB_Rx rfl k
@[go_sem] theorem mapB_put_Rx {t k : Nat} {P : Program} {a e : TypeId} {D : DataW Unit} : mapB (putMap t P a e D) (Rx k) = Rx k := mapB_Rx rfl k
@[go_sem] theorem mapB_store_Rx {t es i o k : Nat} {ys : List AV} : mapB (storeLeaf t es i o ys) (Rx k) = Rx k := mapB_Rx rfl k
@[go_sem] theorem freeB_app {d : Nat} : ∀ (x y : List (List AV)), freeB d (x ++ y) = (freeB d x && freeB d y)
  | [], y => by simp [freeB]
  | c :: x, y => by rw [List.cons_append, freeB, freeB, freeB_app x y, Bool.and_assoc]
@[go_sem] theorem mapB_app {f : AV → AV} : ∀ (x y : List (List AV)), mapB f (x ++ y) = mapB f x ++ mapB f y
  | [], y => rfl
  | c :: x, y => by rw [List.cons_append, mapB, mapB, mapB_app x y]; rfl
theorem leB_app : ∀ {x y x' y' : List (List AV)}, leB x x' → leB y y' → leB (x ++ y) (x' ++ y')
  | [], y, [], y', _, h => h
  | [], y, c :: x', y', h, _ => by simp [leB] at h
  | c :: x, y, [], y', h, _ => by simp [leB] at h
  | c :: x, y, c' :: x', y', h, h2 => by
    simp only [leB] at h
    simp only [List.cons_append, leB]
    exact ⟨h.1, leB_app h.2 h2⟩
theorem Rx_succ (k : Nat) : Rx (k + 1) = Rx k ++ [[.any, .any, .any]] := by unfold Rx; rw [List.replicate_succ']
@[go_sem] theorem leB_Rx {k : Nat} : leB (Rx k) (Rx k) = True := eq_true (leB_refl _)
@[go_sem] theorem leB_RxS {k : Nat} {x : List AV} : leB (Rx k ++ [x]) (Rx k ++ [x]) = True := eq_true (leB_refl _)
@[go_sem] theorem leB_RxA {k : Nat} {x y z : AV} : leB (Rx k ++ [[x, y, z]]) (Rx k ++ [[.any, .any, .any]]) = True := eq_true (leB_app (leB_refl _) ⟨⟨leV_any _, leV_any _, leV_any _, trivial⟩, trivial⟩)

/-- an element of the queue -/
def pairT (p : TP) : AV := .ag [vs 0 p.1, vs 0 p.2.1, vs 0 p.2.2]
theorem start_le {t : Nat} (ht : 2 ≤ t) {x y : AV} : leV (.sl t 3 [.ag [.nil, x, y]]) (.tl t 3 [.ag [.sl 0 1 [], x, y]] 0) := leV_sem fun G w v h => by
  refine VRel.le (x := .sl t 3 [.ag [.sl 0 1 [], x, y]]) ?_ (leV_sltl (by simp))
  cases h with
  | froz h => exfalso; cases h <;> omega
  | own _ _ _ _ e vals h1 h2 h3 h4 h0 h5 =>
    have h5' : PW (FRel (Stable G) w) [.nil, x, y] vals := by simpa [flat, AV.cells] using h5
    refine .own t 3 _ v e vals h1 h2 h3 (fun z hz => by simp at hz; subst hz; rfl) h0 ?_
    obtain ⟨u, us, rfl, k1, k2⟩ := h5'.cons_inv
    have : FRel (Stable G) w (.sl 0 1 []) u := by cases k1; exact .slNil 0 1 none 0 (by omega) (fun h => by omega) (fun _ => rfl)
    simpa [flat, AV.cells] using PW.cons this k2

theorem uniq_len (l : List Int) : (uniq l).length ≤ l.length := by
  unfold uniq upTo; rw [List.length_map]; exact Nat.le_trans (List.length_filter_le _ _) (by simp)
theorem labels_len {x : Sys} {s : List Int} (hs : Among x s) (hx : ∀ l ∈ x, l.length ≤ 1000000) : (labelsF x s).length ≤ 128 * 1000000 := by
  unfold labelsF
  refine Nat.le_trans (uniq_len _) ?_
  rw [(sortI_perm _).length_eq, List.length_map]
  exact Nat.le_trans (visA_le hx _) (Nat.mul_le_mul_right _ hs.1)
theorem strOf_size (ns : List Int) : (strOf ns).size = ns.length := by
  have : ∀ (ns : List Int) (r : ByteArray), (ns.foldl (fun r n => r.push (UInt8.ofNat n.toNat)) r).size = r.size + ns.length := by
    intro ns
    induction ns with
    | nil => intro r; simp
    | cons x ns ih => intro r; rw [List.foldl_cons, ih, ByteArray.size_push, List.length_cons]; omega
  have h := this ns ByteArray.empty
  unfold strOf
  rw [h]; simp
/-- what Trace returns -/
def outT (r : List Int × Bool × Int) : AV := .tup [if r.2.1 = true then vs 0 r.1 else .nil, .sc (.bool r.2.1), vi r.2.2]

set_option maxRecDepth 100000 in
set_option maxHeartbeats 4000000 in
theorem con_trace (a b : Sys) (most : Nat) (hca : checkS a = 0) (hcb : checkS b = 0) (hm : most ≤ 16) (ha : ∀ l ∈ a, l.length ≤ 1000000) (hb : ∀ l ∈ b, l.length ≤ 1000000) :
    Con Try.prog 13 [vy 0 a, vy 0 b, vi most] [] fun r _ => r = outT (traceF a b most) := by
  have ha' : ∀ l ∈ a, l.length ≤ 281474976710656 := fun l hl => Nat.le_trans (ha l hl) (by decide)
  have hb' : ∀ l ∈ b, l.length ≤ 281474976710656 := fun l hl => Nat.le_trans (hb l hl) (by decide)
  have a2 := (checkS_ok hca).2.1
  have b2 := (checkS_ok hcb).2.1
  have hab : bothS a b = 0 := dealt_both hca hcb
  refine Con.intro Try.func13 rfl Try.ntmps13 Try.results13 (by kernel_rfl) (by simp) 0 (by simp) ?_
  simp only [go_sem]
  refine CallU.free (con_both a b ha' (by omega) hb' (by omega)) (by simp only [go_sem]) (by simp only [go_sem]) ?_
  rintro r bx rfl
  have hm0 : ¬ ((most : Int) < 0) := by omega
  have hm1 : ¬ ((16 : Int) < most) := by omega
  simp only [go_sem, hab, hm0, hm1]
  refine CallU.flat (con_key .nil [0] [0] (by decide) (by decide) (by decide) (by decide)) (by simp only [go_sem]) (by simp only [go_sem]) ?_
  rintro r bx rfl
  simp only [go_sem]
  refine evMapPut_str Try.underlying69 Try.underlying9 Try.underlying4 (by decide +kernel) (by decide) ?_
  have hD : (DataW.map ([] : List (Lit × DataW Unit))).put (Lit.string (strOf (keyB [0] [0])).data.toList) (DataW.lit (Lit.bool true)) = metD [keyP startP] := metD_snoc [] _
  simp only [go_sem, hD]
  refine LoopK.intro (fun q : List TP × Nat × List (List UInt8) × Nat => ⟨98, [(2, vi most), (3, .pb 0 0), (4, .pb 1 0), (11, .mp 2112 Try.prog 9 4 (metD q.2.2.1)), (12, .tl 2432 3 (q.1.map pairT) q.2.1)], [.sl 0 1 (a.map (vl 0))] :: [.sl 0 1 (b.map (vl 0))] :: [.any, .any, .any] :: Rx q.2.2.2⟩)
    (fun q => (q.1.length - q.2.1) + (4096 - q.2.2.1.length))
    (fun q => q.2.1 ≤ q.1.length ∧ q.1.length ≤ q.2.2.1.length ∧ q.2.2.1.length ≤ 4096 ∧ q.2.2.1.Nodup ∧ (∀ p ∈ q.1, p.1.length ≤ most ∧ Among a p.2.1 ∧ Among b p.2.2) ∧
      outerF a b most ((q.1.length - q.2.1) + (4096 - q.2.2.1.length)) (q.1.drop q.2.1) q.2.2.1 = traceF a b most) ([startP], 0, [keyP startP], 0)
    ⟨by simp, by simp, by simp, by simp, fun p hp => by simp at hp; subst hp; exact ⟨by simp [startP], among_start hca, among_start hcb⟩, rfl⟩ ?_ ?_
  · simp only [go_sem, Rx, List.replicate_zero]
    exact start_le (by omega)
  rintro ⟨all, i, met, k⟩ ⟨c1, c2, c3, c4, c5, c6⟩
  simp only at c1 c2 c3 c4 c5 c6
  by_cases hi : i < all.length
  case neg =>
    have hn0 : ¬ ((0 : Int) < ((all.length - i : Nat) : Int)) := by omega
    have e : traceF a b most = ([], false, 0) := by
      rw [← c6, List.drop_of_length_le (by omega)]; unfold outerF; rfl
    simp only [go_sem, hn0, e, outT]
  have hn0 : (0 : Int) < ((all.length - i : Nat) : Int) := by omega
  rcases hp : all[i]! with ⟨w, pa, pb⟩
  have hpm : (w, pa, pb) ∈ all := by rw [← hp]; exact mem_bang hi
  obtain ⟨d1, d2, d3⟩ := c5 _ hpm
  simp only at d1 d2 d3
  have gp : (all.map pairT)[i]? = some (.ag [vs 0 w, vs 0 pa, vs 0 pb]) := by rw [List.getElem?_map, List.getElem?_eq_getElem hi, ← getElem!_pos all i hi, hp]; rfl
  have hdrop : all.drop i = (w, pa, pb) :: all.drop (i + 1) := by rw [← List.getElem_cons_drop hi, ← getElem!_pos all i hi, hp]
  have hBl := Rx_len k
  have hBn : ∀ z : List AV, (Rx k ++ [z])[k]? = some z := fun z => by rw [List.getElem?_append_right (by rw [hBl]; exact Nat.le_refl _), hBl, Nat.sub_self]; rfl
  have hBs : ∀ z z' : List AV, (Rx k ++ [z]).set k z' = Rx k ++ [z'] := fun z z' => by rw [List.set_append_right _ _ (by rw [hBl]; exact Nat.le_refl _), hBl, Nat.sub_self]; rfl
  obtain ⟨M, hM⟩ : ∃ M, all.length - i + (4096 - met.length) = M + 1 := ⟨all.length - i + (4096 - met.length) - 1, by omega⟩
  rw [hM, hdrop] at c6
  by_cases hw : w.length = most
  · have e : traceF a b most = ([], false, 0) := by
      rw [← c6]; unfold outerF; rw [if_pos hw]
    simp only [go_sem, hn0, hi, gp, hBl, hBn, hBs, hw]
    refine ⟨by omega, ?_⟩
    simp only [go_sem, e, outT]
  have c6' : (match innerF a b (w, pa, pb) (labelsF a pa) ((w, pa, pb) :: all.drop (i + 1)) met with
    | .go todo met' => outerF a b most M todo.tail met'
    | .done w s e => (w, s, e)) = traceF a b most := by
    rw [← c6]; conv => rhs; unfold outerF
    rw [if_neg hw]; rfl
  clear c6
  simp only [go_sem, hn0, hi, gp, hBl, hBn, hBs, hw]
  refine ⟨by omega, ?_⟩
  refine CallU.free (con_labels pa a d2 ha) (by simp only [go_sem]) (by simp only [go_sem]) ?_
  rintro r bx rfl
  generalize hI : innerF a b (w, pa, pb) (labelsF a pa) ((w, pa, pb) :: all.drop (i + 1)) met = I at c6'
  generalize hL : labelsF a pa = L at hI
  have hLl : L.length ≤ 128 * 1000000 := by rw [← hL]; exact labels_len d2 ha
  simp only [go_sem]
  refine LoopK.intro (fun q : List TP × Nat × List (List UInt8) × Nat => ⟨98, [(2, vi most), (3, .pb 0 0), (4, .pb 1 0), (11, .mp 2112 Try.prog 9 4 (metD q.2.2.1)), (12, .tl 2432 3 (q.1.map pairT) q.2.1), (13, .pb (k + 1 + 1 + 1) 0), (54, vs 0 L), (55, vi L.length), (56, vi q.2.2.2)], [.sl 0 1 (a.map (vl 0))] :: [.sl 0 1 (b.map (vl 0))] :: [.any, .any, .any] :: (Rx k ++ [[vs 0 w, vs 0 pa, vs 0 pb]])⟩)
    (fun q => L.length - q.2.2.2)
    (fun q => q.2.1 < q.1.length ∧ q.1.length ≤ q.2.2.1.length ∧ q.2.2.1.length ≤ 4096 ∧ q.2.2.1.Nodup ∧ (∀ p ∈ q.1, p.1.length ≤ most ∧ Among a p.2.1 ∧ Among b p.2.2) ∧ q.2.2.2 ≤ L.length ∧
      q.1.length - q.2.1 + (4096 - q.2.2.1.length) = M + 1 ∧ innerF a b (w, pa, pb) (L.drop q.2.2.2) (q.1.drop q.2.1) q.2.2.1 = I) (all, i, met, 0)
    ⟨hi, c2, c3, c4, c5, Nat.zero_le _, hM, by show innerF a b (w, pa, pb) (L.drop 0) (all.drop i) met = I; rw [hdrop]; exact hI⟩ ?_ ?_
  · simp only [go_sem]
  rintro ⟨al2, i2, met2, j⟩ ⟨m1, m2, m3, m4, m5, m6, m7, m8⟩
  simp only at m1 m2 m3 m4 m5 m6 m7 m8
  by_cases hj : j < L.length
  case neg =>
    obtain rfl : j = L.length := by omega
    rw [List.drop_length] at m8
    simp only [go_sem, hj]
    refine ⟨by omega, roundK.intro (al2, i2 + 1, met2, k + 1) ⟨by show i2 + 1 ≤ al2.length; omega, m2, m3, m4, m5, ?_⟩ (by show al2.length - (i2 + 1) + (4096 - met2.length) < all.length - i + (4096 - met.length); omega) ?_⟩
    · show outerF a b most (al2.length - (i2 + 1) + (4096 - met2.length)) (al2.drop (i2 + 1)) met2 = traceF a b most
      rw [← c6', ← m8]
      simp only [innerF]
      rw [show al2.length - (i2 + 1) + (4096 - met2.length) = M by omega, List.tail_drop]
    · simp only [go_sem, Rx_succ]
  have hjw : IntKind.i64.wrap (j + 1) = j + 1 := wrap_in (by omega) (by omega)
  have hdj : L.drop j = L[j]! :: L.drop (j + 1) := by rw [← List.getElem_cons_drop hj, ← getElem!_pos L j hj]
  rw [hdj] at m8
  have gl := getv hj
  generalize hlab : L[j]! = lab at gl m8
  have hclip : Con Try.prog 34 [vs 0 w] [] fun r _ => r = .sl 1 1 (w.map vi) := con_clip w (by omega)
  simp only [go_sem, hj, gl, hBl, hBn]
  refine DrawK.walk 18 mixed (by kernel_rfl) ?_
  simp only [go_sem, hBn]
  refine CallY.mk hclip (by simp only [go_sem]) (by simp only [go_sem]) (.inl rfl) ?_
  simp only [go_sem, hBn]
  refine ⟨by simp [roomFor]; omega, CallY.mk (con_after pa a lab d2 ha) (by simp only [go_sem]) (by simp only [go_sem]) (.inl (by simp only [go_sem])) ?_⟩
  simp only [go_sem, hBn]
  refine CallY.mk (con_after pb b lab d3 hb) (by simp only [go_sem]) (by simp only [go_sem]) (.inl (by simp only [go_sem])) ?_
  simp only [go_sem, hBn]
  generalize hna : afterF a pa lab = na
  generalize hnb : afterF b pb lab = nb
  have hnext : nextP a b (w, pa, pb) lab = (w ++ [lab], na, nb) := by unfold nextP; rw [hna, hnb]
  simp only [innerF, hnext] at m8
  have hAna : Among a na := by rw [← hna]; exact among_afterF hca d2
  have hAnb : Among b nb := by rw [← hnb]; exact among_afterF hcb d3
  by_cases hz : nb = []
  · rw [if_pos hz] at m8
    have e : traceF a b most = (w ++ [lab], true, 0) := by rw [← c6', ← m8]
    have hz' : ((nb.length : Int) == 0) = true := by rw [hz]; rfl
    simp only [go_sem, hz', e, outT, List.map_append, List.map_cons, List.map_nil]
  rw [if_neg hz] at m8
  have hzl : 0 < nb.length := List.length_pos_iff.2 hz
  have hz' : ((nb.length : Int) == 0) = false := by simp; omega
  simp only [go_sem, hz']
  have r1 : ∀ i ∈ na, 0 ≤ i ∧ i < 128 := fun t ht => by have := hAna.2 t ht; omega
  have r2 : ∀ i ∈ nb, 0 ≤ i ∧ i < 128 := fun t ht => by have := hAnb.2 t ht; omega
  have hkey := con_key (.sl 0 1 (w.map vi ++ [vi lab])) na nb r1 r2 hAna.1 hAnb.1
  have hks : (strOf (keyB na nb)).size ≤ 9223372036854775807 := by
    rw [strOf_size]; unfold keyB; rw [List.length_append, List.length_cons]; have := hAna.1; have := hAnb.1; omega
  have hkl : (strOf (keyB na nb)).data.toList = keyP (w ++ [lab], na, nb) := rfl
  generalize keyP (w ++ [lab], na, nb) = key at m8 hkl
  refine CallU.flat hkey (by simp only [go_sem]) (by simp only [go_sem]) ?_
  rintro r bx rfl
  simp only [go_sem]
  refine evLookup_str Try.underlying69 Try.underlying9 Try.underlying4 tinfo_4 rfl hks ?_
  rw [hkl, metD_at]
  cases hmet : met2.contains key
  case true =>
    rw [if_pos hmet] at m8
    simp only [go_sem, hjw]
    refine roundK.intro (al2, i2, met2, j + 1) ⟨m1, m2, m3, m4, m5, by show j + 1 ≤ L.length; omega, m7, m8⟩ (by show L.length - (j + 1) < L.length - j; omega) ?_
    simp only [go_sem]
  rw [if_neg (by rw [hmet]; simp)] at m8
  have hlen := metD_len met2 m4
  by_cases hfull : 4096 ≤ met2.length
  · rw [if_pos hfull] at m8
    have e : traceF a b most = ([], false, 1) := by rw [← c6', ← m8]
    have hf : (4096 : Int) ≤ met2.length := by omega
    simp only [go_sem, hlen, hf, e, outT]
  rw [if_neg hfull] at m8
  have hf : ¬ ((4096 : Int) ≤ met2.length) := by omega
  simp only [go_sem, hlen, hf]
  refine CallU.flat hkey (by simp only [go_sem]) (by simp only [go_sem]) ?_
  rintro r bx rfl
  simp only [go_sem]
  refine evMapPut_str Try.underlying69 Try.underlying9 Try.underlying4 hks (by rw [hlen]; omega) ?_
  rw [hkl, metD_snoc]
  simp only [go_sem, hjw]
  have hnew : ∀ p ∈ [((w ++ [lab], na, nb) : TP)], p.1.length ≤ most ∧ Among a p.2.1 ∧ Among b p.2.2 := fun p hp => by
    simp at hp; subst hp
    exact ⟨by simp; omega, hAna, hAnb⟩
  have hnd : (met2 ++ [key]).Nodup := by
    rw [List.nodup_append]
    refine ⟨m4, by simp, fun x hx y hy => ?_⟩
    simp at hy; subst hy
    intro e; subst e
    have := List.contains_iff_mem.2 hx
    rw [hmet] at this; cases this
  have hpt : AV.ag [AV.sl 0 1 (List.map vi w ++ [AV.sc (Value.int IntKind.i64 lab)]), AV.sl 0 1 (List.map vi na), AV.sl 0 1 (List.map vi nb)] = pairT (w ++ [lab], na, nb) := by simp [pairT, vs, vi]
  refine ⟨by simp [roomFor]; omega, ?_, ?_⟩
  · refine roundK.intro (al2 ++ [(w ++ [lab], na, nb)], i2, met2 ++ [key], j + 1) ⟨by simp; omega, by simp; omega, by simp; omega, hnd, fun p hp => ?_, by show j + 1 ≤ L.length; omega, by simp; omega, ?_⟩ (by show L.length - (j + 1) < L.length - j; omega) ?_
    · exact (List.mem_append.1 hp).elim (m5 p) (hnew p)
    · show innerF a b (w, pa, pb) (L.drop (j + 1)) ((al2 ++ [(w ++ [lab], na, nb)]).drop i2) (met2 ++ [key]) = I
      rw [List.drop_append_of_le_length (by omega)]; exact m8
    · simp only [go_sem, List.map_append, List.map_cons, List.map_nil, ← hpt]
  · refine roundK.intro (al2.drop i2 ++ [(w ++ [lab], na, nb)], 0, met2 ++ [key], j + 1) ⟨by simp, by simp; omega, by simp; omega, hnd, fun p hp => ?_, by show j + 1 ≤ L.length; omega, by simp; omega, ?_⟩ (by show L.length - (j + 1) < L.length - j; omega) ?_
    · exact (List.mem_append.1 hp).elim (fun h => m5 p (List.mem_of_mem_drop h)) (hnew p)
    · show innerF a b (w, pa, pb) (L.drop (j + 1)) ((al2.drop i2 ++ [(w ++ [lab], na, nb)]).drop 0) (met2 ++ [key]) = I
      rw [List.drop_zero]; exact m8
    · simp only [go_sem, List.map_append, List.map_cons, List.map_nil, List.map_drop, ← hpt]
end Go.AM
