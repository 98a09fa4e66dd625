/- BrQ HM BrS BrT BrT2 Am6 BrU Closed21 Closed21z -/
import Derived.Test.YtiklkcjkmhkgjaaGreatg24
import Derived.Test.YtiklkcjkmhkgjaaGreatg6
import Derived.Test.YtiklkcjkmhkgjaaGreatg7
namespace Go.AM
open Go Go.Proofs Go.RowKit
def lowNm : ByteArray := ⟨#[108, 111, 119]⟩
def highNm : ByteArray := ⟨#[104, 105, 103, 104]⟩
def extR (nm : ByteArray) (np : Nat) (g : List Int) : RD := { name := nm, src := -1, dst := 0, need := List.replicate np 0, give := g, move := [], second := -1 }
def growM (m : MD) (g h : List Int) : MD := { m with rules := m.rules ++ [extR lowNm m.places.length g, extR highNm m.places.length h] }
theorem small_zero (np : Nat) : smallB (List.replicate np 0) = true := by
 unfold smallB
 rw [List.all_eq_true]
 intro x hx
 rw [(List.mem_replicate.1 hx).2]; rfl
theorem right_ext {m : MD} {nm : ByteArray} {g h k : List Int} (hk : m.kind = 6) (hs : 1 <= m.states.length) (hl : k.length = m.places.length) (hg : smallB k = true) : rightR (growM m g h) (extR nm m.places.length k) = true := by
 have ke : (growM m g h).kind = 6 := hk
 have e : onlyR 6 (extR nm m.places.length k) = extR nm m.places.length k := by
  unfold onlyR
  rw [if_neg (by decide), if_neg (by decide), if_neg (by decide), if_neg (by decide)]; rfl
 have i0 : indexB 0 m.states.length = true := by unfold indexB; simp; omega
 unfold rightR
 rw [ke, e]
 simp only [Bool.and_eq_true]
 refine ⟨⟨?_, ?_⟩, ?_⟩
 ·unfold endsR
  rw [ke]
  simp only [Bool.and_eq_true, Bool.or_eq_true]
  exact ⟨i0, .inr ⟨rfl, rfl⟩⟩
 ·unfold fitsR
  rw [if_neg (by omega), if_neg (by omega), if_neg (by omega), if_neg (by omega)]
  unfold branchB changesB
  simp only [Bool.and_eq_true, Bool.or_eq_true, decide_eq_true_eq]
  refine ⟨⟨⟨⟨⟨by show (List.replicate m.places.length (0 : Int)).length = _; rw [List.length_replicate]; rfl, hl⟩, small_zero _⟩, hg⟩, .inl rfl⟩, .inr ⟨rfl, ?_⟩⟩
  rw [List.all_eq_true]
  intro x hx
  rw [(List.mem_replicate.1 hx).2]; rfl
 ·unfold sameB
  simp only [Bool.and_eq_true, beq_self_eq_true, and_self]
theorem okN_app {l k : List ByteArray} {i : Nat} (h : i < l.length) : okN (l ++ k) i = okN l i := by
 unfold okN
 have e1 : (l ++ k)[i]! = l[i]! := by
  rw [getElem!_pos _ i (by rw [List.length_append]; omega), getElem!_pos l i h, List.getElem_append_left h]
 have e2 : (l ++ k).take i = l.take i := List.take_append_of_le_length (by omega)
 rw [e1, e2]
theorem okN_last {l : List ByteArray} {x : ByteArray} (hw : (wordB x && !keywordB x) = true) (hs : ∀ s ∈ l, s.size < x.size) (k : List ByteArray) : okN (l ++ x :: k) l.length = true := by
 unfold okN
 have e1 : (l ++ x :: k)[l.length]! = x := by
  rw [getElem!_pos _ l.length (by simp)]; simp
 have e2 : (l ++ x :: k).take l.length = l := by simp
 rw [e1, e2, hw, Bool.true_and, Bool.not_eq_true', <- Bool.not_eq_true]
 intro hc
 rw [List.contains_iff_mem] at hc
 obtain ⟨y, hy, e⟩ := List.mem_map.1 hc
 have h1 := hs y hy
 have h2 : y.size = x.size := by
  have := congrArg List.length e
  simpa using this
 omega
theorem low_word : (wordB lowNm && !keywordB lowNm) = true := by kernel_rfl
theorem high_word : (wordB highNm && !keywordB highNm) = true := by kernel_rfl
theorem names_two {l : List ByteArray} (h : namesB l = true) (hs : ∀ s ∈ l, s.size <= 2) : namesB (l ++ [lowNm, highNm]) = true := by
 refine names_ok fun i hi => ?_
 rw [List.length_append] at hi
 by_cases h1 : i < l.length
 ·rw [okN_app h1]
  exact List.all_eq_true.1 h i (List.mem_range.2 h1)
 ·by_cases h2 : i = l.length
  ·subst h2
   exact okN_last low_word (fun s hs' => by have := hs s hs'; have : lowNm.size = 3 := rfl; omega) _
  ·have h3 : i = (l ++ [lowNm]).length := by rw [List.length_append]; simp at hi ⊢; omega
   have h4 : l ++ [lowNm, highNm] = (l ++ [lowNm]) ++ [highNm] := by simp
   rw [h3, h4]
   refine okN_last high_word (fun s hs' => ?_) _
   have e : highNm.size = 4 := rfl
   rcases List.mem_append.1 hs' with hs' | hs'
   ·have := hs s hs'; omega
   ·rw [List.mem_singleton] at hs'; subst hs'
    have : lowNm.size = 3 := rfl
    omega
theorem kind_grow {m : MD} {g h : List Int} (hk : kindF m = 0) (hn : ∀ s ∈ namesOf m, s.size <= 2) (h4 : m.rules.length <= 4) (hg : g.length = m.places.length) (hgs : smallB g = true) (hh : h.length = m.places.length) (hhs : smallB h = true) : kindF (growM m g h) = 0 := by
 obtain ⟨hc, hk6⟩ := kind_six hk
 obtain ⟨c1, c2, c3, c4, c5, c6⟩ := checkF_zero hc
 have hst : 1 <= m.states.length := by
  unfold sizedB betweenB at c2
  simp only [Bool.and_eq_true, decide_eq_true_eq] at c2
  omega
 have e2 : sizedB (growM m g h) = true := by
  have hl : (growM m g h).rules.length = m.rules.length + 2 := by unfold growM; simp
  unfold sizedB at c2 ⊢
  simp only [Bool.and_eq_true, decide_eq_true_eq] at c2 ⊢
  obtain ⟨⟨⟨⟨⟨a1, _⟩, a3⟩, a4⟩, a5⟩, a6⟩ := c2
  exact ⟨⟨⟨⟨⟨a1, by rw [hl]; omega⟩, a3⟩, a4⟩, a5⟩, a6⟩
 have e4 : namesB (namesOf (growM m g h)) = true := by
  have : namesOf (growM m g h) = namesOf m ++ [lowNm, highNm] := by
   unfold namesOf
   show m.states ++ m.places ++ m.letters ++ (m.rules ++ [extR lowNm m.places.length g, extR highNm m.places.length h]).map RD.name = _
   rw [List.map_append, <- List.append_assoc]; rfl
  rw [this]; exact names_two c4 hn
 have e5 : ¬ ((growM m g h).rules.any fun r => !rightR (growM m g h) r) = true := by
  rw [List.any_eq_true]
  rintro ⟨r, hr, hb⟩
  have hr : r ∈ m.rules ++ [extR lowNm m.places.length g, extR highNm m.places.length h] := hr
  have ht : rightR (growM m g h) r = true := by
   rcases List.mem_append.1 hr with hr | hr
   ·exact c5 r hr
   ·simp only [List.mem_cons, List.not_mem_nil, or_false] at hr
    rcases hr with rfl | rfl
    ·exact right_ext hk6 hst hg hgs
    ·exact right_ext hk6 hst hh hhs
  rw [ht] at hb; cases hb
 have e1 : betweenB (growM m g h).kind 1 6 = true := c1
 have e3 : rankedB (growM m g h) = true := c3
 have e6 : beginsF (growM m g h) = true := by
  unfold beginsF at c6 ⊢
  rw [if_pos hk6] at c6
  rw [if_pos (show (growM m g h).kind = 6 from hk6)]
  exact c6
 have e : checkF (growM m g h) = 0 := by
  unfold checkF
  rw [e1, e2, e3, e4, e6, if_neg (by simp), if_neg (by simp), if_neg (by simp), if_neg (by simp), if_neg e5, if_neg (by simp)]
 unfold kindF
 rw [e, if_neg (fun h => h rfl), if_neg (fun h => h hk6)]
theorem app_out {np n : Nat} {r : RD} {l : List (Int × List Int)} {s : Int × List Int} (hr : BrR np r) (hg : ∀ p, p < np -> r.give[p]! <= 16) (hl : ∀ p, p < np -> sumB l p <= 16 * n) (h : appB np r l = .ok s) : LowS np (n + 1) s := by
 obtain ⟨_, h2, rfl, _⟩ := app_ok h
 refine ⟨by unfold outB21; simp, fun p hp => ?_⟩
 rw [out_at hp]
 have a := h2 p hp
 have b := hr.lowG p hp
 have c := hg p hp
 have d := hl p hp
 have e := hr.lowN p hp
 omega
theorem der_low {np : Nat} {rs : List RD} (hr : ∀ r ∈ rs, BrR np r /\ ∀ p, p < np -> r.give[p]! <= 16) {n : Nat} {s : Int × List Int} (h : DerB (rs.map (ruBra np)) n s) : LowS np n s := by
 induction h with
 | zero q s hq hp ha =>
  obtain ⟨r, hr', rfl⟩ := List.mem_map.1 hq
  exact app_out (n := 0) (hr r hr').1 (hr r hr').2 (fun p _ => by simp [sumB]) ha
 | one q n t s hq hp _ ha ih =>
  obtain ⟨r, hr', rfl⟩ := List.mem_map.1 hq
  exact app_out (n := n) (hr r hr').1 (hr r hr').2 (fun p hp => by have := ih.2 p hp; simp only [sumB]; omega) ha
 | two q a b t u s hq hp _ _ ha ih1 ih2 =>
  obtain ⟨r, hr', rfl⟩ := List.mem_map.1 hq
  exact app_out (n := a + b) (hr r hr').1 (hr r hr').2 (fun p hp => by have := ih1.2 p hp; have := ih2.2 p hp; simp only [sumB]; omega) ha
theorem app_fine {np : Nat} {r : RD} {l : List (Int × List Int)} (hr : BrR np r) (hg : ∀ p, p < np -> r.give[p]! <= 16) (hl : ∀ p, p < np -> sumB l p <= 1000000) : appB np r l ≠ .limit := fun h => by
 obtain ⟨p, hp, h1⟩ := app_lim h
 have c := hg p hp
 have d := hl p hp
 have e := hr.lowN p hp
 omega
theorem app_more {np : Nat} {r : RD} {l k : List (Int × List Int)} {s : Int × List Int} (hr : BrR np r) (hg : ∀ p, p < np -> r.give[p]! <= 16) (hk : ∀ p, p < np -> sumB k p <= 1000000) (h : LeB np l k) (hs : appB np r l = .ok s) : ∃ t, appB np r k = .ok t /\ s.1 = t.1 /\ ∀ p, p < np -> s.2[p]! <= t.2[p]! := by
 rcases brApp_mono h hs with h | h
 ·exact absurd h (app_fine hr hg hk)
 ·exact h
theorem der_more {np : Nat} {rs : List RD} (hr : ∀ r ∈ rs, BrR np r /\ ∀ p, p < np -> r.give[p]! <= 16) {a b : CV} {u v : Int × List Int} (ha : derE np rs a = .ok u) (hb : derE np rs b = .ok v) (h1 : u.1 = v.1) (huv : ∀ p, p < np -> u.2[p]! <= v.2[p]!) (hv : ∀ p, p < np -> v.2[p]! <= 1000)
  {r : Int} {o : List CV} (ho : ∀ x ∈ o, szC x <= 100) {s : Int × List Int} (hs : derE np rs (.mk r (a :: o)) = .ok s) : ∃ t, derE np rs (.mk r (b :: o)) = .ok t /\ s.1 = t.1 /\ ∀ p, p < np -> s.2[p]! <= t.2[p]! := by
 rw [derE] at hs ⊢
 obtain ⟨k, hk, q1, q2, q3, q4⟩ := ruleE_ok hs
 obtain ⟨u', w, rfl, e1, e2⟩ := ders_cons hk
 rw [ha] at e1
 have e1 : u = u' := by injection e1
 subst e1
 have hm : rs[r.toNat]! ∈ rs := by rw [getElem!_pos rs _ (by omega)]; exact List.getElem_mem _
 have hw : dersE np rs (b :: o) = .ok (v :: w) := by rw [dersE, hb, e2]; rfl
 have hlen := ders_len e2
 have hwl : ∀ y ∈ w, ∀ p, p < np -> y.2[p]! <= 1600 := by
  have key : ∀ (o : List CV) (w : List (Int × List Int)), (∀ x ∈ o, szC x <= 100) -> dersE np rs o = .ok w -> ∀ y ∈ w, ∀ p, p < np -> y.2[p]! <= 1600 := by
   intro o
   induction o with
   | nil => intro w _ h y hy; simp [dersE] at h; subst h; cases hy
   | cons x o ih =>
    intro w ho h y hy p hp
    obtain ⟨c, d, rfl, f1, f2⟩ := ders_cons h
    rcases List.mem_cons.1 hy with rfl | hy
    ·have := (der_low hr (der_of _ x _ (Nat.le_refl _) f1)).2 p hp
     have := ho x (by simp)
     omega
    ·exact ih d (fun x hx => ho x (by simp [hx])) f2 y hy p hp
  exact key o w ho e2
 have hpl := prem_le rs[r.toNat]!
 have hLe : LeB np (u :: w) (v :: w) := by
  refine ⟨h1, huv, ?_⟩
  have : ∀ w : List (Int × List Int), LeB np w w := by
   intro w
   induction w with
   | nil => trivial
   | cons x w ih => exact ⟨rfl, fun _ _ => Int.le_refl _, ih⟩
  exact this w
 have hsum : ∀ p, p < np -> sumB (v :: w) p <= 1000000 := fun p hp => by
  have h2 := hv p hp
  have h3 : w.length <= 1 := by simp only [List.length_cons] at q3; omega
  match w, h3, hwl with
  | [], _, _ => simp only [sumB]; omega
  | [y], _, hwl => have := hwl y (by simp) p hp; simp only [sumB]; omega
  | _ :: _ :: _, h3, _ => simp at h3
 obtain ⟨t, ht, g1, g2⟩ := app_more (hr _ hm).1 (hr _ hm).2 hsum hLe q4
 refine ⟨t, ?_, g1, g2⟩
 rw [hw]
 unfold ruleE
 simp only
 rw [if_neg (by simp only [List.length_cons] at q3 ⊢; omega), ht]
 rfl
set_option maxRecDepth 100000
set_option maxHeartbeats 8000000
def leafLe (p : Int × Int) (a b : Int) : Bool := if p.1 = 1 then decide (a <= b) else a == b
theorem con_belowLeaf (p : Int × Int) (a b : Int) (hp : LeafP p) : Con Tryz.prog 69 [vPT p, kidZ a, kidZ b] [] fun r _ => r = vb (leafLe p a b) := by
 refine Con.intro Tryz.func69 rfl Tryz.ntmps69 Tryz.results69 (by kernel_rfl) (by simp) 0 (by simp) ?_
 obtain ⟨k, z⟩ := p
 rcases hp with hp | ⟨rfl, h1, h2⟩
 ·cases hp
  simp only [go_sem, leafLe, if_true]
 ·have e : leafLe (2, z) a b = (a == b) := rfl
  simp only [go_sem, e]
def cfgLe (s : Nat) (v : List Int) (s' : Nat) (v' : List Int) : Bool := (s == s') && (List.range v.length).all fun i => decide (v[i]! <= v'[i]!)
def atL (s : Nat) (v : List Int) (i : Nat) : Int := if i = 0 then (s : Int) else v[i - 1]!
theorem getK {s : Nat} {v : List Int} {i : Nat} (h : i < v.length + 1) : (kidZ s :: v.map kidZ)[i]? = some (kidZ (atL s v i)) := by
 unfold atL
 cases i with
 | zero => rfl
 | succ i =>
  rw [List.getElem?_cons_succ, List.getElem?_map, List.getElem?_eq_getElem (by omega), if_neg (by omega), Nat.add_sub_cancel, getElem!_pos v i (by omega)]; rfl
theorem leaf_at {ns np s s' i : Nat} {v v' : List Int} (h : i < np + 1) : leafLe (partsP ns np)[i]! (atL s v i) (atL s' v' i) = if i = 0 then (s == s') else decide (v[i - 1]! <= v'[i - 1]!) := by
 rw [parts_at ns np h]
 unfold leafLe atL
 by_cases h0 : i = 0
 ·rw [if_pos h0, if_pos h0, if_pos h0, if_pos h0, if_neg (show ¬ ((2 : Int), (ns : Int)).1 = 1 from (by decide : ¬ (2 : Int) = 1))]
  by_cases e : s = s'
  ·subst e; simp
  ·rw [beq_eq_false_iff_ne.2 (by omega : (s : Int) ≠ s'), beq_eq_false_iff_ne.2 e]
 ·rw [if_neg h0, if_neg h0, if_neg h0, if_neg h0, if_pos rfl]
theorem cfgLe_bad {ns np s s' i : Nat} {v v' : List Int} (hv : v.length = np) (h : i < np + 1) (hb : leafLe (partsP ns np)[i]! (atL s v i) (atL s' v' i) = false) : cfgLe s v s' v' = false := by
 rw [leaf_at h] at hb
 unfold cfgLe
 split at hb
 ·rw [hb]; rfl
 ·rw [Bool.and_eq_false_iff]
  right
  rw [List.all_eq_false]
  exact ⟨i - 1, List.mem_range.2 (by omega), by rw [hb]; simp⟩
theorem cfgLe_ok {ns np s s' : Nat} {v v' : List Int} (hv : v.length = np) (hb : ∀ j, j < np + 1 -> leafLe (partsP ns np)[j]! (atL s v j) (atL s' v' j) = true) : cfgLe s v s' v' = true := by
 unfold cfgLe
 rw [Bool.and_eq_true, List.all_eq_true]
 refine ⟨?_, fun i hi => ?_⟩
 ·have := hb 0 (by omega)
  rw [leaf_at (by omega), if_pos rfl] at this; exact this
 ·have h1 := List.mem_range.1 hi
  have := hb (i + 1) (by omega)
  rw [leaf_at (by omega), if_neg (by omega)] at this; exact this
theorem con_belowFlat (ns np : Nat) (s s' : Nat) (v v' : List Int) (h1 : 1 <= ns) (h2 : ns <= 16) (hv : v.length = np) (hv' : v'.length = np) (h3 : np <= 7) :
  Con Tryz.prog 69 [flatT 0 (partsP ns np), cfgO 0 s v, cfgO 0 s' v'] [] fun r _ => r = vb (cfgLe s v s' v') := by
 refine Con.intro Tryz.func69 rfl Tryz.ntmps69 Tryz.results69 (by kernel_rfl) (by simp) 0 (by simp) ?_
 have hpl := parts_len ns np
 have hpos : ∀ w : List Int, w.length = np -> ∀ i : Nat, i < np + 1 -> (i : Int) < (w.length : Int) + 1 := fun w hw i hi => by omega
 simp only [go_sem]
 refine LoopK.intro (fun i : Nat => ⟨166, [(3, .pb 0 0), (4, .pb 1 0), (5, .pb 2 0), (7, vi i)], [[vi 3, vi 0, .nil, .sl 0 4 ((partsP ns np).map vPT)], [vi 0, .sl 0 2 (kidZ s :: v.map kidZ)], [vi 0, .sl 0 2 (kidZ s' :: v'.map kidZ)]]⟩)
  (fun i => np + 1 - i) (fun i => i <= np + 1 /\ ∀ j, j < i -> leafLe (partsP ns np)[j]! (atL s v j) (atL s' v' j) = true) 0 ⟨by omega, fun j hj => by omega⟩ ?_ ?_
 ·simp only [go_sem]
  all_goals exact leB_self _
 rintro i ⟨hi, hb⟩
 by_cases hlt : i < np + 1
 ·have hip : i < (partsP ns np).length := by omega
  have hg2 := getPT hip
  have ga := getK (s := s) (v := v) (i := i) (by omega)
  have gb := getK (s := s') (v := v') (i := i) (by omega)
  have q1 : (i : Int) < (v.length : Int) + 1 := by omega
  have q2 : (i : Int) < (v'.length : Int) + 1 := by omega
  have hw : IntKind.i64.wrap (i + 1) = i + 1 := wrap_in (by omega) (by omega)
  have hle := con_belowLeaf (partsP ns np)[i]! (atL s v i) (atL s' v' i) (parts_leaf h1 h2 _ (mem_bangI hip))
  have hbad := fun hf => cfgLe_bad (ns := ns) (s := s) (s' := s') (v := v) (v' := v') hv hlt hf
  have hgood : leafLe (partsP ns np)[i]! (atL s v i) (atL s' v' i) = true -> ∀ j, j < i + 1 -> leafLe (partsP ns np)[j]! (atL s v j) (atL s' v' j) = true := fun ht j hj => by
   by_cases hji : j = i
   ·subst hji; exact ht
   ·exact hb j (by omega)
  generalize atL s v i = a at ga hle hbad hgood
  generalize atL s' v' i = b at gb hle hbad hgood
  have ga' : (AV.ag [.sc (.int .i64 s), .sl 0 2 []] :: v.map kidZ)[i]? = some (AV.ag [.sc (.int .i64 a), .sl 0 2 []]) := ga
  have gb' : (AV.ag [.sc (.int .i64 s'), .sl 0 2 []] :: v'.map kidZ)[i]? = some (AV.ag [.sc (.int .i64 b), .sl 0 2 []]) := gb
  simp only [go_sem, hip]
  refine DrawK.walk 16 mixed (by kernel_rfl) ?_
  simp only [go_sem, hip, hg2, ga', gb', q1, q2]
  refine CallY.mk hle (by simp only [go_sem]) (by simp only [go_sem]) (.inl (by simp only [go_sem])) ?_
  cases hr : leafLe (partsP ns np)[i]! a b
  case false =>
   simp only [go_sem, hbad hr]
  simp only [go_sem, hw]
  refine roundK.intro (i + 1) ⟨by omega, hgood hr⟩ (by omega) ?_
  simp only [go_sem]
 ·have e : i = np + 1 := by omega
  subst e
  have hn : ¬ ((np : Int) + 1 < ((partsP ns np).length : Int)) := by omega
  have hok := cfgLe_ok (ns := ns) (s := s) (s' := s') (v := v) (v' := v') hv hb
  simp only [go_sem, hn, hok]
theorem con_rLeq (ns np : Nat) (s s' : Nat) (v v' : List Int) (h1 : 1 <= ns) (h2 : ns <= 16) (h3 : np <= 7) (hc : confB ns np (cfgC s v) = true) (hc' : confB ns np (cfgC s' v') = true) (hv : v.length = np) (hv' : v'.length = np) :
  Con Tryz.prog 30 [flatT 0 (partsP ns np), cfgO 0 s v, cfgO 0 s' v'] [] fun r _ => r = vb (cfgLe s v s' v') := by
 refine Con.intro Tryz.func30 rfl Tryz.ntmps30 Tryz.results30 (by kernel_rfl) (by simp) 0 (by simp) ?_
 have e1 := con_rvalid ns np (cfgC s v) h1 h2 h3 hc
 have e2 := con_rvalid ns np (cfgC s' v') h1 h2 h3 hc'
 rw [cfgZ_eq] at e1 e2
 simp only [go_sem]
 refine CallU.free e1 (by simp only [go_sem]) (by simp only [go_sem]) ?_
 rintro r bx rfl
 simp only [go_sem]
 refine CallU.free e2 (by simp only [go_sem]) (by simp only [go_sem]) ?_
 rintro r bx rfl
 simp only [go_sem]
 refine CallU.free (con_belowFlat ns np s s' v v' h1 h2 hv hv' h3) (by simp only [go_sem]) (by simp only [go_sem]) ?_
 rintro r bx rfl
 simp only [go_sem]
theorem con_rType6 (m : MD) (hl : LenM m) (hk : kindF m = 0) : Con Tryz.prog 29 [vM m] [] fun r _ => r = .tup [flatT 2 (partsP m.states.length m.places.length), vi 0] := by
 have hp := (bra_of hk).places
 have hc := Six.con_rCheck6 m hl (kind_six hk).2
 rw [(kind_six hk).1] at hc
 have ht := con_rtypeOf16 m (by omega) (.inr (kind_six hk).2)
 refine Con.intro Tryz.func29 rfl Tryz.ntmps29 Tryz.results29 (by kernel_rfl) (by simp) 0 (by simp) ?_
 simp only [go_sem, vM, cM, vss]
 refine CallU.free hc (by simp only [go_sem]) (by simp only [go_sem, vM, cM, vss]) ?_
 rintro r bx rfl
 simp only [go_sem]
 refine CallU.free ht (by simp only [go_sem]) (by simp only [go_sem, vM, cM, vss]) ?_
 rintro r bx rfl
 simp only [go_sem]
theorem val_cfg {s : Int × List Int} (h : 0 <= s.1) : valB s = cfgC s.1.toNat s.2 := by
 unfold valB cfgC
 rw [Int.toNat_of_nonneg h]
theorem val_conf {ns np : Nat} {s : Int × List Int} (h0 : 0 <= s.1) (h1 : s.1 < ns) (hl : s.2.length = np) (hs : ∀ x ∈ s.2, 0 <= x /\ x <= 1048576) : confB ns np (valB s) = true := by
 unfold valB confB
 simp only [Bool.and_eq_true, beq_iff_eq, decide_eq_true_eq, List.length_map, List.all_eq_true]
 refine ⟨⟨⟨⟨⟨trivial, h0⟩, h1⟩, rfl⟩, hl⟩, fun x hx => ?_⟩
 obtain ⟨n, hn, rfl⟩ := List.mem_map.1 hx
 exact ⟨⟨(hs n hn).1, (hs n hn).2⟩, rfl⟩
theorem con_leq21 (ns np : Nat) (s t : Int × List Int) (h1 : 1 <= ns) (h2 : ns <= 16) (h3 : np <= 7) (hs : 0 <= s.1 /\ s.1 < ns) (he : s.1 = t.1) (hsl : s.2.length = np) (htl : t.2.length = np) (hsb : ∀ x ∈ s.2, 0 <= x /\ x <= 1048576) (htb : ∀ x ∈ t.2, 0 <= x /\ x <= 1048576) (hle : ∀ p, p < np -> s.2[p]! <= t.2[p]!) :
  Con Tryz.prog 30 [flatT 0 (partsP ns np), vV (valB s), vV (valB t)] [] fun r _ => r = vb true := by
 have e1 := val_cfg (s := s) hs.1
 have e2 := val_cfg (s := t) (by omega)
 have c1 := val_conf (ns := ns) hs.1 hs.2 hsl hsb
 have c2 := val_conf (ns := ns) (s := t) (by omega) (by omega) htl htb
 rw [e1] at c1 ⊢
 rw [e2] at c2 ⊢
 have := con_rLeq ns np s.1.toNat t.1.toNat s.2 t.2 h1 h2 h3 c1 c2 hsl htl
 rw [cfgZ_eq, cfgZ_eq]
 have hc : cfgLe s.1.toNat s.2 t.1.toNat t.2 = true := by
  unfold cfgLe
  rw [he, beq_self_eq_true, Bool.true_and, List.all_eq_true]
  intro p hp
  exact decide_eq_true (hle p (by rw [<- hsl]; exact List.mem_range.1 hp))
 rw [hc] at this
 exact this
def hiS (l : List Int) (s : DS) : Nat -> DS
 | 0 => s
 | i + 1 => nextS l (hiS l s i) 3
def hiV (l : List Int) (s : DS) (g : List Int) : Nat -> List Int
 | 0 => []
 | i + 1 => hiV l s g i ++ [g[i]! + nextV l (hiS l s i) 3]
theorem hiS_dk {l : List Int} {s : DS} (h : Dk l s) : ∀ i, Dk l (hiS l s i)
 | 0 => h
 | i + 1 => nextS_dk (hiS_dk h i)
theorem hiV_len {l : List Int} {s : DS} {g : List Int} : ∀ i, (hiV l s g i).length = i
 | 0 => rfl
 | i + 1 => by rw [hiV, List.length_append, hiV_len i]; rfl
theorem hiV_at {l : List Int} {s : DS} {g : List Int} : ∀ {i p : Nat}, p < i -> (hiV l s g i)[p]! = g[p]! + nextV l (hiS l s p) 3
 | i + 1, p, h => by
  rw [hiV, getElem!_pos _ p (by rw [List.length_append, hiV_len]; simp; omega)]
  by_cases hp : p < i
  ·rw [List.getElem_append_left (by rw [hiV_len]; exact hp), <- getElem!_pos (hiV l s g i) p (by rw [hiV_len]; exact hp)]
   exact hiV_at hp
  ·obtain rfl : p = i := by omega
   rw [List.getElem_append_right (by rw [hiV_len]; exact Nat.le_refl _)]
   simp [hiV_len]
theorem hiV_low {l : List Int} {s : DS} {g : List Int} {i p : Nat} (h : p < i) : g[p]! <= (hiV l s g i)[p]! /\ (hiV l s g i)[p]! <= g[p]! + 2 := by
 rw [hiV_at h]
 have := nextV_lt (l := l) (s := hiS l s p) (n := 3) (by omega)
 omega
theorem small_of {k : List Int} {n : Nat} (hl : k.length = n) (h : ∀ p, p < n -> 0 <= k[p]! /\ k[p]! <= 16) : smallB k = true := by
 unfold smallB
 rw [List.all_eq_true]
 intro x hx
 obtain ⟨p, hp, rfl⟩ := List.getElem_of_mem hx
 have := h p (by omega)
 rw [getElem!_pos k p hp] at this
 unfold betweenB
 rw [decide_eq_true this.1, decide_eq_true (by omega)]; rfl
theorem dealt_two {ns np nl : Nat} {ra : List Int} {lv ag : Int} {rules : List RD} {st : CV} (h : DealtG 6 ns np nl ra lv ag rules st) : ∀ s ∈ namesOf (dealtG 6 ns np nl ra lv ag rules st), s.size <= 2 := by
 have key : ∀ (a : ByteArray) (n : Nat), a.size = 1 -> ∀ s ∈ nmL a n, s.size <= 2 := fun a n ha s hs => by
  obtain ⟨i, _, rfl⟩ := List.mem_map.1 hs
  have e : (nm1 a i).size = a.size + 1 := by unfold nm1; rw [ByteArray.size_append]; rfl
  omega
 have e : namesOf (dealtG 6 ns np nl ra lv ag rules st) = nmL qB ns ++ nmL (plB 6) np ++ nmL lB nl ++ rules.map RD.name := rfl
 rw [e]
 intro s hs
 rcases List.mem_append.1 hs with hs | hs
 ·rcases List.mem_append.1 hs with hs | hs
  ·rcases List.mem_append.1 hs with hs | hs
   ·exact key qB _ rfl s hs
   ·exact key (plB 6) _ (by unfold plB; rw [if_neg (by omega)]; rfl) s hs
  ·exact key lB _ rfl s hs
 ·rw [h.names] at hs
  obtain ⟨i, _, rfl⟩ := List.mem_map.1 hs
  have e : (nm1 rB (rules.length - i)).size = rB.size + 1 := by unfold nm1; rw [ByteArray.size_append]; rfl
  have : rB.size = 1 := rfl
  omega
theorem dealt_few {ns np nl : Nat} {ra : List Int} {lv ag : Int} {rules : List RD} {st : CV} (h : DealtG 6 ns np nl ra lv ag rules st) : (namesOf (dealtG 6 ns np nl ra lv ag rules st)).length <= 100 := by
 have h1 := h.num.states; have h2 := h.num.few; have h3 := h.few
 have e : namesOf (dealtG 6 ns np nl ra lv ag rules st) = nmL qB ns ++ nmL (plB 6) np ++ nmL lB nl ++ rules.map RD.name := rfl
 rw [e]
 simp only [List.length_append, List.length_map, nmL_len]
 omega
theorem len_grow {m : MD} {g h : List Int} (hl : LenM m) (hn : (namesOf m).length <= 100) (hp : m.places.length <= 1000) (hg : g.length = m.places.length) (hh : h.length = m.places.length) : LenM (growM m g h) := by
 have e : namesOf (growM m g h) = namesOf m ++ [lowNm, highNm] := by
  unfold namesOf
  show m.states ++ m.places ++ m.letters ++ (m.rules ++ [extR lowNm m.places.length g, extR highNm m.places.length h]).map RD.name = _
  rw [List.map_append, <- List.append_assoc]; rfl
 have key : ∀ nm k, k.length = m.places.length -> LenR (extR nm m.places.length k) := fun nm k hk =>
  ⟨⟨by show (List.replicate _ _).length <= _; rw [List.length_replicate]; omega, by show k.length <= _; omega, by show (0 : Nat) <= _; omega, by show (0 : Nat) <= _; omega, by show (0 : Nat) <= _; omega, by show (0 : Nat) <= _; omega, by show (0 : Nat) <= _; omega⟩, by show (0 : Nat) <= _; omega, by show (0 : Nat) <= _; omega⟩
 refine ⟨by rw [e, List.length_append]; simp; omega, fun s hs => ?_, hl.ranks, fun r hr => ?_, hl.start⟩
 ·rw [e] at hs
  rcases List.mem_append.1 hs with hs | hs
  ·exact hl.sizes s hs
  ·simp only [List.mem_cons, List.not_mem_nil, or_false] at hs
   rcases hs with rfl | rfl
   ·have : lowNm.size = 3 := rfl
    omega
   ·have : highNm.size = 4 := rfl
    omega
 ·have hr : r ∈ m.rules ++ [extR lowNm m.places.length g, extR highNm m.places.length h] := hr
  rcases List.mem_append.1 hr with hr | hr
  ·exact hl.rules r hr
  ·simp only [List.mem_cons, List.not_mem_nil, or_false] at hr
   rcases hr with rfl | rfl
   ·exact key _ _ hg
   ·exact key _ _ hh
theorem grow_len (m : MD) (g h : List Int) : (growM m g h).rules.length = m.rules.length + 2 := by unfold growM; simp
theorem grow_low (m : MD) (g h : List Int) : (growM m g h).rules[m.rules.length]! = extR lowNm m.places.length g := by
 unfold growM
 show (m.rules ++ [extR lowNm m.places.length g, extR highNm m.places.length h])[m.rules.length]! = _
 rw [getElem!_pos _ _ (by simp)]; simp
theorem grow_high (m : MD) (g h : List Int) : (growM m g h).rules[m.rules.length + 1]! = extR highNm m.places.length h := by
 unfold growM
 show (m.rules ++ [extR lowNm m.places.length g, extR highNm m.places.length h])[m.rules.length + 1]! = _
 rw [getElem!_pos _ _ (by simp)]
 rw [List.getElem_append_right (by omega)]; simp
theorem der_ext {np : Nat} {rs : List RD} {k : Nat} {nm : ByteArray} {g : List Int} (hk : k < rs.length) (hr : rs[k]! = extR nm np g) (_hg : g.length = np) (hs : ∀ p, p < np -> 0 <= g[p]! /\ g[p]! <= 16) : ∃ s, derE np rs (.mk (k : Nat) []) = .ok s /\ s.1 = 0 /\ ∀ p, p < np -> s.2[p]! = g[p]! := by
 have ha : appB np (extR nm np g) [] = .ok (0, outB21 np (extR nm np g) []) := by
  unfold appB
  rw [if_neg (by simp [premB, extR]), if_neg, if_neg]
  ·rfl
  ·rw [List.any_eq_true]
   rintro ⟨x, hx, hd⟩
   unfold outB21 at hx
   obtain ⟨p, hp, rfl⟩ := List.mem_map.1 hx
   have hp := List.mem_range.1 hp
   have h1 := hs p hp
   have h2 : (extR nm np g).need[p]! = 0 := by show (List.replicate np (0 : Int))[p]! = 0; rw [getElem!_pos _ p (by simpa using hp)]; simp
   have h3 : (extR nm np g).give[p]! = g[p]! := rfl
   rw [h2, h3] at hd
   have := of_decide_eq_true hd
   simp only [sumB] at this
   omega
  ·rw [List.any_eq_true]
   rintro ⟨p, hp, hd⟩
   have hp := List.mem_range.1 hp
   have h2 : (extR nm np g).need[p]! = 0 := by show (List.replicate np (0 : Int))[p]! = 0; rw [getElem!_pos _ p (by simpa using hp)]; simp
   rw [h2] at hd
   have := of_decide_eq_true hd
   simp only [sumB] at this
   omega
 refine ⟨(0, outB21 np (extR nm np g) []), ?_, rfl, fun p hp => ?_⟩
 ·rw [derE, dersE]
  unfold ruleE
  simp only [Int.toNat_natCast]
  rw [hr, if_neg (by simp [premB, extR]; omega), ha]; rfl
 ·unfold outB21
  rw [getElem!_pos _ p (by simpa using hp)]
  have h2 : (extR nm np g).need[p]! = 0 := by show (List.replicate np (0 : Int))[p]! = 0; rw [getElem!_pos _ p (by simpa using hp)]; simp
  have h3 : (extR nm np g).give[p]! = g[p]! := rfl
  simp only [List.getElem_map, List.getElem_range, h2, h3, sumB]
  omega
theorem dst_in {m : MD} {r : RD} (h : rightR m r = true) : 0 <= r.dst /\ r.dst < m.states.length := by
 unfold rightR endsR at h
 simp only [Bool.and_eq_true] at h
 have := h.1.1.1
 unfold indexB at this
 simp only [Bool.and_eq_true, decide_eq_true_eq] at this
 exact this
theorem grow_law {m : MD} {g k : List Int} (hk : kindF (growM m g k) = 0) (hgl : g.length = m.places.length) (hkl : k.length = m.places.length)
  (hg : ∀ p, p < m.places.length -> 0 <= g[p]! /\ g[p]! <= 3) (hgk : ∀ p, p < m.places.length -> g[p]! <= k[p]! /\ k[p]! <= g[p]! + 2)
  {o : List CV} (ho : ∀ x ∈ o, szC x <= 3) {q : Int} {c : CV} (h : deriveF (growM m g k) (.mk q (.mk (m.rules.length : Nat) [] :: o)) = .ok c) :
  ∃ s t, c = valB s /\ deriveF (growM m g k) (.mk q (.mk ((m.rules.length + 1 : Nat) : Int) [] :: o)) = .ok (valB t) /\ s.1 = t.1 /\ (∀ p, p < m.places.length -> s.2[p]! <= t.2[p]!) /\ SmB m.places.length s /\ SmB m.places.length t /\ 0 <= s.1 /\ s.1 < m.states.length := by
 obtain ⟨hc, hk6⟩ := kind_six hk
 have hright := (checkF_zero hc).2.2.2.2.1
 have hbr := (bra_of hk).rules
 have hlow : ∀ r ∈ (growM m g k).rules, BrR m.places.length r /\ ∀ p, p < m.places.length -> r.give[p]! <= 16 := fun r hr =>
  ⟨hbr r hr, fun p hp => ((right_six hk6 (hright r hr)).2 p hp).2⟩
 have hlen := grow_len m g k
 unfold deriveF at h ⊢
 rw [if_neg (fun h => h hk)] at h ⊢
 split at h
 ·cases h
 rename_i hcn
 have hsz : cntC (.mk q (.mk ((m.rules.length + 1 : Nat) : Int) [] :: o)) 12 = cntC (.mk q (.mk (m.rules.length : Nat) [] :: o)) 12 := by
  unfold cntC
  simp only [szC, szCs]
 rw [hsz, if_neg hcn]
 have hpl : (growM m g k).places = m.places := rfl
 rw [hpl] at h ⊢
 cases hd : derE m.places.length (growM m g k).rules (.mk q (.mk (m.rules.length : Nat) [] :: o)) with
 | error e => rw [hd] at h; cases h
 | ok s =>
  rw [hd] at h
  have hcs : c = valB s := by injection h with h; exact h.symm
  obtain ⟨u, hu, hu1, hu2⟩ := der_ext (np := m.places.length) (rs := (growM m g k).rules) (k := m.rules.length) (by omega) (grow_low m g k) hgl fun p hp => by have := hg p hp; omega
  obtain ⟨v, hv, hv1, hv2⟩ := der_ext (np := m.places.length) (rs := (growM m g k).rules) (k := m.rules.length + 1) (by omega) (grow_high m g k) hkl fun p hp => by have := hg p hp; have := hgk p hp; omega
  obtain ⟨t, ht, ht1, ht2⟩ := der_more hlow hu hv (by rw [hu1, hv1]) (fun p hp => by rw [hu2 p hp, hv2 p hp]; exact (hgk p hp).1) (fun p hp => by rw [hv2 p hp]; have := hg p hp; have := hgk p hp; omega) (o := o) (fun x hx => by have := ho x hx; omega) hd
  refine ⟨s, t, hcs, by rw [ht]; rfl, ht1, ht2, derE_sm hbr hd, derE_sm hbr ht, ?_⟩
  rw [derE] at hd
  obtain ⟨w, _, q1, q2, _, q4⟩ := ruleE_ok hd
  obtain ⟨_, _, rfl, _⟩ := app_ok q4
  exact dst_in (m := growM m g k) (hright _ (by rw [getElem!_pos (growM m g k).rules _ (by omega)]; exact List.getElem_mem _))
def kidA (n : Int) : AV := .ag [vi n, .nil]
theorem kids_le (q n : Int) (o : List CV) : leV (.ag [vi q, .sl 0 2 (kidA n :: o.map vV)]) (vV (.mk q (.mk n [] :: o))) := by
 rw [vV_eq]
 refine leV_ag ⟨leV_refl _, ?_, trivial⟩
 have e : (CV.mk q (.mk n [] :: o)).kids.map vV = .ag [vi n, .sl 0 2 []] :: o.map vV := by
  show (CV.mk n [] :: o).map vV = _
  rw [List.map_cons, vV_eq]; rfl
 rw [e]
 have pws : ∀ l : List AV, PW Sub l l := fun l => by
  induction l with
  | nil => exact PW.nil _
  | cons x l ih => exact PW.cons (Sub.refl x) ih
 refine leV_slE (by simp) (fun y hy => ?_) ?_
 ·rcases List.mem_cons.1 hy with rfl | hy
  ·rfl
  ·obtain ⟨x, _, rfl⟩ := List.mem_map.1 hy
   rw [vV_eq]; rfl
 ·exact PW.append (xs := [vi n, .nil]) (ys := [vi n, .sl 0 2 []]) (PW.cons (Sub.refl _) (PW.cons (Sub.nil 2) (PW.nil _))) (pws _)
end Go.AM
namespace Go.AM
open Go.ChangeShapes Go.WideShapes Go.ChangeAt Go.RowKit
section
variable {H : Type} {enc : TypeId × Value -> H} {P : Program} {w : World} {base : Nat} {spare : Nat -> Bool} {held : Bool}
end
end Go.AM
namespace Go.AM
open Go Go.Proofs Go.RowKit
set_option maxRecDepth 100000
set_option maxHeartbeats 8000000
def extA (nm : ByteArray) (np : Nat) (g : AV) : AV := .ag [vStr nm, vi (-1), vi 0, .sl 0 1 (List.replicate np (vi 0)), g, .nil, vi 0, vi 0, vi 0, .nil, .nil, .nil, .nil, vi (-1)]
theorem grow_ok {q : Int} {n : Nat} {o : List CV} (ho : ∀ x ∈ o, szC x <= 3) (hol : o.length <= 1) : (CV.mk q (.mk n [] :: o)).Ok :=
 (sz_slim 5 _ (by
  match o, ho, hol with
  | [], _, _ => simp only [szC, szCs]; omega
  | [x], ho, _ => have := ho x (by simp); simp only [szC, szCs]; omega
  | _ :: _ :: _, _, h => simp at h) (by omega)).ok
def growR (m : MD) (R : List AV) : AV := .ag [vi m.kind, .sl 0 1 (m.states.map vStr), .sl 0 1 (m.places.map vStr), .sl 0 1 (m.letters.map vStr), vs 0 m.ranks, vi m.levels, vi m.age, .sl 0 14 R, vi m.start.n, .sl 0 2 (m.start.kids.map vV)]
def growA (m : MD) (g h : List Int) : AV := .ag [vi m.kind, .sl 0 1 (m.states.map vStr), .sl 0 1 (m.places.map vStr), .sl 0 1 (m.letters.map vStr), vs 0 m.ranks, vi m.levels, vi m.age, .sl 0 14 (m.rules.map vRule ++ [extA lowNm m.places.length (vs 0 g)] ++ [extA highNm m.places.length (vs 0 h)]), vi m.start.n, .sl 0 2 (m.start.kids.map vV)]
theorem ext_pw (nm : ByteArray) (np : Nat) (g : List Int) : PW Sub (extA nm np (vs 0 g)).cells (vRule (extR nm np g)).cells := by
 have e1 : Sub .nil (vs 0 []) := Sub.nil 1
 have e3 : Sub .nil (.sl 0 3 (([] : List (Int × Int × Int)).map vTake)) := Sub.nil 3
 have e : vs 0 (List.replicate np 0) = .sl 0 1 (List.replicate np (vi 0)) := by unfold vs; rw [List.map_replicate]
 show PW Sub [vStr nm, vi (-1), vi 0, .sl 0 1 (List.replicate np (vi 0)), vs 0 g, .nil, vi 0, vi 0, vi 0, .nil, .nil, .nil, .nil, vi (-1)] [vStr nm, vi (-1), vi 0, vs 0 (List.replicate np 0), vs 0 g, vs 0 [], vi 0, vi 0, vi 0, vs 0 [], vs 0 [], .sl 0 3 (([] : List (Int × Int × Int)).map vTake), vs 0 [], vi (-1)]
 rw [e]
 exact PW.cons (Sub.refl _) (PW.cons (Sub.refl _) (PW.cons (Sub.refl _) (PW.cons (Sub.refl _) (PW.cons (Sub.refl _) (PW.cons e1 (PW.cons (Sub.refl _) (PW.cons (Sub.refl _) (PW.cons (Sub.refl _) (PW.cons e1 (PW.cons e1 (PW.cons e3 (PW.cons e1 (PW.cons (Sub.refl _) (PW.nil _))))))))))))))
theorem pw_self : ∀ l : List AV, PW Sub l l
 | [] => PW.nil _
 | x :: l => PW.cons (Sub.refl x) (pw_self l)
theorem pw_cells : ∀ l : List AV, PW (fun x y => PW Sub x.cells y.cells) l l
 | [] => PW.nil _
 | _ :: l => PW.cons (pw_self _) (pw_cells l)
theorem growA_le (m : MD) (g h : List Int) : leV (growA m g h) (vM (growM m g h)) := by
 unfold growA vM cM
 refine leV_ag ⟨leV_refl _, leV_refl _, leV_refl _, leV_refl _, leV_refl _, leV_refl _, leV_refl _, ?_, leV_refl _, leV_refl _, trivial⟩
 have e : (growM m g h).rules.map vRule = m.rules.map vRule ++ [vRule (extR lowNm m.places.length g)] ++ [vRule (extR highNm m.places.length h)] := by
  unfold growM
  show (m.rules ++ [extR lowNm m.places.length g, extR highNm m.places.length h]).map vRule = _
  rw [List.map_append, List.append_assoc]; rfl
 rw [e]
 refine leV_slE (by simp only [List.length_append, List.length_cons, List.length_nil]) (fun y hy => ?_) ?_
 ·rw [<- e] at hy
  obtain ⟨x, _, rfl⟩ := List.mem_map.1 hy; rfl
 ·exact PW.flatMap (PW.append (PW.append (pw_cells _) (PW.cons (ext_pw _ _ _) (PW.nil _))) (PW.cons (ext_pw _ _ _) (PW.nil _)))
theorem get_last {l : List AV} {n : Nat} (h : l.length = n) (x : AV) : (l ++ [x])[n]? = some x := by subst h; simp
def growTree : Tr := .front 0 (.front 5 (.alt (.one 1 (.alt (.one 2 (.alt (.one 3 (.alt (.one 4 (.front 10 (.alt (.one 6 (.one 7 (.one 8 (.one 9 (.one 11 (.front 12 (.one 13 .done))))))) (.one 7 (.alt (.one 6 (.one 8 (.one 9 (.one 11 (.front 12 (.one 13 .done)))))) (.one 8 (.one 6 (.one 9 (.one 11 (.front 12 (.one 13 .done))))))))))) (.alt (.one 6 (.alt (.one 4 (.front 10 (.one 7 (.one 8 (.one 9 (.one 11 (.front 12 (.one 13 .done)))))))) (.one 7 (.alt (.one 4 (.front 10 (.one 8 (.one 9 (.one 11 (.front 12 (.one 13 .done))))))) (.one 8 (.one 4 (.front 10 (.one 9 (.one 11 (.front 12 (.one 13 .done))))))))))) (.one 7 (.alt (.one 4 (.front 10 (.alt (.one 6 (.one 8 (.one 9 (.one 11 (.front 12 (.one 13 .done)))))) (.one 8 (.one 6 (.one 9 (.one 11 (.front 12 (.one 13 .done))))))))) (.alt (.one 6 (.alt (.one 4 (.front 10 (.one 8 (.one 9 (.one 11 (.front 12 (.one 13 .done))))))) (.one 8 (.one 4 (.front 10 (.one 9 (.one 11 (.front 12 (.one 13 .done))))))))) (.one 8 (.alt (.one 4 (.front 10 (.one 6 (.one 9 (.one 11 (.front 12 (.one 13 .done))))))) (.one 6 (.one 4 (.front 10 (.one 9 (.one 11 (.front 12 (.one 13 .done))))))))))))))) (.alt (.one 6 (.alt (.one 3 (.alt (.one 4 (.front 10 (.one 7 (.one 8 (.one 9 (.one 11 (.front 12 (.one 13 .done)))))))) (.one 7 (.alt (.one 4 (.front 10 (.one 8 (.one 9 (.one 11 (.front 12 (.one 13 .done))))))) (.one 8 (.one 4 (.front 10 (.one 9 (.one 11 (.front 12 (.one 13 .done))))))))))) (.one 7 (.alt (.one 3 (.alt (.one 4 (.front 10 (.one 8 (.one 9 (.one 11 (.front 12 (.one 13 .done))))))) (.one 8 (.one 4 (.front 10 (.one 9 (.one 11 (.front 12 (.one 13 .done))))))))) (.one 8 (.one 3 (.one 4 (.front 10 (.one 9 (.one 11 (.front 12 (.one 13 .done)))))))))))) (.one 7 (.alt (.one 3 (.alt (.one 4 (.front 10 (.alt (.one 6 (.one 8 (.one 9 (.one 11 (.front 12 (.one 13 .done)))))) (.one 8 (.one 6 (.one 9 (.one 11 (.front 12 (.one 13 .done))))))))) (.alt (.one 6 (.alt (.one 4 (.front 10 (.one 8 (.one 9 (.one 11 (.front 12 (.one 13 .done))))))) (.one 8 (.one 4 (.front 10 (.one 9 (.one 11 (.front 12 (.one 13 .done))))))))) (.one 8 (.alt (.one 4 (.front 10 (.one 6 (.one 9 (.one 11 (.front 12 (.one 13 .done))))))) (.one 6 (.one 4 (.front 10 (.one 9 (.one 11 (.front 12 (.one 13 .done)))))))))))) (.alt (.one 6 (.alt (.one 3 (.alt (.one 4 (.front 10 (.one 8 (.one 9 (.one 11 (.front 12 (.one 13 .done))))))) (.one 8 (.one 4 (.front 10 (.one 9 (.one 11 (.front 12 (.one 13 .done))))))))) (.one 8 (.one 3 (.one 4 (.front 10 (.one 9 (.one 11 (.front 12 (.one 13 .done)))))))))) (.one 8 (.alt (.one 3 (.alt (.one 4 (.front 10 (.one 6 (.one 9 (.one 11 (.front 12 (.one 13 .done))))))) (.one 6 (.one 4 (.front 10 (.one 9 (.one 11 (.front 12 (.one 13 .done))))))))) (.one 6 (.one 3 (.one 4 (.front 10 (.one 9 (.one 11 (.front 12 (.one 13 .done)))))))))))))))) (.alt (.one 6 (.alt (.one 2 (.alt (.one 3 (.alt (.one 4 (.front 10 (.one 7 (.one 8 (.one 9 (.one 11 (.front 12 (.one 13 .done)))))))) (.one 7 (.alt (.one 4 (.front 10 (.one 8 (.one 9 (.one 11 (.front 12 (.one 13 .done))))))) (.one 8 (.one 4 (.front 10 (.one 9 (.one 11 (.front 12 (.one 13 .done))))))))))) (.one 7 (.alt (.one 3 (.alt (.one 4 (.front 10 (.one 8 (.one 9 (.one 11 (.front 12 (.one 13 .done))))))) (.one 8 (.one 4 (.front 10 (.one 9 (.one 11 (.front 12 (.one 13 .done))))))))) (.one 8 (.one 3 (.one 4 (.front 10 (.one 9 (.one 11 (.front 12 (.one 13 .done)))))))))))) (.one 7 (.alt (.one 2 (.alt (.one 3 (.alt (.one 4 (.front 10 (.one 8 (.one 9 (.one 11 (.front 12 (.one 13 .done))))))) (.one 8 (.one 4 (.front 10 (.one 9 (.one 11 (.front 12 (.one 13 .done))))))))) (.one 8 (.one 3 (.one 4 (.front 10 (.one 9 (.one 11 (.front 12 (.one 13 .done)))))))))) (.one 8 (.one 2 (.one 3 (.one 4 (.front 10 (.one 9 (.one 11 (.front 12 (.one 13 .done))))))))))))) (.one 7 (.alt (.one 2 (.alt (.one 3 (.alt (.one 4 (.front 10 (.alt (.one 6 (.one 8 (.one 9 (.one 11 (.front 12 (.one 13 .done)))))) (.one 8 (.one 6 (.one 9 (.one 11 (.front 12 (.one 13 .done))))))))) (.alt (.one 6 (.alt (.one 4 (.front 10 (.one 8 (.one 9 (.one 11 (.front 12 (.one 13 .done))))))) (.one 8 (.one 4 (.front 10 (.one 9 (.one 11 (.front 12 (.one 13 .done))))))))) (.one 8 (.alt (.one 4 (.front 10 (.one 6 (.one 9 (.one 11 (.front 12 (.one 13 .done))))))) (.one 6 (.one 4 (.front 10 (.one 9 (.one 11 (.front 12 (.one 13 .done)))))))))))) (.alt (.one 6 (.alt (.one 3 (.alt (.one 4 (.front 10 (.one 8 (.one 9 (.one 11 (.front 12 (.one 13 .done))))))) (.one 8 (.one 4 (.front 10 (.one 9 (.one 11 (.front 12 (.one 13 .done))))))))) (.one 8 (.one 3 (.one 4 (.front 10 (.one 9 (.one 11 (.front 12 (.one 13 .done)))))))))) (.one 8 (.alt (.one 3 (.alt (.one 4 (.front 10 (.one 6 (.one 9 (.one 11 (.front 12 (.one 13 .done))))))) (.one 6 (.one 4 (.front 10 (.one 9 (.one 11 (.front 12 (.one 13 .done))))))))) (.one 6 (.one 3 (.one 4 (.front 10 (.one 9 (.one 11 (.front 12 (.one 13 .done))))))))))))) (.alt (.one 6 (.alt (.one 2 (.alt (.one 3 (.alt (.one 4 (.front 10 (.one 8 (.one 9 (.one 11 (.front 12 (.one 13 .done))))))) (.one 8 (.one 4 (.front 10 (.one 9 (.one 11 (.front 12 (.one 13 .done))))))))) (.one 8 (.one 3 (.one 4 (.front 10 (.one 9 (.one 11 (.front 12 (.one 13 .done)))))))))) (.one 8 (.one 2 (.one 3 (.one 4 (.front 10 (.one 9 (.one 11 (.front 12 (.one 13 .done))))))))))) (.one 8 (.alt (.one 2 (.alt (.one 3 (.alt (.one 4 (.front 10 (.one 6 (.one 9 (.one 11 (.front 12 (.one 13 .done))))))) (.one 6 (.one 4 (.front 10 (.one 9 (.one 11 (.front 12 (.one 13 .done))))))))) (.one 6 (.one 3 (.one 4 (.front 10 (.one 9 (.one 11 (.front 12 (.one 13 .done)))))))))) (.one 6 (.one 2 (.one 3 (.one 4 (.front 10 (.one 9 (.one 11 (.front 12 (.one 13 .done))))))))))))))))) (.alt (.one 2 (.alt (.one 1 (.alt (.one 3 (.alt (.one 4 (.front 10 (.alt (.one 6 (.one 7 (.one 8 (.one 9 (.one 11 (.front 12 (.one 13 .done))))))) (.one 7 (.alt (.one 6 (.one 8 (.one 9 (.one 11 (.front 12 (.one 13 .done)))))) (.one 8 (.one 6 (.one 9 (.one 11 (.front 12 (.one 13 .done))))))))))) (.alt (.one 6 (.alt (.one 4 (.front 10 (.one 7 (.one 8 (.one 9 (.one 11 (.front 12 (.one 13 .done)))))))) (.one 7 (.alt (.one 4 (.front 10 (.one 8 (.one 9 (.one 11 (.front 12 (.one 13 .done))))))) (.one 8 (.one 4 (.front 10 (.one 9 (.one 11 (.front 12 (.one 13 .done))))))))))) (.one 7 (.alt (.one 4 (.front 10 (.alt (.one 6 (.one 8 (.one 9 (.one 11 (.front 12 (.one 13 .done)))))) (.one 8 (.one 6 (.one 9 (.one 11 (.front 12 (.one 13 .done))))))))) (.alt (.one 6 (.alt (.one 4 (.front 10 (.one 8 (.one 9 (.one 11 (.front 12 (.one 13 .done))))))) (.one 8 (.one 4 (.front 10 (.one 9 (.one 11 (.front 12 (.one 13 .done))))))))) (.one 8 (.alt (.one 4 (.front 10 (.one 6 (.one 9 (.one 11 (.front 12 (.one 13 .done))))))) (.one 6 (.one 4 (.front 10 (.one 9 (.one 11 (.front 12 (.one 13 .done))))))))))))))) (.alt (.one 6 (.alt (.one 3 (.alt (.one 4 (.front 10 (.one 7 (.one 8 (.one 9 (.one 11 (.front 12 (.one 13 .done)))))))) (.one 7 (.alt (.one 4 (.front 10 (.one 8 (.one 9 (.one 11 (.front 12 (.one 13 .done))))))) (.one 8 (.one 4 (.front 10 (.one 9 (.one 11 (.front 12 (.one 13 .done))))))))))) (.one 7 (.alt (.one 3 (.alt (.one 4 (.front 10 (.one 8 (.one 9 (.one 11 (.front 12 (.one 13 .done))))))) (.one 8 (.one 4 (.front 10 (.one 9 (.one 11 (.front 12 (.one 13 .done))))))))) (.one 8 (.one 3 (.one 4 (.front 10 (.one 9 (.one 11 (.front 12 (.one 13 .done)))))))))))) (.one 7 (.alt (.one 3 (.alt (.one 4 (.front 10 (.alt (.one 6 (.one 8 (.one 9 (.one 11 (.front 12 (.one 13 .done)))))) (.one 8 (.one 6 (.one 9 (.one 11 (.front 12 (.one 13 .done))))))))) (.alt (.one 6 (.alt (.one 4 (.front 10 (.one 8 (.one 9 (.one 11 (.front 12 (.one 13 .done))))))) (.one 8 (.one 4 (.front 10 (.one 9 (.one 11 (.front 12 (.one 13 .done))))))))) (.one 8 (.alt (.one 4 (.front 10 (.one 6 (.one 9 (.one 11 (.front 12 (.one 13 .done))))))) (.one 6 (.one 4 (.front 10 (.one 9 (.one 11 (.front 12 (.one 13 .done)))))))))))) (.alt (.one 6 (.alt (.one 3 (.alt (.one 4 (.front 10 (.one 8 (.one 9 (.one 11 (.front 12 (.one 13 .done))))))) (.one 8 (.one 4 (.front 10 (.one 9 (.one 11 (.front 12 (.one 13 .done))))))))) (.one 8 (.one 3 (.one 4 (.front 10 (.one 9 (.one 11 (.front 12 (.one 13 .done)))))))))) (.one 8 (.alt (.one 3 (.alt (.one 4 (.front 10 (.one 6 (.one 9 (.one 11 (.front 12 (.one 13 .done))))))) (.one 6 (.one 4 (.front 10 (.one 9 (.one 11 (.front 12 (.one 13 .done))))))))) (.one 6 (.one 3 (.one 4 (.front 10 (.one 9 (.one 11 (.front 12 (.one 13 .done)))))))))))))))) (.alt (.one 3 (.alt (.one 1 (.alt (.one 4 (.front 10 (.alt (.one 6 (.one 7 (.one 8 (.one 9 (.one 11 (.front 12 (.one 13 .done))))))) (.one 7 (.alt (.one 6 (.one 8 (.one 9 (.one 11 (.front 12 (.one 13 .done)))))) (.one 8 (.one 6 (.one 9 (.one 11 (.front 12 (.one 13 .done))))))))))) (.alt (.one 6 (.alt (.one 4 (.front 10 (.one 7 (.one 8 (.one 9 (.one 11 (.front 12 (.one 13 .done)))))))) (.one 7 (.alt (.one 4 (.front 10 (.one 8 (.one 9 (.one 11 (.front 12 (.one 13 .done))))))) (.one 8 (.one 4 (.front 10 (.one 9 (.one 11 (.front 12 (.one 13 .done))))))))))) (.one 7 (.alt (.one 4 (.front 10 (.alt (.one 6 (.one 8 (.one 9 (.one 11 (.front 12 (.one 13 .done)))))) (.one 8 (.one 6 (.one 9 (.one 11 (.front 12 (.one 13 .done))))))))) (.alt (.one 6 (.alt (.one 4 (.front 10 (.one 8 (.one 9 (.one 11 (.front 12 (.one 13 .done))))))) (.one 8 (.one 4 (.front 10 (.one 9 (.one 11 (.front 12 (.one 13 .done))))))))) (.one 8 (.alt (.one 4 (.front 10 (.one 6 (.one 9 (.one 11 (.front 12 (.one 13 .done))))))) (.one 6 (.one 4 (.front 10 (.one 9 (.one 11 (.front 12 (.one 13 .done))))))))))))))) (.alt (.one 6 (.alt (.one 1 (.alt (.one 4 (.front 10 (.one 7 (.one 8 (.one 9 (.one 11 (.front 12 (.one 13 .done)))))))) (.one 7 (.alt (.one 4 (.front 10 (.one 8 (.one 9 (.one 11 (.front 12 (.one 13 .done))))))) (.one 8 (.one 4 (.front 10 (.one 9 (.one 11 (.front 12 (.one 13 .done))))))))))) (.one 7 (.alt (.one 1 (.alt (.one 4 (.front 10 (.one 8 (.one 9 (.one 11 (.front 12 (.one 13 .done))))))) (.one 8 (.one 4 (.front 10 (.one 9 (.one 11 (.front 12 (.one 13 .done))))))))) (.one 8 (.one 1 (.one 4 (.front 10 (.one 9 (.one 11 (.front 12 (.one 13 .done)))))))))))) (.one 7 (.alt (.one 1 (.alt (.one 4 (.front 10 (.alt (.one 6 (.one 8 (.one 9 (.one 11 (.front 12 (.one 13 .done)))))) (.one 8 (.one 6 (.one 9 (.one 11 (.front 12 (.one 13 .done))))))))) (.alt (.one 6 (.alt (.one 4 (.front 10 (.one 8 (.one 9 (.one 11 (.front 12 (.one 13 .done))))))) (.one 8 (.one 4 (.front 10 (.one 9 (.one 11 (.front 12 (.one 13 .done))))))))) (.one 8 (.alt (.one 4 (.front 10 (.one 6 (.one 9 (.one 11 (.front 12 (.one 13 .done))))))) (.one 6 (.one 4 (.front 10 (.one 9 (.one 11 (.front 12 (.one 13 .done)))))))))))) (.alt (.one 6 (.alt (.one 1 (.alt (.one 4 (.front 10 (.one 8 (.one 9 (.one 11 (.front 12 (.one 13 .done))))))) (.one 8 (.one 4 (.front 10 (.one 9 (.one 11 (.front 12 (.one 13 .done))))))))) (.one 8 (.one 1 (.one 4 (.front 10 (.one 9 (.one 11 (.front 12 (.one 13 .done)))))))))) (.one 8 (.alt (.one 1 (.alt (.one 4 (.front 10 (.one 6 (.one 9 (.one 11 (.front 12 (.one 13 .done))))))) (.one 6 (.one 4 (.front 10 (.one 9 (.one 11 (.front 12 (.one 13 .done))))))))) (.one 6 (.one 1 (.one 4 (.front 10 (.one 9 (.one 11 (.front 12 (.one 13 .done)))))))))))))))) (.alt (.one 6 (.alt (.one 1 (.alt (.one 3 (.alt (.one 4 (.front 10 (.one 7 (.one 8 (.one 9 (.one 11 (.front 12 (.one 13 .done)))))))) (.one 7 (.alt (.one 4 (.front 10 (.one 8 (.one 9 (.one 11 (.front 12 (.one 13 .done))))))) (.one 8 (.one 4 (.front 10 (.one 9 (.one 11 (.front 12 (.one 13 .done))))))))))) (.one 7 (.alt (.one 3 (.alt (.one 4 (.front 10 (.one 8 (.one 9 (.one 11 (.front 12 (.one 13 .done))))))) (.one 8 (.one 4 (.front 10 (.one 9 (.one 11 (.front 12 (.one 13 .done))))))))) (.one 8 (.one 3 (.one 4 (.front 10 (.one 9 (.one 11 (.front 12 (.one 13 .done)))))))))))) (.alt (.one 3 (.alt (.one 1 (.alt (.one 4 (.front 10 (.one 7 (.one 8 (.one 9 (.one 11 (.front 12 (.one 13 .done)))))))) (.one 7 (.alt (.one 4 (.front 10 (.one 8 (.one 9 (.one 11 (.front 12 (.one 13 .done))))))) (.one 8 (.one 4 (.front 10 (.one 9 (.one 11 (.front 12 (.one 13 .done))))))))))) (.one 7 (.alt (.one 1 (.alt (.one 4 (.front 10 (.one 8 (.one 9 (.one 11 (.front 12 (.one 13 .done))))))) (.one 8 (.one 4 (.front 10 (.one 9 (.one 11 (.front 12 (.one 13 .done))))))))) (.one 8 (.one 1 (.one 4 (.front 10 (.one 9 (.one 11 (.front 12 (.one 13 .done)))))))))))) (.one 7 (.alt (.one 1 (.alt (.one 3 (.alt (.one 4 (.front 10 (.one 8 (.one 9 (.one 11 (.front 12 (.one 13 .done))))))) (.one 8 (.one 4 (.front 10 (.one 9 (.one 11 (.front 12 (.one 13 .done))))))))) (.one 8 (.one 3 (.one 4 (.front 10 (.one 9 (.one 11 (.front 12 (.one 13 .done)))))))))) (.alt (.one 3 (.alt (.one 1 (.alt (.one 4 (.front 10 (.one 8 (.one 9 (.one 11 (.front 12 (.one 13 .done))))))) (.one 8 (.one 4 (.front 10 (.one 9 (.one 11 (.front 12 (.one 13 .done))))))))) (.one 8 (.one 1 (.one 4 (.front 10 (.one 9 (.one 11 (.front 12 (.one 13 .done)))))))))) (.one 8 (.alt (.one 1 (.one 3 (.one 4 (.front 10 (.one 9 (.one 11 (.front 12 (.one 13 .done)))))))) (.one 3 (.one 1 (.one 4 (.front 10 (.one 9 (.one 11 (.front 12 (.one 13 .done)))))))))))))))) (.one 7 (.alt (.one 1 (.alt (.one 3 (.alt (.one 4 (.front 10 (.alt (.one 6 (.one 8 (.one 9 (.one 11 (.front 12 (.one 13 .done)))))) (.one 8 (.one 6 (.one 9 (.one 11 (.front 12 (.one 13 .done))))))))) (.alt (.one 6 (.alt (.one 4 (.front 10 (.one 8 (.one 9 (.one 11 (.front 12 (.one 13 .done))))))) (.one 8 (.one 4 (.front 10 (.one 9 (.one 11 (.front 12 (.one 13 .done))))))))) (.one 8 (.alt (.one 4 (.front 10 (.one 6 (.one 9 (.one 11 (.front 12 (.one 13 .done))))))) (.one 6 (.one 4 (.front 10 (.one 9 (.one 11 (.front 12 (.one 13 .done)))))))))))) (.alt (.one 6 (.alt (.one 3 (.alt (.one 4 (.front 10 (.one 8 (.one 9 (.one 11 (.front 12 (.one 13 .done))))))) (.one 8 (.one 4 (.front 10 (.one 9 (.one 11 (.front 12 (.one 13 .done))))))))) (.one 8 (.one 3 (.one 4 (.front 10 (.one 9 (.one 11 (.front 12 (.one 13 .done)))))))))) (.one 8 (.alt (.one 3 (.alt (.one 4 (.front 10 (.one 6 (.one 9 (.one 11 (.front 12 (.one 13 .done))))))) (.one 6 (.one 4 (.front 10 (.one 9 (.one 11 (.front 12 (.one 13 .done))))))))) (.one 6 (.one 3 (.one 4 (.front 10 (.one 9 (.one 11 (.front 12 (.one 13 .done))))))))))))) (.alt (.one 3 (.alt (.one 1 (.alt (.one 4 (.front 10 (.alt (.one 6 (.one 8 (.one 9 (.one 11 (.front 12 (.one 13 .done)))))) (.one 8 (.one 6 (.one 9 (.one 11 (.front 12 (.one 13 .done))))))))) (.alt (.one 6 (.alt (.one 4 (.front 10 (.one 8 (.one 9 (.one 11 (.front 12 (.one 13 .done))))))) (.one 8 (.one 4 (.front 10 (.one 9 (.one 11 (.front 12 (.one 13 .done))))))))) (.one 8 (.alt (.one 4 (.front 10 (.one 6 (.one 9 (.one 11 (.front 12 (.one 13 .done))))))) (.one 6 (.one 4 (.front 10 (.one 9 (.one 11 (.front 12 (.one 13 .done)))))))))))) (.alt (.one 6 (.alt (.one 1 (.alt (.one 4 (.front 10 (.one 8 (.one 9 (.one 11 (.front 12 (.one 13 .done))))))) (.one 8 (.one 4 (.front 10 (.one 9 (.one 11 (.front 12 (.one 13 .done))))))))) (.one 8 (.one 1 (.one 4 (.front 10 (.one 9 (.one 11 (.front 12 (.one 13 .done)))))))))) (.one 8 (.alt (.one 1 (.alt (.one 4 (.front 10 (.one 6 (.one 9 (.one 11 (.front 12 (.one 13 .done))))))) (.one 6 (.one 4 (.front 10 (.one 9 (.one 11 (.front 12 (.one 13 .done))))))))) (.one 6 (.one 1 (.one 4 (.front 10 (.one 9 (.one 11 (.front 12 (.one 13 .done))))))))))))) (.alt (.one 6 (.alt (.one 1 (.alt (.one 3 (.alt (.one 4 (.front 10 (.one 8 (.one 9 (.one 11 (.front 12 (.one 13 .done))))))) (.one 8 (.one 4 (.front 10 (.one 9 (.one 11 (.front 12 (.one 13 .done))))))))) (.one 8 (.one 3 (.one 4 (.front 10 (.one 9 (.one 11 (.front 12 (.one 13 .done)))))))))) (.alt (.one 3 (.alt (.one 1 (.alt (.one 4 (.front 10 (.one 8 (.one 9 (.one 11 (.front 12 (.one 13 .done))))))) (.one 8 (.one 4 (.front 10 (.one 9 (.one 11 (.front 12 (.one 13 .done))))))))) (.one 8 (.one 1 (.one 4 (.front 10 (.one 9 (.one 11 (.front 12 (.one 13 .done)))))))))) (.one 8 (.alt (.one 1 (.one 3 (.one 4 (.front 10 (.one 9 (.one 11 (.front 12 (.one 13 .done)))))))) (.one 3 (.one 1 (.one 4 (.front 10 (.one 9 (.one 11 (.front 12 (.one 13 .done))))))))))))) (.one 8 (.alt (.one 1 (.alt (.one 3 (.alt (.one 4 (.front 10 (.one 6 (.one 9 (.one 11 (.front 12 (.one 13 .done))))))) (.one 6 (.one 4 (.front 10 (.one 9 (.one 11 (.front 12 (.one 13 .done))))))))) (.one 6 (.one 3 (.one 4 (.front 10 (.one 9 (.one 11 (.front 12 (.one 13 .done)))))))))) (.alt (.one 3 (.alt (.one 1 (.alt (.one 4 (.front 10 (.one 6 (.one 9 (.one 11 (.front 12 (.one 13 .done))))))) (.one 6 (.one 4 (.front 10 (.one 9 (.one 11 (.front 12 (.one 13 .done))))))))) (.one 6 (.one 1 (.one 4 (.front 10 (.one 9 (.one 11 (.front 12 (.one 13 .done)))))))))) (.one 6 (.alt (.one 1 (.one 3 (.one 4 (.front 10 (.one 9 (.one 11 (.front 12 (.one 13 .done)))))))) (.one 3 (.one 1 (.one 4 (.front 10 (.one 9 (.one 11 (.front 12 (.one 13 .done))))))))))))))))))))) (.alt (.one 6 (.alt (.one 1 (.alt (.one 2 (.alt (.one 3 (.alt (.one 4 (.front 10 (.one 7 (.one 8 (.one 9 (.one 11 (.front 12 (.one 13 .done)))))))) (.one 7 (.alt (.one 4 (.front 10 (.one 8 (.one 9 (.one 11 (.front 12 (.one 13 .done))))))) (.one 8 (.one 4 (.front 10 (.one 9 (.one 11 (.front 12 (.one 13 .done))))))))))) (.one 7 (.alt (.one 3 (.alt (.one 4 (.front 10 (.one 8 (.one 9 (.one 11 (.front 12 (.one 13 .done))))))) (.one 8 (.one 4 (.front 10 (.one 9 (.one 11 (.front 12 (.one 13 .done))))))))) (.one 8 (.one 3 (.one 4 (.front 10 (.one 9 (.one 11 (.front 12 (.one 13 .done)))))))))))) (.one 7 (.alt (.one 2 (.alt (.one 3 (.alt (.one 4 (.front 10 (.one 8 (.one 9 (.one 11 (.front 12 (.one 13 .done))))))) (.one 8 (.one 4 (.front 10 (.one 9 (.one 11 (.front 12 (.one 13 .done))))))))) (.one 8 (.one 3 (.one 4 (.front 10 (.one 9 (.one 11 (.front 12 (.one 13 .done)))))))))) (.one 8 (.one 2 (.one 3 (.one 4 (.front 10 (.one 9 (.one 11 (.front 12 (.one 13 .done))))))))))))) (.alt (.one 2 (.alt (.one 1 (.alt (.one 3 (.alt (.one 4 (.front 10 (.one 7 (.one 8 (.one 9 (.one 11 (.front 12 (.one 13 .done)))))))) (.one 7 (.alt (.one 4 (.front 10 (.one 8 (.one 9 (.one 11 (.front 12 (.one 13 .done))))))) (.one 8 (.one 4 (.front 10 (.one 9 (.one 11 (.front 12 (.one 13 .done))))))))))) (.one 7 (.alt (.one 3 (.alt (.one 4 (.front 10 (.one 8 (.one 9 (.one 11 (.front 12 (.one 13 .done))))))) (.one 8 (.one 4 (.front 10 (.one 9 (.one 11 (.front 12 (.one 13 .done))))))))) (.one 8 (.one 3 (.one 4 (.front 10 (.one 9 (.one 11 (.front 12 (.one 13 .done)))))))))))) (.alt (.one 3 (.alt (.one 1 (.alt (.one 4 (.front 10 (.one 7 (.one 8 (.one 9 (.one 11 (.front 12 (.one 13 .done)))))))) (.one 7 (.alt (.one 4 (.front 10 (.one 8 (.one 9 (.one 11 (.front 12 (.one 13 .done))))))) (.one 8 (.one 4 (.front 10 (.one 9 (.one 11 (.front 12 (.one 13 .done))))))))))) (.one 7 (.alt (.one 1 (.alt (.one 4 (.front 10 (.one 8 (.one 9 (.one 11 (.front 12 (.one 13 .done))))))) (.one 8 (.one 4 (.front 10 (.one 9 (.one 11 (.front 12 (.one 13 .done))))))))) (.one 8 (.one 1 (.one 4 (.front 10 (.one 9 (.one 11 (.front 12 (.one 13 .done)))))))))))) (.one 7 (.alt (.one 1 (.alt (.one 3 (.alt (.one 4 (.front 10 (.one 8 (.one 9 (.one 11 (.front 12 (.one 13 .done))))))) (.one 8 (.one 4 (.front 10 (.one 9 (.one 11 (.front 12 (.one 13 .done))))))))) (.one 8 (.one 3 (.one 4 (.front 10 (.one 9 (.one 11 (.front 12 (.one 13 .done)))))))))) (.alt (.one 3 (.alt (.one 1 (.alt (.one 4 (.front 10 (.one 8 (.one 9 (.one 11 (.front 12 (.one 13 .done))))))) (.one 8 (.one 4 (.front 10 (.one 9 (.one 11 (.front 12 (.one 13 .done))))))))) (.one 8 (.one 1 (.one 4 (.front 10 (.one 9 (.one 11 (.front 12 (.one 13 .done)))))))))) (.one 8 (.alt (.one 1 (.one 3 (.one 4 (.front 10 (.one 9 (.one 11 (.front 12 (.one 13 .done)))))))) (.one 3 (.one 1 (.one 4 (.front 10 (.one 9 (.one 11 (.front 12 (.one 13 .done)))))))))))))))) (.one 7 (.alt (.one 1 (.alt (.one 2 (.alt (.one 3 (.alt (.one 4 (.front 10 (.one 8 (.one 9 (.one 11 (.front 12 (.one 13 .done))))))) (.one 8 (.one 4 (.front 10 (.one 9 (.one 11 (.front 12 (.one 13 .done))))))))) (.one 8 (.one 3 (.one 4 (.front 10 (.one 9 (.one 11 (.front 12 (.one 13 .done)))))))))) (.one 8 (.one 2 (.one 3 (.one 4 (.front 10 (.one 9 (.one 11 (.front 12 (.one 13 .done))))))))))) (.alt (.one 2 (.alt (.one 1 (.alt (.one 3 (.alt (.one 4 (.front 10 (.one 8 (.one 9 (.one 11 (.front 12 (.one 13 .done))))))) (.one 8 (.one 4 (.front 10 (.one 9 (.one 11 (.front 12 (.one 13 .done))))))))) (.one 8 (.one 3 (.one 4 (.front 10 (.one 9 (.one 11 (.front 12 (.one 13 .done)))))))))) (.alt (.one 3 (.alt (.one 1 (.alt (.one 4 (.front 10 (.one 8 (.one 9 (.one 11 (.front 12 (.one 13 .done))))))) (.one 8 (.one 4 (.front 10 (.one 9 (.one 11 (.front 12 (.one 13 .done))))))))) (.one 8 (.one 1 (.one 4 (.front 10 (.one 9 (.one 11 (.front 12 (.one 13 .done)))))))))) (.one 8 (.alt (.one 1 (.one 3 (.one 4 (.front 10 (.one 9 (.one 11 (.front 12 (.one 13 .done)))))))) (.one 3 (.one 1 (.one 4 (.front 10 (.one 9 (.one 11 (.front 12 (.one 13 .done))))))))))))) (.one 8 (.alt (.one 1 (.one 2 (.one 3 (.one 4 (.front 10 (.one 9 (.one 11 (.front 12 (.one 13 .done))))))))) (.one 2 (.alt (.one 1 (.one 3 (.one 4 (.front 10 (.one 9 (.one 11 (.front 12 (.one 13 .done)))))))) (.one 3 (.one 1 (.one 4 (.front 10 (.one 9 (.one 11 (.front 12 (.one 13 .done)))))))))))))))))) (.one 7 (.alt (.one 1 (.alt (.one 2 (.alt (.one 3 (.alt (.one 4 (.front 10 (.alt (.one 6 (.one 8 (.one 9 (.one 11 (.front 12 (.one 13 .done)))))) (.one 8 (.one 6 (.one 9 (.one 11 (.front 12 (.one 13 .done))))))))) (.alt (.one 6 (.alt (.one 4 (.front 10 (.one 8 (.one 9 (.one 11 (.front 12 (.one 13 .done))))))) (.one 8 (.one 4 (.front 10 (.one 9 (.one 11 (.front 12 (.one 13 .done))))))))) (.one 8 (.alt (.one 4 (.front 10 (.one 6 (.one 9 (.one 11 (.front 12 (.one 13 .done))))))) (.one 6 (.one 4 (.front 10 (.one 9 (.one 11 (.front 12 (.one 13 .done)))))))))))) (.alt (.one 6 (.alt (.one 3 (.alt (.one 4 (.front 10 (.one 8 (.one 9 (.one 11 (.front 12 (.one 13 .done))))))) (.one 8 (.one 4 (.front 10 (.one 9 (.one 11 (.front 12 (.one 13 .done))))))))) (.one 8 (.one 3 (.one 4 (.front 10 (.one 9 (.one 11 (.front 12 (.one 13 .done)))))))))) (.one 8 (.alt (.one 3 (.alt (.one 4 (.front 10 (.one 6 (.one 9 (.one 11 (.front 12 (.one 13 .done))))))) (.one 6 (.one 4 (.front 10 (.one 9 (.one 11 (.front 12 (.one 13 .done))))))))) (.one 6 (.one 3 (.one 4 (.front 10 (.one 9 (.one 11 (.front 12 (.one 13 .done))))))))))))) (.alt (.one 6 (.alt (.one 2 (.alt (.one 3 (.alt (.one 4 (.front 10 (.one 8 (.one 9 (.one 11 (.front 12 (.one 13 .done))))))) (.one 8 (.one 4 (.front 10 (.one 9 (.one 11 (.front 12 (.one 13 .done))))))))) (.one 8 (.one 3 (.one 4 (.front 10 (.one 9 (.one 11 (.front 12 (.one 13 .done)))))))))) (.one 8 (.one 2 (.one 3 (.one 4 (.front 10 (.one 9 (.one 11 (.front 12 (.one 13 .done))))))))))) (.one 8 (.alt (.one 2 (.alt (.one 3 (.alt (.one 4 (.front 10 (.one 6 (.one 9 (.one 11 (.front 12 (.one 13 .done))))))) (.one 6 (.one 4 (.front 10 (.one 9 (.one 11 (.front 12 (.one 13 .done))))))))) (.one 6 (.one 3 (.one 4 (.front 10 (.one 9 (.one 11 (.front 12 (.one 13 .done)))))))))) (.one 6 (.one 2 (.one 3 (.one 4 (.front 10 (.one 9 (.one 11 (.front 12 (.one 13 .done)))))))))))))) (.alt (.one 2 (.alt (.one 1 (.alt (.one 3 (.alt (.one 4 (.front 10 (.alt (.one 6 (.one 8 (.one 9 (.one 11 (.front 12 (.one 13 .done)))))) (.one 8 (.one 6 (.one 9 (.one 11 (.front 12 (.one 13 .done))))))))) (.alt (.one 6 (.alt (.one 4 (.front 10 (.one 8 (.one 9 (.one 11 (.front 12 (.one 13 .done))))))) (.one 8 (.one 4 (.front 10 (.one 9 (.one 11 (.front 12 (.one 13 .done))))))))) (.one 8 (.alt (.one 4 (.front 10 (.one 6 (.one 9 (.one 11 (.front 12 (.one 13 .done))))))) (.one 6 (.one 4 (.front 10 (.one 9 (.one 11 (.front 12 (.one 13 .done)))))))))))) (.alt (.one 6 (.alt (.one 3 (.alt (.one 4 (.front 10 (.one 8 (.one 9 (.one 11 (.front 12 (.one 13 .done))))))) (.one 8 (.one 4 (.front 10 (.one 9 (.one 11 (.front 12 (.one 13 .done))))))))) (.one 8 (.one 3 (.one 4 (.front 10 (.one 9 (.one 11 (.front 12 (.one 13 .done)))))))))) (.one 8 (.alt (.one 3 (.alt (.one 4 (.front 10 (.one 6 (.one 9 (.one 11 (.front 12 (.one 13 .done))))))) (.one 6 (.one 4 (.front 10 (.one 9 (.one 11 (.front 12 (.one 13 .done))))))))) (.one 6 (.one 3 (.one 4 (.front 10 (.one 9 (.one 11 (.front 12 (.one 13 .done))))))))))))) (.alt (.one 3 (.alt (.one 1 (.alt (.one 4 (.front 10 (.alt (.one 6 (.one 8 (.one 9 (.one 11 (.front 12 (.one 13 .done)))))) (.one 8 (.one 6 (.one 9 (.one 11 (.front 12 (.one 13 .done))))))))) (.alt (.one 6 (.alt (.one 4 (.front 10 (.one 8 (.one 9 (.one 11 (.front 12 (.one 13 .done))))))) (.one 8 (.one 4 (.front 10 (.one 9 (.one 11 (.front 12 (.one 13 .done))))))))) (.one 8 (.alt (.one 4 (.front 10 (.one 6 (.one 9 (.one 11 (.front 12 (.one 13 .done))))))) (.one 6 (.one 4 (.front 10 (.one 9 (.one 11 (.front 12 (.one 13 .done)))))))))))) (.alt (.one 6 (.alt (.one 1 (.alt (.one 4 (.front 10 (.one 8 (.one 9 (.one 11 (.front 12 (.one 13 .done))))))) (.one 8 (.one 4 (.front 10 (.one 9 (.one 11 (.front 12 (.one 13 .done))))))))) (.one 8 (.one 1 (.one 4 (.front 10 (.one 9 (.one 11 (.front 12 (.one 13 .done)))))))))) (.one 8 (.alt (.one 1 (.alt (.one 4 (.front 10 (.one 6 (.one 9 (.one 11 (.front 12 (.one 13 .done))))))) (.one 6 (.one 4 (.front 10 (.one 9 (.one 11 (.front 12 (.one 13 .done))))))))) (.one 6 (.one 1 (.one 4 (.front 10 (.one 9 (.one 11 (.front 12 (.one 13 .done))))))))))))) (.alt (.one 6 (.alt (.one 1 (.alt (.one 3 (.alt (.one 4 (.front 10 (.one 8 (.one 9 (.one 11 (.front 12 (.one 13 .done))))))) (.one 8 (.one 4 (.front 10 (.one 9 (.one 11 (.front 12 (.one 13 .done))))))))) (.one 8 (.one 3 (.one 4 (.front 10 (.one 9 (.one 11 (.front 12 (.one 13 .done)))))))))) (.alt (.one 3 (.alt (.one 1 (.alt (.one 4 (.front 10 (.one 8 (.one 9 (.one 11 (.front 12 (.one 13 .done))))))) (.one 8 (.one 4 (.front 10 (.one 9 (.one 11 (.front 12 (.one 13 .done))))))))) (.one 8 (.one 1 (.one 4 (.front 10 (.one 9 (.one 11 (.front 12 (.one 13 .done)))))))))) (.one 8 (.alt (.one 1 (.one 3 (.one 4 (.front 10 (.one 9 (.one 11 (.front 12 (.one 13 .done)))))))) (.one 3 (.one 1 (.one 4 (.front 10 (.one 9 (.one 11 (.front 12 (.one 13 .done))))))))))))) (.one 8 (.alt (.one 1 (.alt (.one 3 (.alt (.one 4 (.front 10 (.one 6 (.one 9 (.one 11 (.front 12 (.one 13 .done))))))) (.one 6 (.one 4 (.front 10 (.one 9 (.one 11 (.front 12 (.one 13 .done))))))))) (.one 6 (.one 3 (.one 4 (.front 10 (.one 9 (.one 11 (.front 12 (.one 13 .done)))))))))) (.alt (.one 3 (.alt (.one 1 (.alt (.one 4 (.front 10 (.one 6 (.one 9 (.one 11 (.front 12 (.one 13 .done))))))) (.one 6 (.one 4 (.front 10 (.one 9 (.one 11 (.front 12 (.one 13 .done))))))))) (.one 6 (.one 1 (.one 4 (.front 10 (.one 9 (.one 11 (.front 12 (.one 13 .done)))))))))) (.one 6 (.alt (.one 1 (.one 3 (.one 4 (.front 10 (.one 9 (.one 11 (.front 12 (.one 13 .done)))))))) (.one 3 (.one 1 (.one 4 (.front 10 (.one 9 (.one 11 (.front 12 (.one 13 .done))))))))))))))))) (.alt (.one 6 (.alt (.one 1 (.alt (.one 2 (.alt (.one 3 (.alt (.one 4 (.front 10 (.one 8 (.one 9 (.one 11 (.front 12 (.one 13 .done))))))) (.one 8 (.one 4 (.front 10 (.one 9 (.one 11 (.front 12 (.one 13 .done))))))))) (.one 8 (.one 3 (.one 4 (.front 10 (.one 9 (.one 11 (.front 12 (.one 13 .done)))))))))) (.one 8 (.one 2 (.one 3 (.one 4 (.front 10 (.one 9 (.one 11 (.front 12 (.one 13 .done))))))))))) (.alt (.one 2 (.alt (.one 1 (.alt (.one 3 (.alt (.one 4 (.front 10 (.one 8 (.one 9 (.one 11 (.front 12 (.one 13 .done))))))) (.one 8 (.one 4 (.front 10 (.one 9 (.one 11 (.front 12 (.one 13 .done))))))))) (.one 8 (.one 3 (.one 4 (.front 10 (.one 9 (.one 11 (.front 12 (.one 13 .done)))))))))) (.alt (.one 3 (.alt (.one 1 (.alt (.one 4 (.front 10 (.one 8 (.one 9 (.one 11 (.front 12 (.one 13 .done))))))) (.one 8 (.one 4 (.front 10 (.one 9 (.one 11 (.front 12 (.one 13 .done))))))))) (.one 8 (.one 1 (.one 4 (.front 10 (.one 9 (.one 11 (.front 12 (.one 13 .done)))))))))) (.one 8 (.alt (.one 1 (.one 3 (.one 4 (.front 10 (.one 9 (.one 11 (.front 12 (.one 13 .done)))))))) (.one 3 (.one 1 (.one 4 (.front 10 (.one 9 (.one 11 (.front 12 (.one 13 .done))))))))))))) (.one 8 (.alt (.one 1 (.one 2 (.one 3 (.one 4 (.front 10 (.one 9 (.one 11 (.front 12 (.one 13 .done))))))))) (.one 2 (.alt (.one 1 (.one 3 (.one 4 (.front 10 (.one 9 (.one 11 (.front 12 (.one 13 .done)))))))) (.one 3 (.one 1 (.one 4 (.front 10 (.one 9 (.one 11 (.front 12 (.one 13 .done))))))))))))))) (.one 8 (.alt (.one 1 (.alt (.one 2 (.alt (.one 3 (.alt (.one 4 (.front 10 (.one 6 (.one 9 (.one 11 (.front 12 (.one 13 .done))))))) (.one 6 (.one 4 (.front 10 (.one 9 (.one 11 (.front 12 (.one 13 .done))))))))) (.one 6 (.one 3 (.one 4 (.front 10 (.one 9 (.one 11 (.front 12 (.one 13 .done)))))))))) (.one 6 (.one 2 (.one 3 (.one 4 (.front 10 (.one 9 (.one 11 (.front 12 (.one 13 .done))))))))))) (.alt (.one 2 (.alt (.one 1 (.alt (.one 3 (.alt (.one 4 (.front 10 (.one 6 (.one 9 (.one 11 (.front 12 (.one 13 .done))))))) (.one 6 (.one 4 (.front 10 (.one 9 (.one 11 (.front 12 (.one 13 .done))))))))) (.one 6 (.one 3 (.one 4 (.front 10 (.one 9 (.one 11 (.front 12 (.one 13 .done)))))))))) (.alt (.one 3 (.alt (.one 1 (.alt (.one 4 (.front 10 (.one 6 (.one 9 (.one 11 (.front 12 (.one 13 .done))))))) (.one 6 (.one 4 (.front 10 (.one 9 (.one 11 (.front 12 (.one 13 .done))))))))) (.one 6 (.one 1 (.one 4 (.front 10 (.one 9 (.one 11 (.front 12 (.one 13 .done)))))))))) (.one 6 (.alt (.one 1 (.one 3 (.one 4 (.front 10 (.one 9 (.one 11 (.front 12 (.one 13 .done)))))))) (.one 3 (.one 1 (.one 4 (.front 10 (.one 9 (.one 11 (.front 12 (.one 13 .done))))))))))))) (.one 6 (.alt (.one 1 (.one 2 (.one 3 (.one 4 (.front 10 (.one 9 (.one 11 (.front 12 (.one 13 .done))))))))) (.one 2 (.alt (.one 1 (.one 3 (.one 4 (.front 10 (.one 9 (.one 11 (.front 12 (.one 13 .done)))))))) (.one 3 (.one 1 (.one 4 (.front 10 (.one 9 (.one 11 (.front 12 (.one 13 .done)))))))))))))))))))))))
theorem DrawK.le {P : Program} {ops : Array Oper} {σ : St} {K : St -> Prop} (τ : St) (hl : σ.le τ) (h : DrawK P ops τ K) : DrawK P ops σ K :=
 fun G0 w0 G a w id Q h0 hs hK => h G0 w0 G a w id Q h0 (hs.le hl) hK
theorem con_growsLaw (l : List Int) : Con Tryz.prog 5 [vs 0 l] [] fun r _ => r = vb true := by
 refine Con.intro Tryz.func5 rfl Tryz.ntmps5 Tryz.results5 (by kernel_rfl) (by simp) 0 (by simp) ?_
 simp only [go_sem]
 refine CallU.free con_awake (by simp only [go_sem]) (by simp only [go_sem]) ?_
 rintro z bx rfl
 simp only [go_sem]
 refine CallU.free (con_few21 l) (by simp only [go_sem]) (by simp only [go_sem]) ?_
 rintro z bx rfl
 by_cases hf : (l.length : Int) <= 400
 case neg =>
  simp only [hf, decide_false]
  simp only [go_sem]
  refine CallU.free con_awake (by simp only [go_sem]) (by simp only [go_sem]) ?_
  rintro z bx rfl
  simp only [go_sem]
 have hd0 := deck21 hf
 simp only [hf, decide_true]
 simp only [go_sem]
 refine CallU.news (bx0 := []) (con_new21 l) (by simp only [go_sem]) (by simp only [go_sem]) (by simp only [go_sem]) (by simp only [go_sem]) (by simp only [go_sem]) ?_
 rintro r b ⟨rfl, rfl⟩
 generalize seed21 = s0 at hd0
 simp only [go_sem]
 refine CallU.boxes (i := 0) (is := []) (bx0 := [deckA l s0]) (con_dModelZ l s0 hd0) (by simp only [go_sem]) (by simp only [go_sem]) (by simp only [go_sem]) (by simp only [go_sem]) (by simp only [go_sem]) ?_
 rintro r b ⟨ns, np, nl, ra, lv, ag, rules, st, s1, hG, hd1, rfl, rfl⟩
 have hk0 := dealt_bra hG
 have hl0 := hG.len
 have hml : (dealtG 6 ns np nl ra lv ag rules st).rules.length <= 4 := hG.few
 have htwo := dealt_two hG
 have hfew := dealt_few hG
 clear hG hd0
 generalize dealtG 6 ns np nl ra lv ag rules st = m at *
 have hpl := (bra_of hk0).places
 simp only [go_sem, vM, cM, vss, List.length_map]
 have hsm := con_dSmallF l s1 m.places.length 3 hd1 (by omega) (by omega)
 have hgl : (smV l s1 3 m.places.length).length = m.places.length := smV_len _
 have hg4 : ∀ x ∈ smV l s1 3 m.places.length, 0 <= x /\ x <= 3 := smV_low (by omega) _
 have hd2 := smS_dk (most := 3) hd1 m.places.length
 generalize smV l s1 3 m.places.length = g at *
 generalize smS l s1 3 m.places.length = s2 at *
 refine DrawK.effs0 0 [7] [] 8 (.one 8 (.one 9 (.one 10 (.front 11 (.one 12 .done))))) none (deckA l s1) mixed (by kernel_rfl) (by kernel_rfl) (by simp only [go_sem]) (by simp only [go_sem]) ?_
 simp only [go_sem, List.length_map]
 refine ⟨by simp only [roomFor]; omega, Nat.le_refl _, by omega, by omega, ?_⟩
 refine EffK.mk hsm (by simp only [go_sem]) (by simp only [go_sem]) (by simp only [go_sem]) (by simp only [go_sem]) ?_
 have hlm : (m.rules.map vRule).length = m.rules.length := List.length_map _
 have hw1 : IntKind.i64.wrap ((m.rules.length : Int) + 1 - 1) = m.rules.length := by rw [wrap_in (by omega) (by omega)]; omega
 have hget := fun x => get_last hlm x
 have hlt : (m.rules.length : Int) < (m.rules.length : Int) + 1 := by omega
 simp only [go_sem, List.length_map, List.length_append, List.length_cons, List.length_nil, hw1, hget, hlt, Int.toNat_natCast]
 refine ⟨⟨by simp only [roomFor]; omega, Nat.le_refl _, by omega, by omega, ?_⟩, trivial⟩
 refine LoopK.intro (fun i : Nat => ⟨162, [(3, .pb 0 0), (4, .pb 1 0), (6, .pb 2 0), (58, vs 0 g), (59, vi g.length), (60, vi i)], [deckA l (hiS l s2 i), [vi m.kind, .sl 0 1 (m.states.map vStr), .sl 0 1 (m.places.map vStr), .sl 0 1 (m.letters.map vStr), vs 0 m.ranks, vi m.levels, vi m.age, .sl 2432 14 (m.rules.map vRule ++ [extA lowNm m.places.length (vs 0 g)]), vi m.start.n, .sl 0 2 (m.start.kids.map vV)],
   [vStr highNm, vi (-1), vi 0, .sl 3136 1 (List.replicate m.places.length (vi 0)), vs 4608 (hiV l s2 g i), .nil, vi 0, vi 0, vi 0, .nil, .nil, .nil, .nil, vi (-1)]]⟩)
  (fun i => g.length - i) (fun i => i <= g.length) 0 (Nat.zero_le _) ?_ ?_
 ·simp only [go_sem, extA, lowNm, highNm, hiS, hiV]
  all_goals exact leB_self _
 rintro i hi
 have hhl : (hiV l s2 g i).length = i := hiV_len i
 by_cases h : i < g.length
 ·have hgi := getv h
  have hw : IntKind.i64.wrap (i + 1) = i + 1 := wrap_in (by omega) (by omega)
  have hnx := con_dNext l (hiS l s2 i) 3 (hiS_dk hd2 i)
  have hn3 := nextV_lt (l := l) (s := hiS l s2 i) (n := 3) (by omega)
  have hgb := hg4 _ (mem_bangI h)
  have hw2 : IntKind.i64.wrap (g[i]! + nextV l (hiS l s2 i) 3) = g[i]! + nextV l (hiS l s2 i) 3 := wrap_in (by omega) (by omega)
  simp only [go_sem, h, hgi]
  refine DrawK.effs0 0 [4] [] 7 (.one 7 (.front 8 (.one 9 .done))) none (deckA l (hiS l s2 i)) mixed (by kernel_rfl) (by kernel_rfl) (by simp only [go_sem]) (by simp only [go_sem]) ?_
  simp only [go_sem]
  refine EffK.mk hnx (by simp only [go_sem]) (by simp only [go_sem]) (by simp only [go_sem]) (by simp only [go_sem]) ?_
  simp only [go_sem, hw, hw2]
  refine ⟨⟨by simp only [roomFor, hhl]; omega, ?_⟩, trivial⟩
  refine roundK.intro (i + 1) (by omega) (by omega) ?_
  simp only [go_sem, hiS, hiV, List.map_append, List.map_cons, List.map_nil]
  all_goals exact leB_self _
 obtain rfl : i = g.length := by omega
 have hga := growA_le m g (hiV l s2 g g.length)
 have hlen := len_grow (m := m) hl0 hfew (by omega) hgl (h := hiV l s2 g g.length) (by rw [hhl, hgl])
 have hgs : ∀ p, p < m.places.length -> 0 <= g[p]! /\ g[p]! <= 3 := fun p hp => hg4 _ (mem_bangI (by omega))
 have hhs : ∀ p, p < m.places.length -> g[p]! <= (hiV l s2 g g.length)[p]! /\ (hiV l s2 g g.length)[p]! <= g[p]! + 2 := fun p hp => hiV_low (by omega)
 have hkg := kind_grow (g := g) (h := hiV l s2 g g.length) hk0 htwo hml hgl (small_of hgl fun p hp => by have := hgs p hp; omega) (by rw [hhl, hgl]) (small_of (by rw [hhl, hgl]) fun p hp => by have := hgs p hp; have := hhs p hp; omega)
 have hst : 1 <= m.states.length /\ m.states.length <= 8 := by
  have := (checkF_zero (kind_six hk0).1).2.1
  unfold sizedB betweenB at this
  simp only [Bool.and_eq_true, decide_eq_true_eq] at this
  omega
 have hd3 := hiS_dk hd2 g.length
 generalize hiS l s2 g.length = s3 at *
 generalize hiV l s2 g g.length = k at *
 obtain ⟨R, hR⟩ : ∃ R, R = m.rules.map vRule ++ [extA lowNm m.places.length (vs 0 g)] ++ [extA highNm m.places.length (vs 0 k)] := ⟨_, rfl⟩
 have hnk : (growM m g k).rules.length = m.rules.length + 2 := grow_len m g k
 have hR1 : R.length = m.rules.length + 2 := by rw [hR]; simp
 have hR2 : ∀ r, r < m.rules.length -> R[r]? = (m.rules.map vRule)[r]? := fun r hr => by
  rw [hR, List.getElem?_append_left (by simp; omega), List.getElem?_append_left (by simpa using hr)]
 have hR3 : ∀ r, r < m.rules.length + 2 -> ¬ r < m.rules.length -> ∃ nm x, R[r]? = some (extA nm m.places.length x) := fun r hr hr2 => by
  rw [hR]
  by_cases e : r = m.rules.length
  ·subst e
   exact ⟨lowNm, vs 0 g, by rw [List.getElem?_append_left (by simp), List.getElem?_append_right (by simp)]; simp⟩
  ·obtain rfl : r = m.rules.length + 1 := by omega
   exact ⟨highNm, vs 0 k, by rw [List.getElem?_append_right (by simp)]; simp⟩
 have hga2 : leV (growR m R) (vM (growM m g k)) := by rw [hR]; exact hga
 have hRe : m.rules.map vRule ++ [extA lowNm m.places.length (vs 0 g)] ++ [extA highNm m.places.length (vs 0 k)] = R := hR.symm
 clear hR hga
 have hpl7 : m.places.length <= 7 := by
  have := (checkF_zero (kind_six hk0).1).2.1
  unfold sizedB betweenB at this
  simp only [Bool.and_eq_true, decide_eq_true_eq] at this
  rw [(kind_six hk0).2] at this
  have e : lim 6 0 = 1 /\ lim 6 1 = 6 := by decide
  omega
 have hty : Con Tryz.prog 29 [growR m R] [] fun r _ => r = .tup [flatT 0 (partsP m.states.length m.places.length), vi 0] := Con.frozL (((con_rType6 (growM m g k) hlen hkg).leA (args' := [growR m R]) ⟨hga2, trivial⟩).mono fun r _ e => by subst e; exact leV_refl _)
 have hnx := con_dNext l s3 ((m.rules.length + 2 : Nat) : Int) hd3
 have hn := nextV_lt (l := l) (s := s3) (n := ((m.rules.length + 2 : Nat) : Int)) (Int.natCast_pos.2 (Nat.succ_pos _))
 have hd4 := nextS_dk (n := ((m.rules.length + 2 : Nat) : Int)) hd3
 generalize nextS l s3 ((m.rules.length + 2 : Nat) : Int) = s4 at *
 generalize nextV l s3 ((m.rules.length + 2 : Nat) : Int) = qi at *
 obtain ⟨q, rfl⟩ : ∃ q : Nat, qi = (q : Int) := ⟨qi.toNat, by omega⟩
 have hq2 : q < m.rules.length + 2 := Int.ofNat_lt.1 hn.2
 have hq2' : (q : Int) < (m.rules.length : Int) + 2 := by omega
 have e1 : extA highNm m.places.length (vs 0 k) = .ag [vStr highNm, vi (-1), vi 0, .sl 0 1 (List.replicate m.places.length (vi 0)), vs 0 k, .nil, vi 0, vi 0, vi 0, .nil, .nil, .nil, .nil, vi (-1)] := rfl
 rw [e1] at hRe
 simp only [growR] at hty
 simp only [go_sem] at hRe
 simp only [go_sem, h, hRe]
 refine ⟨by simp only [roomFor, List.length_append, List.length_map, List.length_cons, List.length_nil]; omega, ?_⟩
 refine CallU.freeze hty (by simp only [go_sem]) (by simp only [go_sem]) ?_
 rintro z bx rfl
 simp only [go_sem, hR1]
 refine CallU.boxes (i := 0) (is := []) (bx0 := [deckA l s3]) hnx (by simp only [go_sem]) (by simp only [go_sem]) (by simp only [go_sem]) (by simp only [go_sem]) (by simp only [go_sem]) ?_
 rintro r b ⟨rfl, rfl⟩
 by_cases hq3 : q < m.rules.length
 case neg =>
  obtain ⟨nm, x, hx⟩ := hR3 q hq2 hq3
  simp only [extA] at hx
  simp only [go_sem, hR1, hq2', hx]
 have hx := hR2 q hq3
 rw [getRule hq3] at hx
 have hrd : ∀ r : RD, vRule r = .ag [vStr r.name, vi r.src, vi r.dst, vs 0 r.need, vs 0 r.give, vs 0 r.move, vi r.channel, vi r.act, vi r.letter, vs 0 r.path, vs 0 r.next, .sl 0 3 (r.takes.map vTake), vs 0 r.makes, vi r.second] := fun r => rfl
 rw [hrd] at hx
 generalize m.rules[q]! = ru at hx
 by_cases hsrc : ru.src = 0
 case neg =>
  have hs' : (ru.src != 0) = true := bne_iff_ne.2 hsrc
  simp only [go_sem, hR1, hq2', hx, hs']
 have hs' : (ru.src != 0) = false := by rw [hsrc]; rfl
 have hw2 : IntKind.i64.wrap ((m.rules.length : Int) + 2 - 2) = m.rules.length := by rw [wrap_in (by omega) (by omega)]; omega
 have hw3 : IntKind.i64.wrap ((m.rules.length : Int) + 2 - 1) = ((m.rules.length + 1 : Nat) : Int) := by rw [wrap_in (by omega) (by omega)]; omega
 have hda : ∀ (n : Nat) (o : List CV), (∀ x ∈ o, szC x <= 3) -> o.length <= 1 -> Con Tryz.prog 15 [growR m R, .ag [vi q, .sl 0 2 (kidA n :: o.map vV)]] [] fun x _ => x = exV (deriveF (growM m g k) (.mk q (.mk n [] :: o))) := fun n o ho hol =>
  (con_bDerive (growM m g k) bra_of hlen (.mk q (.mk n [] :: o)) (grow_ok ho hol)).leA ⟨hga2, kids_le q n o, trivial⟩
 have hgr := fun (o : List CV) (ho : ∀ x ∈ o, szC x <= 3) (c : CV) (h : deriveF (growM m g k) (.mk q (.mk (m.rules.length : Nat) [] :: o)) = .ok c) => grow_law (o := o) (q := q) (c := c) hkg hgl (hhl.trans hgl) hgs hhs ho h
 simp only [growR, kidA] at hda
 have hlq := fun (s t : Int × List Int) (e : s.1 = t.1) (hle : ∀ p, p < m.places.length -> s.2[p]! <= t.2[p]!) (hs : SmB m.places.length s) (ht : SmB m.places.length t) (h0 : 0 <= s.1 /\ s.1 < m.states.length) =>
  con_leq21 m.states.length m.places.length s t hst.1 (by omega) hpl7 h0 e hs.1 ht.1 hs.2 ht.2 hle
 simp only [go_sem, hR1, hq2', hx, hs', hw2, hw3]
 by_cases hsec : 0 <= ru.second
 case neg =>
  have hda1 := hda m.rules.length [] (by simp) (by simp)
  have hda2 := hda (m.rules.length + 1) [] (by simp) (by simp)
  have hg0 := hgr [] (by simp)
  simp only [List.map_nil] at hda1 hda2
  simp only [hsec]
  simp only [go_sem]
  refine CallU.freeze hda1 (by simp only [go_sem]) (by simp only [go_sem]) ?_
  rintro z bx rfl
  cases hX : deriveF (growM m g k) (.mk q (.mk (m.rules.length : Nat) [] :: [])) with
  | error e =>
   have he := derive_err hX
   have he' : (e != 0) = true := bne_iff_ne.2 he
   simp only [go_sem, exV]
   refine CallU.freeze hda2 (by simp only [go_sem]) (by simp only [go_sem]) ?_
   rintro z bx rfl
   cases hY : deriveF (growM m g k) (.mk q (.mk ((m.rules.length + 1 : Nat) : Int) [] :: [])) with
   | error e2 => simp only [go_sem, exV, he']
   | ok d => simp only [go_sem, exV, vV_eq, he']
  | ok c =>
   obtain ⟨s, t, rfl, hY, e, hle, hs, ht, h0⟩ := hg0 c hX
   have hl := hlq s t e hle hs ht h0
   rw [vV_eq (valB s), vV_eq (valB t)] at hl
   simp only [go_sem, exV, vV_eq]
   refine CallU.freeze hda2 (by simp only [go_sem]) (by simp only [go_sem]) ?_
   rintro z bx rfl
   rw [hY]
   simp only [go_sem, exV, vV_eq]
   refine CallU.free hl (by simp only [go_sem]) (by simp only [go_sem]) ?_
   rintro z bx rfl
   simp only [go_sem]
 have hdr := (con_dDer l (growM m g k) (by rw [hnk]; omega) 1 3 s4 (by omega) (by omega) hd4).leA (args' := [.pb 0 0, growR m R, vi 3]) ⟨leV_refl _, hga2, leV_refl _, trivial⟩
 have hdl := dl_three (drF_dl (l := l) (rs := (growM m g k).rules) 2 3 s4 hd4)
 generalize (drF l (growM m g k).rules (1 + 1) 3 s4).1 = x at hdr hdl
 generalize (drF l (growM m g k).rules (1 + 1) 3 s4).2 = s5 at hdr
 have hda1 := hda m.rules.length [x] (by simpa using hdl) (by simp)
 have hda2 := hda (m.rules.length + 1) [x] (by simpa using hdl) (by simp)
 have hg0 := hgr [x] (by simpa using hdl)
 simp only [List.map_cons, List.map_nil] at hda1 hda2
 rw [vV_eq x] at hda1 hda2 hdr
 simp only [growR] at hdr
 simp only [hsec]
 simp only [go_sem]
 refine CallU.boxes (i := 0) (is := []) (bx0 := [deckA l s4]) hdr (by simp only [go_sem]) (by simp only [go_sem]) (by simp only [go_sem]) (by simp only [go_sem]) (by simp only [go_sem]) ?_
 rintro r b ⟨rfl, rfl⟩
 simp only [go_sem]
 refine DrawK.le ⟨162, [(4, .pb 1 0), (9, .pb 3 0), (13, .pb 4 0), (14, .pb 5 0), (15, .pb 6 0)], [[.any, .any, .any], [vi m.kind, .sl 0 1 (m.states.map vStr), .sl 0 1 (m.places.map vStr), .sl 0 1 (m.letters.map vStr), vs 0 m.ranks, vi m.levels, vi m.age, .sl 0 14 R, vi m.start.n, .sl 0 2 (m.start.kids.map vV)], List.replicate 14 .any, [vi 3, vi 0, .nil, .sl 0 4 ((partsP m.states.length m.places.length).map vPT)], [vi q, .sl 6976 2 [.ag [vi m.rules.length, .nil]]], [vi q, .sl 7360 2 [.ag [vi ((m.rules.length + 1 : Nat) : Int), .nil]]], [vi x.n, .sl 0 2 (x.kids.map vV)]]⟩ ?_ ?_
 ·simp only [go_sem, List.replicate]
 refine DrawK.meet ⟨162, [(4, .pb 1 0), (9, .pb 3 0), (13, .pb 4 0), (14, .pb 5 0)], [[.any, .any, .any], [vi m.kind, .sl 0 1 (m.states.map vStr), .sl 0 1 (m.places.map vStr), .sl 0 1 (m.letters.map vStr), vs 0 m.ranks, vi m.levels, vi m.age, .sl 0 14 R, vi m.start.n, .sl 0 2 (m.start.kids.map vV)], List.replicate 14 .any, [vi 3, vi 0, .nil, .sl 0 4 ((partsP m.states.length m.places.length).map vPT)], [vi q, .sl 6976 2 [.ag [vi m.rules.length, .nil], .ag [vi x.n, .sl 0 2 (x.kids.map vV)]]], [vi q, .sl 7360 2 [.ag [vi ((m.rules.length + 1 : Nat) : Int), .nil], .ag [vi x.n, .sl 0 2 (x.kids.map vV)]]], [vi x.n, .sl 0 2 (x.kids.map vV)]]⟩ ?_ ?_
 ·as_aux_lemma =>
  refine DrawK.tree growTree mixed (by kernel_rfl) ?_
  have hr2 : roomFor 2 32 := by simp only [roomFor]; omega
  unfold growTree
  simp (config := { maxSteps := 100000000 }) only [go_sem, List.replicate, hr2]
 simp only [go_sem, List.replicate]
 refine CallU.freeze hda1 (by simp only [go_sem]) (by simp only [go_sem]) ?_
 rintro z bx rfl
 cases hX : deriveF (growM m g k) (.mk q (.mk (m.rules.length : Nat) [] :: [x])) with
 | error e =>
  have he := derive_err hX
  have he' : (e != 0) = true := bne_iff_ne.2 he
  simp only [go_sem, exV]
  refine CallU.freeze hda2 (by simp only [go_sem]) (by simp only [go_sem]) ?_
  rintro z bx rfl
  cases hY : deriveF (growM m g k) (.mk q (.mk ((m.rules.length + 1 : Nat) : Int) [] :: [x])) with
  | error e2 => simp only [go_sem, exV, he']
  | ok d => simp only [go_sem, exV, vV_eq, he']
 | ok c =>
  obtain ⟨s, t, rfl, hY, e, hle, hs, ht, h0⟩ := hg0 c hX
  have hl := hlq s t e hle hs ht h0
  rw [vV_eq (valB s), vV_eq (valB t)] at hl
  simp only [go_sem, exV, vV_eq]
  refine CallU.freeze hda2 (by simp only [go_sem]) (by simp only [go_sem]) ?_
  rintro z bx rfl
  rw [hY]
  simp only [go_sem, exV, vV_eq]
  refine CallU.free hl (by simp only [go_sem]) (by simp only [go_sem]) ?_
  rintro z bx rfl
  simp only [go_sem]
end Go.AM
namespace Go.Proofs.YtiklkcjkmhkgjaaGreat
open Go.ChangeShapes Go.WideShapes Go.ChangeAt Go.RowKit Go.AM
theorem and_mk {a b : Bool} (h1 : a = true) (h2 : b = true) : (a && b) = true := by rw [h1, h2]; rfl
theorem cLaid : laidOutB Tryz.prog = true := by kernel_rfl
theorem cRowed : mapsRowed Tryz.prog = true := by kernel_rfl
theorem cHeard : Tryz.prog.stopsHeard = true := by kernel_rfl
theorem cEnter : Tryz.prog.mayEnter = true := by kernel_rfl
theorem cLifts : (Rows.branchingShapesRow.lifted == Tryz.prog.liftsFinal) = true := by kernel_rfl
theorem branchingGrowsC0 : (Rows.branchingGrowsRow.wf (OpenSpec.ofChange Rows.branchingGrowsSpec)) = true := by kernel_rfl
theorem branchingGrowsC3 : (Tryz.f5.params.all (Tryz.prog.readableRec ·)) = true := by kernel_rfl
theorem branchingGrowsC4 : (namedTie Tryz.prog Rows.branchingGrowsRow.named Rows.branchingGrowsSpec.vars) = true := by kernel_rfl
theorem branchingGrowsC5 : ((Rows.branchingGrowsRow.stops == [])) = true := by kernel_rfl
theorem branchingGrowsC6 : ((Tryz.prog.stops == [])) = true := by kernel_rfl
theorem branchingGrowsC7 : ((Rows.branchingGrowsRow.knobs == [])) = true := by kernel_rfl
theorem branchingGrowsC8 : ((Tryz.prog.stopKnobs == [])) = true := by kernel_rfl
theorem branchingGrowsC9 : ((Rows.branchingGrowsRow.inPlace == Tryz.prog.inPlace 5)) = true := by kernel_rfl
theorem branchingGrowsC10 : ((Rows.branchingGrowsRow.unfollowed == Tryz.prog.unfollowed 5)) = true := by kernel_rfl
theorem branchingGrowsC11 : ((Rows.branchingGrowsRow.recurses == Tryz.prog.recurses 5)) = true := by kernel_rfl
theorem branchingGrowsC12 : ((Rows.branchingGrowsRow.named == Tryz.prog.varsNamed 5)) = true := by kernel_rfl
theorem branchingGrowsC13 : ((Rows.branchingGrowsRow.maps == (Tryz.f5.params.toList ++ Rows.branchingGrowsSpec.plain.varTypes Tryz.prog).any (Tryz.prog.mapsRec ·))) = true := by kernel_rfl
theorem branchingGrowsC14 : ((Rows.branchingGrowsRow.ifaces == (Tryz.f5.params.toList ++ Rows.branchingGrowsSpec.plain.varTypes Tryz.prog).any (Tryz.prog.ifacesRec ·))) = true := by kernel_rfl
theorem branchingGrowsC15 : ((Rows.branchingGrowsRow.mapsOut == Tryz.prog.mapsAmong Tryz.f5.resultTypes.toList)) = true := by kernel_rfl
theorem branchingGrowsC16 : ((Rows.branchingGrowsRow.loops == (Tryz.f5.params.toList ++ Rows.branchingGrowsSpec.plain.varTypes Tryz.prog).any (Tryz.prog.loopsFrom ·))) = true := by kernel_rfl
theorem branchingGrowsC17 : ((Rows.branchingGrowsRow.wideKeys == (Tryz.f5.params.toList ++ Rows.branchingGrowsSpec.plain.varTypes Tryz.prog ++ Tryz.f5.resultTypes.toList).any (Tryz.prog.wideKeysFrom ·))) = true := by kernel_rfl
theorem branchingGrowsC18 : (Rows.branchingGrowsSpec.vars.all (Tryz.prog.varReadable ·)) = true := by kernel_rfl
theorem branchingGrowsC19 : (Tryz.f5.resultTypes.all (fun t => Tryz.prog.readableRec t && decide (t < Tryz.prog.types.size))) = true := by kernel_rfl
theorem branchingGrowsC20 : ((Rows.branchingGrowsRow.ifacesOut == Tryz.f5.resultTypes.toList.any (Tryz.prog.ifacesRec ·))) = true := by kernel_rfl
theorem branchingGrowsC21 : ((Rows.branchingGrowsRow.loopsOut == Tryz.f5.resultTypes.toList.any (Tryz.prog.loopsFrom ·))) = true := by kernel_rfl
theorem branchingGrowsC22 : ((Rows.branchingGrowsRow.plainKeys == Tryz.prog.plainKeys)) = true := by kernel_rfl
theorem branchingGrowsC23 : (Rows.branchingGrowsRow.shortTexts.isNone) = true := by kernel_rfl
theorem branchingGrowsC27 : ((Tryz.prog.make == some Rows.branchingGrowsRow.make)) = true := by kernel_rfl
theorem branchingGrowsC28 : ((Rows.branchingGrowsRow.kinds == (if Rows.branchingGrowsRow.domain.isEmpty then [] else Tryz.f5.params.toList.map fun t => match Tryz.prog.underlying t with | some (.int k) => some k | _ => none))) = true := by kernel_rfl
theorem branchingGrowsC29 : ((Rows.branchingGrowsRow.pinned == Rows.branchingGrowsRow.pinnedBy)) = true := by kernel_rfl
theorem branchingGrowsC30 : ((Rows.branchingGrowsRow.veiled == (Tryz.f5.params.toList ++ Rows.branchingGrowsSpec.plain.varTypes Tryz.prog ++ Tryz.f5.resultTypes.toList).any (Tryz.prog.veiledRec ·))) = true := by kernel_rfl
theorem branchingGrowsC31 : (Rows.branchingGrowsRow.veiledFits Tryz.prog Tryz.f5.params.toList (Tryz.f5.params.toList ++ Rows.branchingGrowsSpec.plain.varTypes Tryz.prog ++ Tryz.f5.resultTypes.toList)) = true := by kernel_rfl
set_option maxRecDepth 100000
theorem branchingGrowsClosed : joinedFacts Tryz.prog 5 Tryz.f5 Rows.branchingGrowsSpec Rows.branchingGrowsRow = true := by
 unfold joinedFacts
 exact and_mk (and_mk (and_mk (and_mk (and_mk (and_mk (and_mk (and_mk (and_mk (and_mk (and_mk (and_mk (and_mk (and_mk (and_mk (and_mk (and_mk (and_mk (and_mk (and_mk (and_mk (and_mk (and_mk (and_mk (and_mk (and_mk (and_mk (and_mk (and_mk (and_mk (and_mk branchingGrowsC0 cLaid) cRowed) branchingGrowsC3) branchingGrowsC4) branchingGrowsC5) branchingGrowsC6) branchingGrowsC7) branchingGrowsC8) branchingGrowsC9) branchingGrowsC10) branchingGrowsC11) branchingGrowsC12) branchingGrowsC13) branchingGrowsC14) branchingGrowsC15) branchingGrowsC16) branchingGrowsC17) branchingGrowsC18) branchingGrowsC19) branchingGrowsC20) branchingGrowsC21) branchingGrowsC22) branchingGrowsC23) cHeard) cEnter) cLifts) branchingGrowsC27) branchingGrowsC28) branchingGrowsC29) branchingGrowsC30) branchingGrowsC31
theorem branchingGrowsNamed : Tryz.prog.funcNamed Rows.branchingGrowsRow.func = some 5 := by kernel_rfl
end Go.Proofs.YtiklkcjkmhkgjaaGreat
