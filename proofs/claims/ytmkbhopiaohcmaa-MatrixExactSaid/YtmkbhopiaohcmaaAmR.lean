/-
  The abstract machine: a call that is given variables.
-/
import Derived.Test.YtmkbhopiaohcmaaAmL
namespace Go.AM
open Go.RowKit

def pbLt (m : Nat) : AV → Bool
  | .pb i _ => decide (i < m)
  | _ => true
def noTag : AV → Bool
  | .sl t _ _ => decide (t < 2)
  | .pe t _ _ _ _ => decide (t < 2)
  | .so _ _ => false
  | .po _ _ _ => false
  | _ => true

theorem idxOf_inj {ts : List Nat} {a b : Nat} (ha : a ∈ ts) (hb : b ∈ ts) (h : ts.idxOf a = ts.idxOf b) : a = b := by
  have h1 : ts[ts.idxOf a]? = some a := by rw [List.getElem?_eq_getElem (List.idxOf_lt_length_iff.2 ha)]; simp
  have h2 : ts[ts.idxOf b]? = some b := by rw [List.getElem?_eq_getElem (List.idxOf_lt_length_iff.2 hb)]; simp
  rw [h, h2] at h1; cases h1; rfl


/-! ### what a callee sees -/
def pbIn (is : List Nat) : AV → AV
  | .pb i o => if is.contains i = true then .pb (is.idxOf i) o else .any
  | x => x
/-- what comes back -/
def outLeaf (k : Nat) (is : List Nat) (n0 : Nat) : AV → AV
  | .pb j o => .pb (if j < is.length then is.getD j 0 else n0 + (j - is.length)) o
  | .sl t es xs => .sl (shiftTag k t) es xs
  | .so t xs => .so (shiftTag k t) (xs.map (shiftRow k))
  | x => x
def lt64b : AV → Bool
  | .sl t _ _ => decide (root t < 64)
  | .so t _ => decide (root t < 64)
  | .po _ _ _ => false
  | .pe t _ _ _ _ => decide (t < 2)
  | _ => true

def viewB (is : List Nat) (G : Nat → Status) (b : Nat) : Status :=
  match G b with
  | .stable => .stable
  | .box i => if is.contains i = true then .box (is.idxOf i) else .junk
  | _ => .junk

def backB (d n : Nat) (is : List Nat) (n0 : Nat) (G G' : Nat → Status) (b : Nat) : Status :=
  if b < n then G b else
    match G' b with
    | .stable => .stable
    | .tag t => if root t < 64 then .tag (t + 64 * (d + 1)) else .junk
    | .box j => if is.length ≤ j then .box (n0 + (j - is.length)) else .junk
    | .junk => .junk

def getAll (b : List (List AV)) : List Nat → Option (List (List AV))
  | [] => some []
  | i :: is => match b[i]? with
    | none => none
    | some c => match getAll b is with
      | none => none
      | some r => some (c :: r)
def setAll : List Nat → List (List AV) → List (List AV) → List (List AV)
  | i :: is, c :: cs, b => setAll is cs (b.set i c)
  | _, _, b => b
def nodupB : List Nat → Bool
  | [] => true
  | i :: is => !is.contains i && nodupB is
def allNoTags : List (List AV) → Bool
  | [] => true
  | cs :: r => allLeafs noTag cs && allNoTags r

theorem nodupB_spec : ∀ {l : List Nat}, nodupB l = true → l.Nodup
  | [], _ => List.nodup_nil
  | i :: is, h => by
    simp only [nodupB, Bool.and_eq_true, Bool.not_eq_true'] at h
    exact List.nodup_cons.2 ⟨by simpa using h.1, nodupB_spec h.2⟩

theorem allNoTags_mem : ∀ {l : List (List AV)}, allNoTags l = true → ∀ (j : Nat) cs, l[j]? = some cs → ∀ x ∈ cs, x.allLeaf noTag = true
  | [], _, j, cs, h, _, _ => by simp at h
  | c :: r, h, j, cs, hj, x, hx => by
    simp only [allNoTags, Bool.and_eq_true] at h
    cases j with
    | zero => simp at hj; subst hj; exact allLeafs_mem h.1 x hx
    | succ j => exact allNoTags_mem h.2 j cs (by simpa using hj) x hx

theorem getAll_spec {b : List (List AV)} : ∀ {is : List Nat} {r : List (List AV)}, getAll b is = some r → r.length = is.length ∧ ∀ (j : Nat) i, is[j]? = some i → ∃ c, b[i]? = some c ∧ r[j]? = some c
  | [], r, h => by simp [getAll] at h; subst h; exact ⟨rfl, fun j i hj => by simp at hj⟩
  | i :: is, r, h => by
    simp only [getAll] at h
    split at h
    · cases h
    · rename_i c hc
      split at h
      · cases h
      · rename_i r' hr
        cases h
        obtain ⟨h1, h2⟩ := getAll_spec hr
        refine ⟨by simp [h1], fun j i' hj => ?_⟩
        cases j with
        | zero => simp at hj; subst hj; exact ⟨c, hc, rfl⟩
        | succ j => obtain ⟨c', g1, g2⟩ := h2 j i' (by simpa using hj); exact ⟨c', g1, by simpa using g2⟩

theorem setAll_length : ∀ (is : List Nat) (cs b : List (List AV)), (setAll is cs b).length = b.length
  | [], cs, b => by cases cs <;> rfl
  | i :: is, [], b => rfl
  | i :: is, c :: cs, b => by simp [setAll, setAll_length is cs]

theorem setAll_get : ∀ (is : List Nat) (cs b : List (List AV)) (i : Nat), is.Nodup → cs.length = is.length → i < b.length → (setAll is cs b)[i]? = if i ∈ is then cs[is.idxOf i]? else b[i]?
  | [], cs, b, i, _, hl, _ => by cases cs <;> simp [setAll]
  | j :: is, [], b, i, _, hl, _ => by simp at hl
  | j :: is, c :: cs, b, i, hn, hl, hi => by
    obtain ⟨h1, h2⟩ := List.nodup_cons.1 hn
    simp only [setAll]
    rw [setAll_get is cs _ i h2 (by simpa using hl) (by simpa using hi)]
    by_cases hij : i = j
    · subst hij
      rw [if_neg h1, if_pos (by simp)]
      simp [List.getElem?_set_self hi]
    · by_cases him : i ∈ is
      · rw [if_pos him, if_pos (by simp [him]), List.idxOf_cons]
        have : (j == i) = false := by simpa using Ne.symm hij
        simp [this]
      · rw [if_neg him, if_neg (by simp [hij, him]), List.getElem?_set_ne (Ne.symm hij)]

section
variable {P : Program}

theorem viewB_stable {is : List Nat} {G : Nat → Status} {b : Nat} (h : Stable G b) : Stable (viewB is G) b := by unfold Stable at *; simp [viewB, h]
theorem viewB_stable' {is : List Nat} {G : Nat → Status} {b : Nat} (h : Stable (viewB is G) b) : Stable G b := by
  unfold Stable viewB at *
  split at h
  · assumption
  · split at h <;> cases h
  · cases h
theorem viewB_box {is : List Nat} {G : Nat → Status} {b j : Nat} (h : viewB is G b = .box j) : ∃ i, G b = .box i ∧ i ∈ is ∧ is.idxOf i = j := by
  unfold viewB at h
  split at h
  · cases h
  · rename_i i hi
    split at h
    · rename_i hc; cases h; exact ⟨i, hi, by simpa using hc, rfl⟩
    · cases h
  · cases h
theorem viewB_tag {is : List Nat} {G : Nat → Status} (b t : Nat) : viewB is G b ≠ .tag t := fun h => by
  unfold viewB at h
  split at h
  · cases h
  · split at h <;> cases h
  · cases h

theorem VRel.viewB {is : List Nat} {G : Nat → Status} {w : World} {x : AV} {v : Value} (h : VRel G w x v) (hq : x.allLeaf noTag = true) : VRel (AM.viewB is G) w (x.mapTop (pbIn is)) v := by
  have hF : ∀ {x v}, FRel (Stable G) w x v → FRel (Stable (AM.viewB is G)) w x v := fun h => h.mono (fun b => viewB_stable) (fun _ _ => rfl)
  have hsl : ∀ {t es xs v}, t < 2 → VRel G w (.sl t es xs) v → VRel (AM.viewB is G) w (.sl t es xs) v := by
    intro t es xs v ht h
    cases h with
    | froz h => exact .froz (hF h)
    | own => omega
  refine h.mapTopQ (fun x v hx hq h => ?_) hq
  cases x with
  | so t xs => simp [noTag] at hq
  | po t xs i => simp [noTag] at hq
  | sl t es xs => simp only [noTag, decide_eq_true_eq] at hq; exact hsl hq h
  | pe t es xs i o =>
    simp only [noTag, decide_eq_true_eq] at hq
    obtain ⟨b, off, c, h1, h2, rfl⟩ := h.pe_inv
    exact .pe _ _ _ _ _ _ _ _ (hsl hq h1) h2
  | pb i o =>
    obtain ⟨b, hb, rfl⟩ := h.pb_inv
    simp only [pbIn]
    split
    · rename_i hc; exact .pb _ _ _ (by simp only [AM.viewB, hb, hc, if_true])
    · exact .froz (.any _)
  | ag cs => simp [AV.leafy] at hx
  | tup cs => simp [AV.leafy] at hx
  | any => exact .froz (.any _)
  | nil => rw [h.nil_inv]; exact .froz .nil
  | ub => obtain ⟨b, rfl⟩ := h.ub_inv; exact .froz (.ub b)
  | sc u => rw [h.sc_inv]; exact .froz (.sc _)
  | fn g caps => cases h with | froz h => exact .froz (hF h)
  | fp cs o => cases h with | froz h => exact .froz (hF h)

theorem Good.viewB {is : List Nat} {G : Nat → Status} {w : World} (h : Good G w) : Good (AM.viewB is G) w := by
  refine ⟨fun b hb => h.lt b fun h' => hb (by simp [AM.viewB, h']), fun b b' t h1 => absurd h1 (viewB_tag b t), fun b b' j h1 h2 => ?_⟩
  obtain ⟨i, g1, g2, g3⟩ := viewB_box h1
  obtain ⟨i', k1, k2, k3⟩ := viewB_box h2
  have : i = i' := idxOf_inj g2 k2 (by omega)
  subst this
  exact h.boxes b b' i g1 k1

theorem VRel.backB {d n n0 : Nat} {is : List Nat} {G G' : Nat → Status} {w' : World} {x : AV} {v : Value} (h : VRel G' w' x v) (hdl : d < 16383) (hlt : x.allLeaf lt64b = true)
    (hG : ∀ b, b < n → G' b = AM.viewB is G b) (hnew : ∀ b j, ¬ b < n → G' b = .box j → is.length ≤ j) : VRel (AM.backB d n is n0 G G') w' (x.mapTop (outLeaf (64 * (d + 1)) is n0)) v := by
  have hS : ∀ b, Stable G' b → Stable (AM.backB d n is n0 G G') b := by
    intro b hb
    by_cases hlt : b < n
    · have : Stable G b := viewB_stable' (is := is) (by unfold Stable at *; rw [← hG b hlt]; exact hb)
      unfold Stable at *; simp [AM.backB, hlt, this]
    · unfold Stable at *; simp [AM.backB, hlt, hb]
  have hF : ∀ {x v}, FRel (Stable G') w' x v → FRel (Stable (AM.backB d n is n0 G G')) w' x v := fun h => h.mono hS (fun _ _ => rfl)
  refine h.mapTopQ (fun x v hx hq h => ?_) hlt
  cases x with
  | sl t es xs =>
    simp only [lt64b, decide_eq_true_eq] at hq
    simp only [outLeaf, shiftTag]
    cases h with
    | froz h =>
      have : t < 2 := by cases h <;> assumption
      rw [if_pos this]
      exact .froz (hF h)
    | own _ _ _ _ e vals g1 g2 g3 g4 g0 g5 =>
      rw [if_neg (by omega)]
      refine .own _ es xs v e vals (by omega) g2 (fun b hb => ?_) g4 g0 (g5.mono fun x y hx hr => hF hr)
      have hgb := g3 b hb
      have : ¬ b < n := fun hlt => by rw [hG b hlt] at hgb; exact viewB_tag b t hgb
      simp [AM.backB, this, hgb, hq]
  | so t xs =>
    simp only [lt64b, decide_eq_true_eq] at hq
    simp only [outLeaf, shiftTag]
    have ht := h.so_two
    rw [if_neg (by omega)]
    have hroot : root (t + 64 * (d + 1)) = root t + 64 * (d + 1) := by unfold root at *; omega
    have hnb : ∀ b t, G' b = .tag t → ¬ b < n := fun b t hgb hlt => by rw [hG b hlt] at hgb; exact viewB_tag b t hgb
    cases h with
    | froz h => cases h
    | so _ _ _ e vals g1 g2 g3 g4 g0 g5 =>
    refine .so _ _ v e vals (by omega) (by rw [List.length_map]; exact g2) (fun b hb => ?_) (fun y hy => ?_) g0 ⟨by simpa using g5.1, fun j y u hy hu => ?_⟩
    · have hgb := g3 b hb
      simp [AM.backB, hnb b t hgb, hgb, hq]
    · obtain ⟨x, hx, rfl⟩ := List.mem_map.1 hy
      have := g4 x hx
      cases x <;> first | rfl | (simp [AV.rowLike] at this)
    · rw [List.getElem?_map] at hy
      cases hx : xs[j]? with
      | none => simp [hx] at hy
      | some x =>
        simp [hx] at hy; subst hy
        have hr := g5.2 j x u hx hu
        cases hr with
        | froz hr =>
          have hr' := hF hr
          cases x <;> first | exact .froz hr' | skip
          rename_i t' es ys
          have : t' < 2 := by cases hr <;> assumption
          simp only [shiftRow, shiftTag]; rw [if_pos (by omega)]; exact .froz hr'
        | own t' es ys _ e' vals' k1 krt k2 k3 k4 k0 k5 =>
          simp only [shiftRow, shiftTag]; rw [if_neg (by omega)]
          refine .own _ es ys u e' vals' (by omega) (by unfold root at *; omega) k2 (fun b hb => ?_) k4 k0 (k5.mono fun z y hz hr => hF hr)
          have hgb := k3 b hb
          have hr64 : root t' < 64 := by omega
          simp [AM.backB, hnb b t' hgb, hgb, hr64]
  | po t xs i => simp [lt64b] at hq
  | pe t es xs i o =>
    simp only [lt64b, decide_eq_true_eq] at hq
    obtain ⟨b, off, c, h1, h2, rfl⟩ := h.pe_inv
    cases h1 with
    | froz h1 => exact .froz (.pe _ _ _ _ _ _ _ _ (hF h1) h2)
    | own => omega
  | pb j o =>
    obtain ⟨b, hb, rfl⟩ := h.pb_inv
    simp only [outLeaf]
    by_cases hlt : b < n
    · rw [hG b hlt] at hb
      obtain ⟨i, g1, g2, g3⟩ := viewB_box hb
      have hjl : j < is.length := by rw [← g3]; exact List.idxOf_lt_length_iff.2 g2
      have : is.getD j 0 = i := by
        rw [List.getD_eq_getElem?_getD, List.getElem?_eq_getElem hjl]
        subst g3; simp
      rw [if_pos hjl, this]
      exact .pb _ _ _ (by simp [AM.backB, hlt, g1])
    · have := hnew b j hlt hb
      rw [if_neg (by omega)]
      exact .pb _ _ _ (by simp [AM.backB, hlt, hb, this])
  | ag cs => simp [AV.leafy] at hx
  | tup cs => simp [AV.leafy] at hx
  | any => exact .froz (.any _)
  | nil => rw [h.nil_inv]; exact .froz .nil
  | ub => obtain ⟨b, rfl⟩ := h.ub_inv; exact .froz (.ub b)
  | sc u => rw [h.sc_inv]; exact .froz (.sc _)
  | fn g caps => cases h with | froz h => exact .froz (hF h)
  | fp cs o => cases h with | froz h => exact .froz (hF h)

/-- a call, given these variables -/
def CallB (P : Program) (f : FuncId) (args : List AV) (is : List Nat) (d : Nat) (σ : St) (K : St → Prop) : Prop :=
  σ.free d = true ∧ d < σ.n ∧ allLeafs noTag args = true ∧ nodupB is = true ∧ ∃ bx, getAll σ.boxes is = some bx ∧ allNoTags bx = true ∧
    Con P f (mapTops (pbIn is) args) (mapB (pbIn is) bx) fun r bx' => r.allLeaf lt64b = true ∧ allNoTags bx' = true ∧
      K (St.put ⟨σ.n, σ.tmps, setAll is (mapB (outLeaf (64 * (d + 1)) is σ.boxes.length) (bx'.take is.length)) σ.boxes ++ mapB (outLeaf (64 * (d + 1)) is σ.boxes.length) (bx'.drop is.length)⟩ (some d) (r.mapTop (outLeaf (64 * (d + 1)) is σ.boxes.length)))

mutual
theorem allLeaf_mono {p q : AV → Bool} (hpq : ∀ y, p y = true → q y = true) : ∀ x : AV, x.allLeaf p = true → x.allLeaf q = true
  | .ag cs, h => by simp only [AV.allLeaf] at *; exact allLeafs_mono hpq cs h
  | .tup cs, h => by simp only [AV.allLeaf] at *; exact allLeafs_mono hpq cs h
  | .any, h => hpq _ h
  | .nil, h => hpq _ h
  | .ub, h => hpq _ h
  | .sc _, h => hpq _ h
  | .sl _ _ _, h => hpq _ h
  | .pb _ _, h => hpq _ h
  | .pe _ _ _ _ _, h => hpq _ h
  | .fn _ _, h => hpq _ h
  | .fp _ _, h => hpq _ h
  | .so _ _, h => hpq _ h
  | .po _ _ _, h => hpq _ h
theorem allLeafs_mono {p q : AV → Bool} (hpq : ∀ y, p y = true → q y = true) : ∀ cs : List AV, allLeafs p cs = true → allLeafs q cs = true
  | [], _ => rfl
  | x :: r, h => by
    simp only [allLeafs, Bool.and_eq_true] at h ⊢
    exact ⟨allLeaf_mono hpq x h.1, allLeafs_mono hpq r h.2⟩
end

theorem CallB.sound {f : FuncId} {args : List AV} {is : List Nat} {d : Nat} {σ : St} {K : St → Prop} {G0 w0 G a w} (hk : CallB P f args is d σ K) (h : SRel G0 w0 σ G a w) (h0 : True) {vs : Array Value}
    (hv : ∀ G, SRel G0 w0 σ G a w → PW (VRel G w) args vs.toList) :
    Callable P f ∧ Calls P f vs w fun e w' => ∃ v σ' G', e = .returned v ∧ K σ' ∧ SRel G0 w0 σ' G' (a.put (some d) v) w' := by
  obtain ⟨hfree, hd, hargs, hnd, bx, hbx, hbt, hcall, hcon⟩ := hk
  refine ⟨hcall, ?_⟩
  obtain ⟨hs, hfr⟩ := h.fresh hfree h0
  have hnd := nodupB_spec hnd
  obtain ⟨hbl, hbg⟩ := getAll_spec hbx
  have hva : PW (VRel (viewB is (killR d G)) w) (mapTops (pbIn is) args) vs.toList := by
    have hv := hv _ hs
    refine ⟨by rw [mapTops_eq]; simpa using hv.1, fun j x u hx hu => ?_⟩
    rw [mapTops_eq, List.getElem?_map] at hx
    cases hj : args[j]? with
    | none => simp [hj] at hx
    | some y => simp [hj] at hx; subst hx; exact (hv.2 j y u hj hu).viewB (allLeafs_mem hargs y (List.mem_of_getElem? hj))
  have hbr : BRel (viewB is (killR d G)) w (mapB (pbIn is) bx) := by
    intro j cs hj
    rw [mapB_eq, List.getElem?_map] at hj
    cases hc : bx[j]? with
    | none => simp [hc] at hj
    | some c =>
      simp [hc] at hj; subst hj
      have hjl : j < is.length := by rw [← hbl]; exact (List.getElem?_eq_some_iff.1 hc).1
      obtain ⟨c', g1, g2⟩ := hbg j _ (List.getElem?_eq_getElem hjl)
      rw [hc] at g2; cases g2
      obtain ⟨b, vals, ty, k1, k2, k3, k4⟩ := hs.boxes _ _ g1
      refine ⟨b, vals, ty, ?_, k2, k3, by rw [mapTops_eq]; simpa using k4.1, fun i x u hx hu => ?_⟩
      · have : is[j] ∈ is := List.getElem_mem hjl
        simp only [viewB, k1, List.contains_iff_mem.2 this, if_true]
        rw [hnd.idxOf_getElem j hjl]
      · rw [mapTops_eq, List.getElem?_map] at hx
        cases hi : c[i]? with
        | none => simp [hi] at hx
        | some y => simp [hi] at hx; subst hx; exact (k4.2 i y u hi hu).viewB (allNoTags_mem hbt j c hc y (List.mem_of_getElem? hi))
  have hbc : ∀ b i, viewB is (killR d G) b = .box i → i < (mapB (pbIn is) bx).length := fun b i hb => by
    obtain ⟨i', _, g2, g3⟩ := viewB_box hb
    rw [mapB_eq, List.length_map, hbl, ← g3]
    exact List.idxOf_lt_length_iff.2 g2
  refine (hcon _ w vs hs.good.viewB viewB_tag hbc hbr hva).mono ?_
  rintro e w' ⟨v, r, bx', G', rfl, ⟨hlt, hnt, hK⟩, hr, hG', hbr', hbc', e1, e2, e3, e4, e5, e6⟩
  have hold : ∀ b i, killR d G b = .box i → i ∈ is → G' b = .box (is.idxOf i) := fun b i hb hi => by
    rw [e5 b (hs.good.lt b (by rw [hb]; simp))]
    simp only [viewB, hb, List.contains_iff_mem.2 hi, if_true]
  have hnew : ∀ b j, ¬ b < w.heap.size → G' b = .box j → is.length ≤ j := by
    intro b j hb hbj
    apply Classical.byContradiction
    intro hlt
    have hjl : j < is.length := by omega
    obtain ⟨c', g1, g2⟩ := hbg j _ (List.getElem?_eq_getElem hjl)
    obtain ⟨b', vals, ty, k1, k2, k3, k4⟩ := hs.boxes _ _ g1
    have h1 := hold b' _ k1 (List.getElem_mem hjl)
    rw [hnd.idxOf_getElem j hjl] at h1
    have := hG'.boxes _ _ _ hbj h1
    subst this
    exact hb (hs.good.lt b (by rw [k1]; simp))
  have hbxl : is.length ≤ bx'.length := by
    rcases Nat.eq_zero_or_pos is.length with hz | hp
    · omega
    · have hjl : is.length - 1 < is.length := by omega
      obtain ⟨c', g1, g2⟩ := hbg _ _ (List.getElem?_eq_getElem hjl)
      obtain ⟨b', vals, ty, k1, k2, k3, k4⟩ := hs.boxes _ _ g1
      have h1 := hold b' _ k1 (List.getElem_mem hjl)
      rw [hnd.idxOf_getElem _ hjl] at h1
      have := hbc' _ _ h1
      omega
  have hback : ∀ {x v}, VRel G' w' x v → x.allLeaf lt64b = true → VRel (backB d w.heap.size is σ.boxes.length (killR d G) G') w' (x.mapTop (outLeaf (64 * (d + 1)) is σ.boxes.length)) v := fun h hq => h.backB hfr.1 hq e5 hnew
  have hcell : ∀ {cs : List AV} {vals : List Value}, (∀ x ∈ cs, x.allLeaf noTag = true) → PW (VRel G' w') cs vals → PW (VRel (backB d w.heap.size is σ.boxes.length (killR d G) G') w') (mapTops (outLeaf (64 * (d + 1)) is σ.boxes.length) cs) vals := by
    intro cs vals hn hp
    refine ⟨by rw [mapTops_eq]; simpa using hp.1, fun i x u hx hu => ?_⟩
    rw [mapTops_eq, List.getElem?_map] at hx
    cases hi : cs[i]? with
    | none => simp [hi] at hx
    | some y =>
      simp [hi] at hx; subst hx
      exact hback (hp.2 i y u hi hu) (allLeaf_mono (fun y hy => by cases y <;> simp_all [noTag, lt64b]; unfold root; omega) _ (hn y (List.mem_of_getElem? hi)))
  have hkeep : ∀ {x v}, VRel (killR d G) w x v → VRel (backB d w.heap.size is σ.boxes.length (killR d G) G') w' x v := fun h =>
    h.mono (fun b hb => by simp [backB, hs.good.lt b hb]) (fun b hb hn => e6 b (hs.good.lt b hb) (fun i hi => by
      obtain ⟨i', g1, _⟩ := viewB_box hi
      exact hn i' g1))
  have htag : ∀ b t, backB d w.heap.size is σ.boxes.length (killR d G) G' b = .tag t → (b < w.heap.size ∧ killR d G b = .tag t) ∨ (¬ b < w.heap.size ∧ root t / 64 = d + 1 ∧ G' b = .tag (t - 64 * (d + 1))) := by
    intro b t hb
    unfold backB at hb
    split at hb
    · exact .inl ⟨by assumption, hb⟩
    · rename_i hn
      split at hb <;> try (cases hb; done)
      · rename_i t' ht'
        split at hb
        · cases hb; exact .inr ⟨hn, by have := hfr.1; unfold root at *; omega, by rw [ht']; congr 1; omega⟩
        · cases hb
      · split at hb <;> cases hb
  have hbox : ∀ b i, backB d w.heap.size is σ.boxes.length (killR d G) G' b = .box i → (b < w.heap.size ∧ killR d G b = .box i) ∨ (¬ b < w.heap.size ∧ ∃ j, is.length ≤ j ∧ i = σ.boxes.length + (j - is.length) ∧ G' b = .box j) := by
    intro b i hb
    unfold backB at hb
    split at hb
    · exact .inl ⟨by assumption, hb⟩
    · rename_i hn
      split at hb <;> try (cases hb; done)
      · split at hb <;> cases hb
      · rename_i j hj
        split at hb
        · rename_i hle; cases hb; exact .inr ⟨hn, j, hle, rfl, hj⟩
        · cases hb
  have hgood : Good (backB d w.heap.size is σ.boxes.length (killR d G) G') w' := by
    refine ⟨fun b hb => ?_, fun b b' t h1 h2 => ?_, fun b b' i h1 h2 => ?_⟩
    · by_cases hlt : b < w.heap.size
      · omega
      · exact hG'.lt b fun h' => hb (by simp [backB, hlt, h'])
    · rcases htag b t h1 with ⟨_, h1⟩ | ⟨_, h1, g1⟩ <;> rcases htag b' t h2 with ⟨_, h2⟩ | ⟨_, h2, g2⟩
      · exact hs.good.tags b b' t h1 h2
      · exact absurd h2 (hfr.2 b t h1)
      · exact absurd h1 (hfr.2 b' t h2)
      · exact hG'.tags b b' _ g1 g2
    · rcases hbox b i h1 with ⟨_, h1⟩ | ⟨_, j, g1, g2, g3⟩ <;> rcases hbox b' i h2 with ⟨_, h2⟩ | ⟨_, j', k1, k2, k3⟩
      · exact hs.good.boxes b b' i h1 h2
      · have := hs.blt b i h1; omega
      · have := hs.blt b' i h2; omega
      · have : j = j' := by omega
        subst this
        exact hG'.boxes b b' j g3 k3
  have hlen1 : (setAll is (mapB (outLeaf (64 * (d + 1)) is σ.boxes.length) (bx'.take is.length)) σ.boxes).length = σ.boxes.length := setAll_length _ _ _
  refine ⟨v, _, backB d w.heap.size is σ.boxes.length (killR d G) G', rfl, hK, ?_⟩
  refine { good := hgood, slots := slots_put (σ := ⟨σ.n, σ.tmps, _⟩) (fun s => hkeep (hs.slots s)) hs.size (by simpa [dstOk] using hd) (hback hr hlt), boxes := ?_, blt := ?_, size := ?_, defs := ?_, os := e1.trans hs.os, tape := e2.trans hs.tape, output := e3.trans hs.output, hsize := Nat.le_trans hs.hsize e4, stat := ?_, keep := ?_ }
  · rw [put_boxes]
    intro i cs hi
    simp only at hi
    by_cases hin : i < σ.boxes.length
    · rw [List.getElem?_append_left (by rw [hlen1]; exact hin), setAll_get is _ _ i hnd (by rw [mapB_eq]; simp; omega) hin] at hi
      split at hi
      · rename_i him
        rw [mapB_eq, List.getElem?_map, List.getElem?_take] at hi
        have hjl := List.idxOf_lt_length_iff.2 him
        rw [if_pos hjl] at hi
        cases hc : bx'[is.idxOf i]? with
        | none => simp [hc] at hi
        | some c =>
          simp [hc] at hi; subst hi
          obtain ⟨b, vals, ty, k1, k2, k3, k4⟩ := hbr' _ _ hc
          obtain ⟨c'', hcc⟩ : ∃ c'', σ.boxes[i]? = some c'' := ⟨σ.boxes[i], List.getElem?_eq_getElem hin⟩
          obtain ⟨b2, _, _, q1, _⟩ := hs.boxes i c'' hcc
          have hb2 := hold b2 i q1 him
          have := hG'.boxes _ _ _ k1 hb2
          subst this
          exact ⟨b, vals, ty, by simp [backB, hs.good.lt b (by rw [q1]; simp), q1], k2, k3, hcell (allNoTags_mem hnt _ c hc) k4⟩
      · rename_i him
        obtain ⟨b, vals, ty, k1, k2, k3, k4⟩ := hs.boxes i cs hi
        have hbl := hs.good.lt b (by rw [k1]; simp)
        refine ⟨b, vals, ty, by simp [backB, hbl, k1], ?_, k3, k4.mono fun x u _ hr => hkeep hr⟩
        rw [e6 b hbl (fun j hj => by
          obtain ⟨i', g1, g2, _⟩ := viewB_box hj
          rw [k1] at g1; cases g1; exact him g2)]
        exact k2
    · rw [List.getElem?_append_right (by rw [hlen1]; omega), hlen1, mapB_eq, List.getElem?_map, List.getElem?_drop] at hi
      cases hc : bx'[is.length + (i - σ.boxes.length)]? with
      | none => simp [hc] at hi
      | some c =>
        simp [hc] at hi; subst hi
        obtain ⟨b, vals, ty, k1, k2, k3, k4⟩ := hbr' _ _ hc
        have hbn : ¬ b < w.heap.size := fun hlt => by
          rw [e5 b hlt] at k1
          obtain ⟨i', g1, g2, g3⟩ := viewB_box k1
          have := List.idxOf_lt_length_iff.2 g2
          omega
        refine ⟨b, vals, ty, ?_, k2, k3, hcell (allNoTags_mem hnt _ c hc) k4⟩
        simp only [backB, hbn, if_false, k1]
        rw [if_pos (by omega)]
        congr 1; omega
  · intro b i hb
    rw [put_boxes]
    simp only [List.length_append, hlen1]
    rcases hbox b i hb with ⟨_, h1⟩ | ⟨_, j, g1, g2, g3⟩
    · have := hs.blt b i h1; omega
    · have := hbc' b j g3
      rw [mapB_eq, List.length_map, List.length_drop]
      omega
  · rw [put_size, put_n]; exact hs.size
  · rw [put_defers]; exact hs.defs
  · intro b hb hnt
    have : b < w.heap.size := Nat.lt_of_lt_of_le hb hs.hsize
    simp [backB, this]; exact hs.stat b hb hnt
  · intro b hb hn hnt
    have hlt : b < w.heap.size := Nat.lt_of_lt_of_le hb hs.hsize
    rw [e6 b hlt (fun j hj => by
      obtain ⟨i', g1, _⟩ := viewB_box hj
      rw [hs.stat b hb hnt] at g1
      exact hn i' g1)]
    exact hs.keep b hb hn hnt

/-- tags by their roots' places -/
def renT (ts : List Nat) (t : Nat) : Nat := 2 + ts.idxOf (root t) + 1048576 * (t / 1048576)
def renRow (ts : List Nat) : AV → AV
  | .sl t es xs => if 2 ≤ t then .sl (renT ts t) es xs else .sl t es xs
  | x => x
def renLeaf (ts : List Nat) : AV → AV
  | .sl t es xs => if 2 ≤ t then .sl (renT ts t) es xs else .sl t es xs
  | .pe t es xs i o => if 2 ≤ t then .pe (renT ts t) es xs i o else .pe t es xs i o
  | .so t xs => .so (renT ts t) (xs.map (renRow ts))
  | .po t xs i => .po (renT ts t) (xs.map (renRow ts)) i
  | x => x
def AV.canon (x : AV) : AV := x.mapTop (renLeaf x.tags)

def endG (ts : List Nat) (m : Nat) (G : Nat → Status) (b : Nat) : Status :=
  match G b with
  | .stable => .stable
  | .tag t => if root t ∈ ts then .tag (renT ts t) else .junk
  | .box i => if i < m then .box i else .junk
  | .junk => .junk

theorem endG_stable {ts : List Nat} {m : Nat} {G : Nat → Status} {b : Nat} (h : Stable G b) : Stable (endG ts m G) b := by unfold Stable at *; simp [endG, h]

theorem VRel.endG {ts : List Nat} {m : Nat} {G : Nat → Status} {w : World} {x : AV} {v : Value} (h : VRel G w x v) (hq : x.allLeaf (fun y => tagsIn ts y && pbLt m y) = true) : VRel (AM.endG ts m G) w (x.mapTop (renLeaf ts)) v := by
  have hsl : ∀ {t es xs v}, (t < 2 ∨ root t ∈ ts) → VRel G w (.sl t es xs) v → VRel (AM.endG ts m G) w (if 2 ≤ t then .sl (renT ts t) es xs else .sl t es xs) v := by
    intro t es xs v ht h
    cases h with
    | froz h =>
      have : t < 2 := by cases h <;> assumption
      rw [if_neg (by omega)]
      exact .froz (h.mono (fun b => endG_stable) (fun _ _ => rfl))
    | own _ _ _ _ e vals h1 h2 h3 h4 h0 h5 =>
      rw [if_pos h1]
      have ht' : root t ∈ ts := ht.resolve_left (by omega)
      exact .own _ es xs v e vals (by unfold renT; omega) h2 (fun b hb => by unfold AM.endG; rw [h3 b hb]; simp [ht']) h4 h0 (h5.mono fun x y _ hr => hr.mono (fun b => endG_stable) (fun _ _ => rfl))
  have hso : ∀ {t xs v}, root t ∈ ts → VRel G w (.so t xs) v → VRel (AM.endG ts m G) w (.so (renT ts t) (xs.map (renRow ts))) v := by
    intro t xs v ht h
    refine h.so_map (by unfold renT; omega) (fun x u hx hr => ?_) (fun b hb => ⟨by unfold AM.endG; rw [hb]; simp [ht], rfl⟩)
    cases hr with
    | froz hr =>
      have hr' := hr.mono (S' := Stable (AM.endG ts m G)) (w' := w) (fun b => endG_stable) (fun _ _ => rfl)
      cases x <;> first | exact ⟨hx, .froz hr'⟩ | skip
      rename_i t' es ys
      have : t' < 2 := by cases hr <;> assumption
      simp only [renRow]; rw [if_neg (by omega)]; exact ⟨hx, .froz hr'⟩
    | own t' es ys _ e vals h1 hrt h2 h3 h4 h0 h5 =>
      simp only [renRow]; rw [if_pos h1]
      have hro : root (renT ts t') = root (renT ts t) := by unfold renT; rw [hrt]; unfold root; omega
      exact ⟨rfl, .own _ es ys _ e vals (by unfold renT; omega) hro h2 (fun b hb => by unfold AM.endG; rw [h3 b hb]; simp [hrt, ht]) h4 h0 (h5.mono fun x y _ hr => hr.mono (fun b => endG_stable) (fun _ _ => rfl))⟩
  refine h.mapTopQ (fun x v hx hq h => ?_) hq
  cases x with
  | so t xs =>
    simp only [tagsIn, pbLt, Bool.and_true, List.contains_iff_mem] at hq
    exact hso hq h
  | po t xs i =>
    simp only [tagsIn, pbLt, Bool.and_true, List.contains_iff_mem] at hq
    obtain ⟨b, off, c, h1, h2, rfl⟩ := h.po_inv
    exact (hso hq h1).po_of (by simp) h2
  | sl t es xs =>
    simp only [tagsIn, pbLt, Bool.and_true, Bool.or_eq_true, decide_eq_true_eq, List.contains_iff_mem] at hq
    have := hsl hq h; simp only [renLeaf]; exact this
  | pe t es xs i o =>
    simp only [tagsIn, pbLt, Bool.and_true, Bool.or_eq_true, decide_eq_true_eq, List.contains_iff_mem] at hq
    obtain ⟨b, off, c, h1, h2, rfl⟩ := h.pe_inv
    have := hsl hq h1
    simp only [renLeaf]
    split at this
    · rename_i ht; rw [if_pos ht]; exact .pe _ _ _ _ _ _ _ _ this h2
    · rename_i ht; rw [if_neg ht]; exact .pe _ _ _ _ _ _ _ _ this h2
  | pb i o =>
    simp only [tagsIn, pbLt, Bool.true_and, decide_eq_true_eq] at hq
    obtain ⟨b, hb, rfl⟩ := h.pb_inv; exact .pb _ _ _ (by simp [AM.endG, hb, hq])
  | ag cs => simp [AV.leafy] at hx
  | tup cs => simp [AV.leafy] at hx
  | any => exact .froz (.any _)
  | nil => rw [h.nil_inv]; exact .froz .nil
  | ub => obtain ⟨b, rfl⟩ := h.ub_inv; exact .froz (.ub b)
  | sc u => rw [h.sc_inv]; exact .froz (.sc _)
  | fn g caps => cases h with | froz h => exact .froz (h.mono (fun b => endG_stable) (fun _ _ => rfl))
  | fp cs o => cases h with | froz h => exact .froz (h.mono (fun b => endG_stable) (fun _ _ => rfl))

theorem Good.endG {ts : List Nat} {m : Nat} {G : Nat → Status} {w : World} (h : Good G w) (hlen : ts.length < 1000) : Good (AM.endG ts m G) w := by
  have htag : ∀ b t, AM.endG ts m G b = .tag t → ∃ t', root t' ∈ ts ∧ G b = .tag t' ∧ t = renT ts t' := by
    intro b t hb
    unfold AM.endG at hb
    split at hb <;> try (cases hb; done)
    · rename_i t' ht'
      split at hb
      · rename_i hm; cases hb; exact ⟨t', hm, ht', rfl⟩
      · cases hb
    · split at hb <;> cases hb
  have hbox : ∀ b i, AM.endG ts m G b = .box i → G b = .box i := by
    intro b i hb
    unfold AM.endG at hb
    split at hb <;> try (cases hb; done)
    · split at hb <;> cases hb
    · rename_i i' hi'
      split at hb
      · cases hb; exact hi'
      · cases hb
  refine ⟨fun b hb => h.lt b fun h' => hb (by simp [AM.endG, h']), fun b b' t h1 h2 => ?_, fun b b' i h1 h2 => h.boxes b b' i (hbox b i h1) (hbox b' i h2)⟩
  obtain ⟨t1, m1, g1, e1⟩ := htag b t h1
  obtain ⟨t2, m2, g2, e2⟩ := htag b' t h2
  have i1 := List.idxOf_lt_length_iff.2 m1
  have i2 := List.idxOf_lt_length_iff.2 m2
  have e3 : ts.idxOf (root t1) = ts.idxOf (root t2) := by unfold renT at e1 e2; omega
  have e4 := idxOf_inj m1 m2 e3
  have : t1 = t2 := by unfold renT at e1 e2; unfold root at e4; rw [e3] at e1; omega
  subst this
  exact h.tags b b' t1 g1 g2


/-! ### a call that is lent what it is given -/
/-- THE CONTRACT of a function that may write to what its arguments own. -/
def ConC (P : Program) (f : FuncId) (args : List AV) (post : AV → Prop) : Prop :=
  Callable P f ∧ ∀ (G : Nat → Status) (w : World) (vs : Array Value), Good G w → (∀ b i, G b ≠ .box i) → PW (VRel G w) args vs.toList →
    Calls P f vs w (fun e w' => ∃ v r G', e = .returned v ∧ post r ∧ VRel G' w' r v ∧ Good G' w' ∧ (∀ b i, G' b ≠ .box i) ∧
      w'.os = w.os ∧ w'.tape = w.tape ∧ w'.output = w.output ∧ w.heap.size ≤ w'.heap.size ∧ (∀ b, b < w.heap.size → (∀ t, G b ≠ .tag t) → G' b = G b) ∧ (∀ b, b < w.heap.size → (∀ t, G b ≠ .tag t) → w'.heap[b]? = w.heap[b]?))

/-- what bears one of these roots is forgotten -/
def killS (ts : List Nat) : AV → AV
  | .sl t es xs => if 2 ≤ t ∧ ts.contains (root t) = true then .any else .sl t es xs
  | .pe t es xs i o => if 2 ≤ t ∧ ts.contains (root t) = true then .any else .pe t es xs i o
  | .so t xs => if ts.contains (root t) = true then .any else .so t xs
  | .po t xs i => if ts.contains (root t) = true then .any else .po t xs i
  | x => x
def killSG (ts : List Nat) (G : Nat → Status) (b : Nat) : Status :=
  match G b with
  | .tag t => if ts.contains (root t) = true then .junk else .tag t
  | s => s

theorem killSG_stable {ts : List Nat} {G : Nat → Status} {b : Nat} : Stable (killSG ts G) b ↔ Stable G b := by
  unfold Stable killSG
  cases h : G b <;> simp
  split <;> simp

theorem VRel.killS {ts : List Nat} {G : Nat → Status} {w : World} {x : AV} {v : Value} (h : VRel G w x v) : VRel (killSG ts G) w (x.mapTop (AM.killS ts)) v := by
  have hF : ∀ {x v}, FRel (Stable G) w x v → FRel (Stable (killSG ts G)) w x v := fun hr => hr.mono (fun b => killSG_stable.2) (fun _ _ => rfl)
  have hsl : ∀ {t es xs v}, ¬ (2 ≤ t ∧ ts.contains (root t) = true) → VRel G w (.sl t es xs) v → VRel (killSG ts G) w (.sl t es xs) v := by
    intro t es xs v hc h
    cases h with
    | froz h => exact .froz (hF h)
    | own _ _ _ _ e vals h1 h2 h3 h4 h0 h5 =>
      exact .own t es xs v e vals h1 h2 (fun b hb => by unfold killSG; rw [h3 b hb]; simp only; rw [if_neg (fun h => hc ⟨h1, h⟩)]) h4 h0 (h5.mono fun x y _ hr => hF hr)
  have hso : ∀ {t xs v}, ¬ ts.contains (root t) = true → VRel G w (.so t xs) v → VRel (killSG ts G) w (.so t xs) v := by
    intro t xs v hc h
    have := h.so_map (f := id) (G' := killSG ts G) (w' := w) h.so_two (fun x u hx hr => ⟨hx, by
      cases hr with
      | froz hr => exact .froz (hF hr)
      | own t' es ys _ e vals h1 hrt h2 h3 h4 h0 h5 =>
        exact .own t' es ys _ e vals h1 hrt h2 (fun b hb => by unfold killSG; rw [h3 b hb]; simp only; rw [hrt, if_neg hc]) h4 h0 (h5.mono fun x y _ hr => hF hr)⟩)
      (fun b hb => ⟨by unfold killSG; rw [hb]; simp only; rw [if_neg hc], rfl⟩)
    simpa using this
  refine h.mapTop fun x v hx h => ?_
  cases x with
  | sl t es xs =>
    simp only [AM.killS]; split
    · exact .froz (.any _)
    · rename_i hc; exact hsl hc h
  | pe t es xs i o =>
    obtain ⟨b, off, c, h1, h2, rfl⟩ := h.pe_inv
    simp only [AM.killS]; split
    · exact .froz (.any _)
    · rename_i hc; exact .pe _ _ _ _ _ _ _ _ (hsl hc h1) h2
  | so t xs =>
    simp only [AM.killS]; split
    · exact .froz (.any _)
    · rename_i hc; exact hso hc h
  | po t xs i =>
    obtain ⟨b, off, c, h1, h2, rfl⟩ := h.po_inv
    simp only [AM.killS]; split
    · exact .froz (.any _)
    · rename_i hc; exact (hso hc h1).po_of rfl h2
  | pb i o => obtain ⟨b, hb, rfl⟩ := h.pb_inv; exact .pb _ _ _ (by simp [killSG, hb])
  | ag cs => simp [AV.leafy] at hx
  | tup cs => simp [AV.leafy] at hx
  | any => exact .froz (.any _)
  | nil => rw [h.nil_inv]; exact .froz .nil
  | ub => obtain ⟨b, rfl⟩ := h.ub_inv; exact .froz (.ub b)
  | sc u => rw [h.sc_inv]; exact .froz (.sc _)
  | fn g caps => cases h with | froz h => exact .froz (hF h)
  | fp cs o => cases h with | froz h => exact .froz (hF h)

/-- the blocks behind a call that was lent what it was given -/
def backC (d n : Nat) (ts : List Nat) (G G' : Nat → Status) (b : Nat) : Status :=
  if b < n ∧ killSG ts G b = G b then G b else
    match G' b with
    | .stable => .stable
    | .tag t => if root t < 64 then .tag (t + 64 * (d + 1)) else .junk
    | _ => .junk

def lt64c : AV → Bool
  | .sl t _ _ => decide (root t < 64)
  | .so t _ => decide (root t < 64)
  | .pb _ _ => false
  | .pe t _ _ _ _ => decide (t < 2)
  | .po _ _ _ => false
  | _ => true

def CallC (P : Program) (f : FuncId) (args : List AV) (d : Nat) (σ : St) (K : St → Prop) : Prop :=
  σ.free d = true ∧ d < σ.n ∧ allLeafs (pbLt 0) args = true ∧ (tagss args).length < 60 ∧
    ConC P f (mapTops (renLeaf (tagss args)) args) fun r => r.allLeaf lt64c = true ∧ K ((σ.map (killS (tagss args))).put (some d) (r.shift (64 * (d + 1))))

theorem CallC.sound {f : FuncId} {args : List AV} {d : Nat} {σ : St} {K : St → Prop} {G0 w0 G a w} (hk : CallC P f args d σ K) (h : SRel G0 w0 σ G a w) {vs : Array Value}
    (hv : ∀ G, SRel G0 w0 σ G a w → PW (VRel G w) args vs.toList) :
    Callable P f ∧ Calls P f vs w fun e w' => ∃ v σ' G', e = .returned v ∧ K σ' ∧ SRel G0 w0 σ' G' (a.put (some d) v) w' := by
  obtain ⟨hfree, hd, hpb, htl, hcall, hcon⟩ := hk
  refine ⟨hcall, ?_⟩
  obtain ⟨hs, hfr⟩ := h.fresh hfree trivial
  generalize killR d G = G1 at hs hfr
  generalize hts : tagss args = ts at *
  have hGc : Good (endG ts 0 G1) w := hs.good.endG (by omega)
  have hbox : ∀ b i, endG ts 0 G1 b ≠ .box i := fun b i hb => by
    cases hg : G1 b <;> simp only [endG, hg] at hb
    · cases hb
    · split at hb <;> cases hb
    · rw [if_neg (by omega)] at hb; cases hb
    · cases hb
  have hva : PW (VRel (endG ts 0 G1) w) (mapTops (renLeaf ts) args) vs.toList := by
    have hv := hv _ hs
    refine ⟨by rw [mapTops_eq]; simpa using hv.1, fun j x u hx hu => ?_⟩
    rw [mapTops_eq, List.getElem?_map] at hx
    cases hj : args[j]? with
    | none => simp [hj] at hx
    | some y =>
      simp [hj] at hx; subst hx
      have hmem := List.mem_of_getElem? hj
      exact (hv.2 j y u hj hu).endG (allLeaf_and _ _ _ (tags_in _ y (fun t ht => by rw [← hts]; exact tagss_mem hmem t ht)) (allLeafs_mem hpb y hmem))
  refine (hcon _ w vs hGc hbox hva).mono ?_
  rintro e w' ⟨v, r, G', rfl, ⟨hlt, hK⟩, hr, hG', hbox', e1, e2, e3, e4, e5, e6⟩
  -- which blocks were lent
  have hnl : ∀ b, killSG ts G1 b = G1 b → ∀ t, endG ts 0 G1 b ≠ .tag t := by
    intro b hb t ht
    cases hg : G1 b <;> simp only [endG, hg] at ht
    · cases ht
    · rename_i t'
      split at ht
      · rename_i hm
        simp only [killSG, hg, List.contains_iff_mem.2 hm, if_true] at hb
        cases hb
      · cases ht
    · rw [if_neg (by omega)] at ht; cases ht
    · cases ht
  have hkj : ∀ b, killSG ts G1 b ≠ .junk → killSG ts G1 b = G1 b := by
    intro b hb
    unfold killSG at *
    cases hg : G1 b <;> simp only [hg] at * 
    split at hb
    · exact absurd rfl hb
    · rename_i hc; rw [if_neg hc]
  have hkeep : ∀ {x v}, VRel (killSG ts G1) w x v → VRel (backC d w.heap.size ts G1 G') w' x v := fun hx =>
    hx.mono (fun b hb => by
      have h1 := hkj b hb
      have h2 := hs.good.lt b (by rw [← h1]; exact hb)
      unfold backC; rw [if_pos ⟨h2, h1⟩, h1]) (fun b hb _ => by
      have h1 := hkj b hb
      exact e6 b (hs.good.lt b (by rw [← h1]; exact hb)) (hnl b h1))
  have hS : ∀ b, Stable G' b → Stable (backC d w.heap.size ts G1 G') b := by
    intro b hb
    unfold Stable at *
    unfold backC
    split
    · rename_i hc
      have h1 := e5 b hc.1 (hnl b hc.2)
      rw [hb] at h1
      unfold endG at h1
      split at h1 <;> first | assumption | (cases h1; done) | (split at h1 <;> cases h1)
    · rw [hb]
  have hF : ∀ {x v}, FRel (Stable G') w' x v → FRel (Stable (backC d w.heap.size ts G1 G')) w' x v := fun hx => hx.mono hS (fun _ _ => rfl)
  have hT : ∀ b t, G' b = .tag t → root t < 64 → backC d w.heap.size ts G1 G' b = .tag (t + 64 * (d + 1)) := by
    intro b t hb ht
    unfold backC
    rw [if_neg (fun hc => by
      have h1 := e5 b hc.1 (hnl b hc.2)
      rw [hb] at h1
      exact hnl b hc.2 t h1.symm), hb]
    simp only [ht, if_true]
  have hdl := hfr.1
  have hres : VRel (backC d w.heap.size ts G1 G') w' (r.shift (64 * (d + 1))) v := by
    refine hr.mapTopQ (fun x v hx hq hr => ?_) hlt
    cases x with
    | sl t es xs =>
      simp only [lt64c, decide_eq_true_eq] at hq
      simp only [shiftLeaf, shiftTag]
      cases hr with
      | froz hr =>
        have : t < 2 := by cases hr <;> assumption
        rw [if_pos this]; exact .froz (hF hr)
      | own _ _ _ _ e vals g1 g2 g3 g4 g0 g5 =>
        rw [if_neg (by omega)]
        exact .own _ es xs v e vals (by omega) g2 (fun b hb => hT b t (g3 b hb) hq) g4 g0 (g5.mono fun x y _ hr => hF hr)
    | so t xs =>
      simp only [lt64c, decide_eq_true_eq] at hq
      simp only [shiftLeaf, shiftTag]
      have ht := hr.so_two
      rw [if_neg (by omega)]
      have hroot : root (t + 64 * (d + 1)) = root t + 64 * (d + 1) := by unfold root at *; omega
      cases hr with
      | froz hr => cases hr
      | so _ _ _ e vals g1 g2 g3 g4 g0 g5 =>
      refine .so _ _ v e vals (by omega) (by rw [List.length_map]; exact g2) (fun b hb => hT b t (g3 b hb) hq) (fun y hy => ?_) g0 ⟨by simpa using g5.1, fun j y u hy hu => ?_⟩
      · obtain ⟨x, hx, rfl⟩ := List.mem_map.1 hy
        have := g4 x hx
        cases x <;> first | rfl | (simp [AV.rowLike] at this)
      · rw [List.getElem?_map] at hy
        cases hx : xs[j]? with
        | none => simp [hx] at hy
        | some x =>
          simp [hx] at hy; subst hy
          have hr := g5.2 j x u hx hu
          cases hr with
          | froz hr =>
            have hr' := hF hr
            cases x <;> first | exact .froz hr' | skip
            rename_i t' es ys
            have : t' < 2 := by cases hr <;> assumption
            simp only [shiftRow, shiftTag]; rw [if_pos (by omega)]; exact .froz hr'
          | own t' es ys _ e' vals' k1 krt k2 k3 k4 k0 k5 =>
            simp only [shiftRow, shiftTag]; rw [if_neg (by omega)]
            exact .own _ es ys u e' vals' (by omega) (by unfold root at *; omega) k2 (fun b hb => hT b t' (k3 b hb) (by omega)) k4 k0 (k5.mono fun z y hz hr => hF hr)
    | po t xs i => simp [lt64c] at hq
    | pe t es xs i o =>
      simp only [lt64c, decide_eq_true_eq] at hq
      obtain ⟨b, off, c, h1, h2, rfl⟩ := hr.pe_inv
      simp only [shiftLeaf, shiftTag]
      rw [if_pos hq]
      cases h1 with
      | froz h1 => exact .froz (.pe _ _ _ _ _ _ _ _ (hF h1) h2)
      | own => omega
    | pb i o => simp [lt64c] at hq
    | ag cs => simp [AV.leafy] at hx
    | tup cs => simp [AV.leafy] at hx
    | any => exact .froz (.any _)
    | nil => rw [hr.nil_inv]; exact .froz .nil
    | ub => obtain ⟨b, rfl⟩ := hr.ub_inv; exact .froz (.ub b)
    | sc u => rw [hr.sc_inv]; exact .froz (.sc _)
    | fn g caps => cases hr with | froz hr => exact .froz (hF hr)
    | fp cs o => cases hr with | froz hr => exact .froz (hF hr)
  have htag : ∀ b t, backC d w.heap.size ts G1 G' b = .tag t → (b < w.heap.size ∧ G1 b = .tag t) ∨ (root t / 64 = d + 1 ∧ G' b = .tag (t - 64 * (d + 1)) ∧ 64 * (d + 1) ≤ t) := by
    intro b t hb
    unfold backC at hb
    split at hb
    · rename_i hc; exact .inl ⟨hc.1, hb⟩
    · split at hb <;> try (cases hb; done)
      rename_i t' ht'
      split at hb
      · cases hb; exact .inr ⟨by unfold root at *; omega, by rw [ht']; congr 1; omega, by omega⟩
      · cases hb
  have hbx : ∀ b i, backC d w.heap.size ts G1 G' b = .box i → G1 b = .box i := by
    intro b i hb
    unfold backC at hb
    split at hb
    · exact hb
    · split at hb <;> first | (cases hb; done) | (split at hb <;> cases hb)
  have hgood : Good (backC d w.heap.size ts G1 G') w' := by
    refine ⟨fun b hb => ?_, fun b b' t h1 h2 => ?_, fun b b' i h1 h2 => hs.good.boxes b b' i (hbx b i h1) (hbx b' i h2)⟩
    · unfold backC at hb
      split at hb
      · omega
      · exact hG'.lt b fun h' => hb (by simp [h'])
    · rcases htag b t h1 with ⟨_, h1⟩ | ⟨h1, g1, q1⟩ <;> rcases htag b' t h2 with ⟨_, h2⟩ | ⟨h2, g2, q2⟩
      · exact hs.good.tags b b' t h1 h2
      · exact absurd h2 (hfr.2 b t h1)
      · exact absurd h1 (hfr.2 b' t h2)
      · exact hG'.tags b b' _ g1 g2
  have hnlG : ∀ b t, G1 b ≠ .tag t → killSG ts G1 b = G1 b ∨ ∃ t', G1 b = .tag t' := by
    intro b t _
    unfold killSG
    cases hg : G1 b with
    | tag t' => exact .inr ⟨t', rfl⟩
    | _ => exact .inl rfl
  refine ⟨v, _, backC d w.heap.size ts G1 G', rfl, hK, ?_⟩
  refine { good := hgood, slots := slots_put (fun s => ?_) hs.size (show dstOk (σ.map (killS ts)).n (some d) = true from decide_eq_true hd) hres, boxes := fun i cs hi => ?_, blt := fun b i hb => ?_, size := ?_, defs := ?_, os := e1.trans hs.os, tape := e2.trans hs.tape, output := e3.trans hs.output, hsize := Nat.le_trans hs.hsize e4, stat := fun b hb hnt => ?_, keep := fun b hb hn hnt => ?_ }
  · have : (σ.map (killS ts)).get s = (σ.get s).mapTop (killS ts) := lookT_map rfl σ.tmps s
    rw [this]; exact hkeep (hs.slots s).killS
  · rw [put_boxes] at hi
    simp only [St.map, mapB_eq, List.getElem?_map] at hi
    cases hc : σ.boxes[i]? with
    | none => simp [hc] at hi
    | some cs' =>
      simp [hc] at hi; subst hi
      obtain ⟨b, vals, ty, g1, g2, g3, g4⟩ := hs.boxes i cs' hc
      have hb := hs.good.lt b (by rw [g1]; simp)
      have hnk : killSG ts G1 b = G1 b := by unfold killSG; rw [g1]
      refine ⟨b, vals, ty, by unfold backC; rw [if_pos ⟨hb, hnk⟩]; exact g1, by rw [e6 b hb (hnl b hnk)]; exact g2, g3, by rw [mapTops_eq]; simpa using g4.1, fun j x u hx hu => ?_⟩
      rw [mapTops_eq, List.getElem?_map] at hx
      cases hj : cs'[j]? with
      | none => simp [hj] at hx
      | some c => simp [hj] at hx; subst hx; exact hkeep (g4.2 j c u hj hu).killS
  · rw [put_boxes]
    have := hs.blt b i (hbx b i hb)
    simpa [St.map, mapB_eq] using this
  · rw [put_size, put_n]; exact hs.size
  · rw [put_defers]; exact hs.defs
  · have h1 := hs.stat b hb hnt
    have h2 : killSG ts G1 b = G1 b := by
      unfold killSG
      cases hg : G1 b with
      | tag t' => rw [h1] at hg; exact absurd hg (hnt t')
      | _ => rfl
    unfold backC; rw [if_pos ⟨Nat.lt_of_lt_of_le hb hs.hsize, h2⟩]; exact h1
  · have h1 := hs.stat b hb hnt
    have h2 : killSG ts G1 b = G1 b := by
      unfold killSG
      cases hg : G1 b with
      | tag t' => rw [h1] at hg; exact absurd hg (hnt t')
      | _ => rfl
    rw [e6 b (Nat.lt_of_lt_of_le hb hs.hsize) (hnl b h2)]; exact hs.keep b hb hn hnt

/-! ### a call -/
mutual
def AV.pbs : AV → List Nat
  | .ag cs => pbss cs
  | .tup cs => pbss cs
  | .pb i _ => [i]
  | _ => []
def pbss : List AV → List Nat
  | [] => []
  | x :: r => AV.pbs x ++ pbss r
end

def dedup : List Nat → List Nat
  | [] => []
  | i :: is => if is.contains i = true then dedup is else i :: dedup is

/-- a call, by whether it is given variables -/
def CallU (P : Program) (f : FuncId) (args : List AV) (d : Nat) (σ : St) (K : St → Prop) : Prop :=
  match dedup (pbss args) with
  | [] => CallK P f args d σ K ∨ CallB P f args [] d σ K ∨ CallC P f args d σ K
  | i :: is => CallB P f args (i :: is) d σ K

theorem CallU.sound {f : FuncId} {args : List AV} {d : Nat} {σ : St} {K : St → Prop} {G0 w0 G a w} (hk : CallU P f args d σ K) (h : SRel G0 w0 σ G a w) (h0 : True) {vs : Array Value}
    (hv : ∀ G, SRel G0 w0 σ G a w → PW (VRel G w) args vs.toList) :
    Callable P f ∧ Calls P f vs w fun e w' => ∃ v σ' G', e = .returned v ∧ K σ' ∧ SRel G0 w0 σ' G' (a.put (some d) v) w' := by
  unfold CallU at hk
  split at hk
  · rcases hk with hk | hk | hk
    · exact CallK.sound hk h h0 hv
    · exact CallB.sound hk h h0 hv
    · exact CallC.sound hk h hv
  · exact CallB.sound hk h h0 hv

end
end Go.AM
