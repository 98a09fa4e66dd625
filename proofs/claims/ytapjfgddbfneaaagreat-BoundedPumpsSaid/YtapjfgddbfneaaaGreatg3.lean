/- AmR AmV -/
import Derived.Test.YtapjfgddbfneaaaGreatg2
namespace Go.AM
open Go.RowKit
def pbLt (m : Nat) : AV -> Bool
 | .pb i _ => decide (i < m)
 | .mp _ _ _ _ _ => false
 | .cl _ _ => false
 | .tl _ _ _ _ => false
 | _ => true
def noTag : AV -> Bool
 | .sl t _ _ => decide (t < 2)
 | .pe t _ _ _ _ => decide (t < 2)
 | .so _ _ => false
 | .po _ _ _ => false
 | .mp _ _ _ _ _ => false
 | .cl _ _ => false
 | .tl _ _ _ _ => false
 | _ => true
theorem idxOf_inj {ts : List Nat} {a b : Nat} (ha : a ∈ ts) (hb : b ∈ ts) (h : ts.idxOf a = ts.idxOf b) : a = b := by
 have h1 : ts[ts.idxOf a]? = some a := by rw [List.getElem?_eq_getElem (List.idxOf_lt_length_iff.2 ha)]; simp
 have h2 : ts[ts.idxOf b]? = some b := by rw [List.getElem?_eq_getElem (List.idxOf_lt_length_iff.2 hb)]; simp
 rw [h, h2] at h1; cases h1; rfl
def pbIn (is : List Nat) : AV -> AV
 | .pb i o => if is.contains i = true then .pb (is.idxOf i) o else .any
 | x => x
def outLeaf (k : Nat) (is : List Nat) (n0 : Nat) : AV -> AV
 | .pb j o => .pb (if j < is.length then is.getD j 0 else n0 + (j - is.length)) o
 | .sl t es xs => .sl (shiftTag k t) es xs
 | .so t xs => .so (shiftTag k t) (xs.map (shiftRow k))
 | x => x
def lt64b : AV -> Bool
 | .sl t _ _ => decide (root t < 64)
 | .so t _ => decide (root t < 64)
 | .po _ _ _ => false
 | .pe t _ _ _ _ => decide (t < 2)
 | .mp _ _ _ _ _ => false
 | .cl _ _ => false
 | .tl _ _ _ _ => false
 | _ => true
def viewB (is : List Nat) (G : Nat -> Status) (b : Nat) : Status :=
 match G b with
 | .stable => .stable
 | .box i => if is.contains i = true then .box (is.idxOf i) else .junk
 | _ => .junk
def backB (d n : Nat) (is : List Nat) (n0 : Nat) (G G' : Nat -> Status) (b : Nat) : Status :=
 if b < n then G b else
  match G' b with
  | .stable => .stable
  | .tag t => if root t < 64 then .tag (t + 64 * (d + 1)) else .junk
  | .box j => if is.length <= j then .box (n0 + (j - is.length)) else .junk
  | .junk => .junk
def getAll (b : List (List AV)) : List Nat -> Option (List (List AV))
 | [] => some []
 | i :: is => match b[i]? with
  | none => none
  | some c => match getAll b is with
   | none => none
   | some r => some (c :: r)
def setAll : List Nat -> List (List AV) -> List (List AV) -> List (List AV)
 | i :: is, c :: cs, b => setAll is cs (b.set i c)
 | _, _, b => b
def nodupB : List Nat -> Bool
 | [] => true
 | i :: is => !is.contains i && nodupB is
def allNoTags : List (List AV) -> Bool
 | [] => true
 | cs :: r => allLeafs noTag cs && allNoTags r
theorem nodupB_spec : ∀ {l : List Nat}, nodupB l = true -> l.Nodup
 | [], _ => List.nodup_nil
 | i :: is, h => by
  simp only [nodupB, Bool.and_eq_true, Bool.not_eq_true'] at h
  exact List.nodup_cons.2 ⟨by simpa using h.1, nodupB_spec h.2⟩
theorem allNoTags_mem : ∀ {l : List (List AV)}, allNoTags l = true -> ∀ (j : Nat) cs, l[j]? = some cs -> ∀ x ∈ cs, x.allLeaf noTag = true
 | [], _, j, cs, h, _, _ => by simp at h
 | c :: r, h, j, cs, hj, x, hx => by
  simp only [allNoTags, Bool.and_eq_true] at h
  cases j with
  | zero => simp at hj; subst hj; exact allLeafs_mem h.1 x hx
  | succ j => exact allNoTags_mem h.2 j cs (by simpa using hj) x hx
theorem getAll_spec {b : List (List AV)} : ∀ {is : List Nat} {r : List (List AV)}, getAll b is = some r -> r.length = is.length /\ ∀ (j : Nat) i, is[j]? = some i -> ∃ c, b[i]? = some c /\ r[j]? = some c
 | [], r, h => by simp [getAll] at h; subst h; exact ⟨rfl, fun j i hj => by simp at hj⟩
 | i :: is, r, h => by
  simp only [getAll] at h
  split at h
  ·cases h
  ·rename_i c hc
   split at h
   ·cases h
   ·rename_i r' hr
    cases h
    obtain ⟨h1, h2⟩ := getAll_spec hr
    refine ⟨by simp [h1], fun j i' hj => ?_⟩
    cases j with
    | zero => simp at hj; subst hj; exact ⟨c, hc, rfl⟩
    | succ j => obtain ⟨c', g1, g2⟩ := h2 j i' (by simpa using hj); exact ⟨c', g1, by simpa using g2⟩
theorem setAll_length : ∀ (is : List Nat) (cs b : List (List AV)), (setAll is cs b).length = b.length
 | [], cs, b => by cases cs <;> rfl
 | i :: is, [], b => rfl
 | i :: is, c :: cs, b => by simp [setAll, setAll_length is cs]
theorem setAll_get : ∀ (is : List Nat) (cs b : List (List AV)) (i : Nat), is.Nodup -> cs.length = is.length -> i < b.length -> (setAll is cs b)[i]? = if i ∈ is then cs[is.idxOf i]? else b[i]?
 | [], cs, b, i, _, hl, _ => by cases cs <;> simp [setAll]
 | j :: is, [], b, i, _, hl, _ => by simp at hl
 | j :: is, c :: cs, b, i, hn, hl, hi => by
  obtain ⟨h1, h2⟩ := List.nodup_cons.1 hn
  simp only [setAll]
  rw [setAll_get is cs _ i h2 (by simpa using hl) (by simpa using hi)]
  by_cases hij : i = j
  ·subst hij
   rw [if_neg h1, if_pos (by simp)]
   simp [List.getElem?_set_self hi]
  ·by_cases him : i ∈ is
   ·rw [if_pos him, if_pos (by simp [him]), List.idxOf_cons]
    have : (j == i) = false := by simpa using Ne.symm hij
    simp [this]
   ·rw [if_neg him, if_neg (by simp [hij, him]), List.getElem?_set_ne (Ne.symm hij)]
section
variable {P : Program}
theorem viewB_stable {is : List Nat} {G : Nat -> Status} {b : Nat} (h : Stable G b) : Stable (viewB is G) b := by unfold Stable at *; simp [viewB, h]
theorem viewB_stable' {is : List Nat} {G : Nat -> Status} {b : Nat} (h : Stable (viewB is G) b) : Stable G b := by
 unfold Stable viewB at *
 split at h
 ·assumption
 ·split at h <;> cases h
 ·cases h
theorem viewB_box {is : List Nat} {G : Nat -> Status} {b j : Nat} (h : viewB is G b = .box j) : ∃ i, G b = .box i /\ i ∈ is /\ is.idxOf i = j := by
 unfold viewB at h
 split at h
 ·cases h
 ·rename_i i hi
  split at h
  ·rename_i hc; cases h; exact ⟨i, hi, by simpa using hc, rfl⟩
  ·cases h
 ·cases h
theorem viewB_tag {is : List Nat} {G : Nat -> Status} (b t : Nat) : viewB is G b ≠ .tag t := fun h => by
 unfold viewB at h
 split at h
 ·cases h
 ·split at h <;> cases h
 ·cases h
theorem VRel.viewB {is : List Nat} {G : Nat -> Status} {w : World} {x : AV} {v : Value} (h : VRel G w x v) (hq : x.allLeaf noTag = true) : VRel (AM.viewB is G) w (x.mapTop (pbIn is)) v := by
 have hF : ∀ {x v}, FRel (Stable G) w x v -> FRel (Stable (AM.viewB is G)) w x v := fun h => h.mono (fun b => viewB_stable) (fun _ _ => rfl)
 have hsl : ∀ {t es xs v}, t < 2 -> VRel G w (.sl t es xs) v -> VRel (AM.viewB is G) w (.sl t es xs) v := by
  intro t es xs v ht h
  cases h with
  | froz h => exact .froz (hF h)
  | own => omega
 refine h.mapTopQ (fun x v hx hq h => ?_) hq
 cases x with
 | so t xs => simp [noTag] at hq
 | po t xs i => simp [noTag] at hq
 | sl t es xs => simp only [noTag, decide_eq_true_eq] at hq; exact hsl hq h
 | pe t es xs i o =>
  simp only [noTag, decide_eq_true_eq] at hq
  obtain ⟨b, off, c, h1, h2, rfl⟩ := h.pe_inv
  exact .pe _ _ _ _ _ _ _ _ (hsl hq h1) h2
 | pb i o =>
  obtain ⟨b, hb, rfl⟩ := h.pb_inv
  simp only [pbIn]
  split
  ·rename_i hc; exact .pb _ _ _ (by simp only [AM.viewB, hb, hc, if_true])
  ·exact .froz (.any _)
 | ag cs => simp [AV.leafy] at hx
 | tup cs => simp [AV.leafy] at hx
 | any => exact .froz (.any _)
 | nil => rw [h.nil_inv]; exact .froz .nil
 | ub => obtain ⟨b, rfl⟩ := h.ub_inv; exact .froz (.ub b)
 | sc u => rw [h.sc_inv]; exact .froz (.sc _)
 | fn g caps => cases h with | froz h => exact .froz (hF h)
 | mp t P k e D => simp [noTag] at hq
 | cl g caps => simp [noTag] at hq
 | tl t es xs i => simp [noTag] at hq
 | fp cs o => cases h with | froz h => exact .froz (hF h)
theorem Good.viewB {is : List Nat} {G : Nat -> Status} {w : World} (h : Good G w) : Good (AM.viewB is G) w := by
 refine ⟨fun b hb => h.lt b fun h' => hb (by simp [AM.viewB, h']), fun b b' t h1 => absurd h1 (viewB_tag b t), fun b b' j h1 h2 => ?_⟩
 obtain ⟨i, g1, g2, g3⟩ := viewB_box h1
 obtain ⟨i', k1, k2, k3⟩ := viewB_box h2
 have : i = i' := idxOf_inj g2 k2 (by omega)
 subst this
 exact h.boxes b b' i g1 k1
theorem VRel.backB {d n n0 : Nat} {is : List Nat} {G G' : Nat -> Status} {w' : World} {x : AV} {v : Value} (h : VRel G' w' x v) (hdl : d < 16383) (hlt : x.allLeaf lt64b = true)
  (hG : ∀ b, b < n -> G' b = AM.viewB is G b) (hnew : ∀ b j, ¬ b < n -> G' b = .box j -> is.length <= j) : VRel (AM.backB d n is n0 G G') w' (x.mapTop (outLeaf (64 * (d + 1)) is n0)) v := by
 have hS : ∀ b, Stable G' b -> Stable (AM.backB d n is n0 G G') b := by
  intro b hb
  by_cases hlt : b < n
  ·have : Stable G b := viewB_stable' (is := is) (by unfold Stable at *; rw [<- hG b hlt]; exact hb)
   unfold Stable at *; simp [AM.backB, hlt, this]
  ·unfold Stable at *; simp [AM.backB, hlt, hb]
 have hF : ∀ {x v}, FRel (Stable G') w' x v -> FRel (Stable (AM.backB d n is n0 G G')) w' x v := fun h => h.mono hS (fun _ _ => rfl)
 refine h.mapTopQ (fun x v hx hq h => ?_) hlt
 cases x with
 | sl t es xs =>
  simp only [lt64b, decide_eq_true_eq] at hq
  simp only [outLeaf, shiftTag]
  cases h with
  | froz h =>
   have : t < 2 := by cases h <;> assumption
   rw [if_pos this]
   exact .froz (hF h)
  | own _ _ _ _ e vals g1 g2 g3 g4 g0 g5 =>
   rw [if_neg (by omega)]
   refine .own _ es xs v e vals (by omega) g2 (fun b hb => ?_) g4 g0 (g5.mono fun x y hx hr => hF hr)
   have hgb := g3 b hb
   have : ¬ b < n := fun hlt => by rw [hG b hlt] at hgb; exact viewB_tag b t hgb
   simp [AM.backB, this, hgb, hq]
 | so t xs =>
  simp only [lt64b, decide_eq_true_eq] at hq
  simp only [outLeaf, shiftTag]
  have ht := h.so_two
  rw [if_neg (by omega)]
  have hroot : root (t + 64 * (d + 1)) = root t + 64 * (d + 1) := by unfold root at *; omega
  have hnb : ∀ b t, G' b = .tag t -> ¬ b < n := fun b t hgb hlt => by rw [hG b hlt] at hgb; exact viewB_tag b t hgb
  cases h with
  | froz h => cases h
  | so _ _ _ e vals g1 g2 g3 g4 g0 g5 =>
  refine .so _ _ v e vals (by omega) (by rw [List.length_map]; exact g2) (fun b hb => ?_) (fun y hy => ?_) g0 ⟨by simpa using g5.1, fun j y u hy hu => ?_⟩
  ·have hgb := g3 b hb
   simp [AM.backB, hnb b t hgb, hgb, hq]
  ·obtain ⟨x, hx, rfl⟩ := List.mem_map.1 hy
   have := g4 x hx
   cases x <;> first | rfl | (simp [AV.rowLike] at this)
  ·rw [List.getElem?_map] at hy
   cases hx : xs[j]? with
   | none => simp [hx] at hy
   | some x =>
    simp [hx] at hy; subst hy
    have hr := g5.2 j x u hx hu
    cases hr with
    | froz hr =>
     have hr' := hF hr
     cases x <;> first | exact .froz hr' | skip
     rename_i t' es ys
     have : t' < 2 := by cases hr <;> assumption
     simp only [shiftRow, shiftTag]; rw [if_pos (by omega)]; exact .froz hr'
    | own t' es ys _ e' vals' k1 krt k2 k3 k4 k0 k5 =>
     simp only [shiftRow, shiftTag]; rw [if_neg (by omega)]
     refine .own _ es ys u e' vals' (by omega) (by unfold root at *; omega) k2 (fun b hb => ?_) k4 k0 (k5.mono fun z y hz hr => hF hr)
     have hgb := k3 b hb
     have hr64 : root t' < 64 := by omega
     simp [AM.backB, hnb b t' hgb, hgb, hr64]
 | po t xs i => simp [lt64b] at hq
 | pe t es xs i o =>
  simp only [lt64b, decide_eq_true_eq] at hq
  obtain ⟨b, off, c, h1, h2, rfl⟩ := h.pe_inv
  cases h1 with
  | froz h1 => exact .froz (.pe _ _ _ _ _ _ _ _ (hF h1) h2)
  | own => omega
 | pb j o =>
  obtain ⟨b, hb, rfl⟩ := h.pb_inv
  simp only [outLeaf]
  by_cases hlt : b < n
  ·rw [hG b hlt] at hb
   obtain ⟨i, g1, g2, g3⟩ := viewB_box hb
   have hjl : j < is.length := by rw [<- g3]; exact List.idxOf_lt_length_iff.2 g2
   have : is.getD j 0 = i := by
    rw [List.getD_eq_getElem?_getD, List.getElem?_eq_getElem hjl]
    subst g3; simp
   rw [if_pos hjl, this]
   exact .pb _ _ _ (by simp [AM.backB, hlt, g1])
  ·have := hnew b j hlt hb
   rw [if_neg (by omega)]
   exact .pb _ _ _ (by simp [AM.backB, hlt, hb, this])
 | ag cs => simp [AV.leafy] at hx
 | tup cs => simp [AV.leafy] at hx
 | any => exact .froz (.any _)
 | nil => rw [h.nil_inv]; exact .froz .nil
 | ub => obtain ⟨b, rfl⟩ := h.ub_inv; exact .froz (.ub b)
 | sc u => rw [h.sc_inv]; exact .froz (.sc _)
 | fn g caps => cases h with | froz h => exact .froz (hF h)
 | mp t P k e D => simp [lt64b] at hq
 | cl g caps => simp [lt64b] at hq
 | tl t es xs i => simp [lt64b] at hq
 | fp cs o => cases h with | froz h => exact .froz (hF h)
def CallB (P : Program) (f : FuncId) (args : List AV) (is : List Nat) (d : Nat) (σ : St) (K : St -> Prop) : Prop :=
 σ.free d = true /\ d < σ.n /\ allLeafs noTag args = true /\ nodupB is = true /\ ∃ bx, getAll σ.boxes is = some bx /\ allNoTags bx = true /\
  Con P f (mapTops (pbIn is) args) (mapB (pbIn is) bx) fun r bx' => r.allLeaf lt64b = true /\ allNoTags bx' = true /\
   K (St.put ⟨σ.n, σ.tmps, setAll is (mapB (outLeaf (64 * (d + 1)) is σ.boxes.length) (bx'.take is.length)) σ.boxes ++ mapB (outLeaf (64 * (d + 1)) is σ.boxes.length) (bx'.drop is.length)⟩ (some d) (r.mapTop (outLeaf (64 * (d + 1)) is σ.boxes.length)))
mutual
theorem allLeaf_mono {p q : AV -> Bool} (hpq : ∀ y, p y = true -> q y = true) : ∀ x : AV, x.allLeaf p = true -> x.allLeaf q = true
 | .ag cs, h => by simp only [AV.allLeaf] at *; exact allLeafs_mono hpq cs h
 | .tup cs, h => by simp only [AV.allLeaf] at *; exact allLeafs_mono hpq cs h
 | .any, h => hpq _ h
 | .nil, h => hpq _ h
 | .ub, h => hpq _ h
 | .sc _, h => hpq _ h
 | .sl _ _ _, h => hpq _ h
 | .pb _ _, h => hpq _ h
 | .pe _ _ _ _ _, h => hpq _ h
 | .fn _ _, h => hpq _ h
 | .fp _ _, h => hpq _ h
 | .mp _ _ _ _ _, h => hpq _ h
 | .cl _ _, h => hpq _ h
 | .tl _ _ _ _, h => hpq _ h
 | .so _ _, h => hpq _ h
 | .po _ _ _, h => hpq _ h
theorem allLeafs_mono {p q : AV -> Bool} (hpq : ∀ y, p y = true -> q y = true) : ∀ cs : List AV, allLeafs p cs = true -> allLeafs q cs = true
 | [], _ => rfl
 | x :: r, h => by
  simp only [allLeafs, Bool.and_eq_true] at h ⊢
  exact ⟨allLeaf_mono hpq x h.1, allLeafs_mono hpq r h.2⟩
end
theorem noTag_lt {y : AV} (hy : noTag y = true) : lt64b y = true := by cases y <;> simp_all [noTag, lt64b]; all_goals (unfold root; omega)
theorem CallB.sound0 {f : FuncId} {args : List AV} {is : List Nat} {d : Nat} {σ : St} {K : St -> Prop} {G0 w0 G a w} (hk : CallB P f args is d σ K) (h : SRel G0 w0 σ G a w) (h0 : True) {vs : Array Value}
  (hv : PW (VRel (killR d G) w) args vs.toList) (hre : ∀ i ∈ is, ∃ b, killR d G b = .box i) :
  Callable P f /\ Calls P f vs w fun e w' => ∃ v σ' G', e = .returned v /\ K σ' /\ SRel G0 w0 σ' G' (a.put (some d) v) w' := by
 obtain ⟨hfree, hd, hargs, hnd, bx, hbx, hbt, hcall, hcon⟩ := hk
 refine ⟨hcall, ?_⟩
 obtain ⟨hs, hfr⟩ := h.fresh hfree h0
 have hnd := nodupB_spec hnd
 obtain ⟨hbl, hbg⟩ := getAll_spec hbx
 have hva : PW (VRel (viewB is (killR d G)) w) (mapTops (pbIn is) args) vs.toList := by
  refine ⟨by rw [mapTops_eq]; simpa using hv.1, fun j x u hx hu => ?_⟩
  rw [mapTops_eq, List.getElem?_map] at hx
  cases hj : args[j]? with
  | none => simp [hj] at hx
  | some y => simp [hj] at hx; subst hx; exact (hv.2 j y u hj hu).viewB (allLeafs_mem hargs y (List.mem_of_getElem? hj))
 have hreal : ∀ {j : Nat} (hjl : j < is.length) {c : List AV} (hc : σ.boxes[is[j]]? = some c), ∃ b vals ty, killR d G b = .box is[j] /\ w.heap[b]? = some (.cells vals ty (0, 0)) /\ One vals.toList /\ PW (VRel (killR d G) w) c vals.toList := fun hjl c hc => by
  obtain ⟨b, hb⟩ := hre _ (List.getElem_mem hjl)
  exact BRel.real hs.boxes hc hb
 have hbr : BRel noGh (viewB is (killR d G)) w (mapB (pbIn is) bx) := by
  refine ⟨fun i vs hv => by simp [noGh] at hv, fun j cs hj => ?_⟩
  rw [mapB_eq, List.getElem?_map] at hj
  cases hc : bx[j]? with
  | none => simp [hc] at hj
  | some c =>
   simp [hc] at hj; subst hj
   have hjl : j < is.length := by rw [<- hbl]; exact (List.getElem?_eq_some_iff.1 hc).1
   obtain ⟨c', g1, g2⟩ := hbg j _ (List.getElem?_eq_getElem hjl)
   rw [hc] at g2; cases g2
   obtain ⟨b, vals, ty, k1, k2, k3, k4⟩ := hreal hjl g1
   refine .inl ⟨rfl, b, vals, ty, ?_, k2, k3, by rw [mapTops_eq]; simpa using k4.1, fun i x u hx hu => ?_⟩
   ·have : is[j] ∈ is := List.getElem_mem hjl
    simp only [viewB, k1, List.contains_iff_mem.2 this, if_true]
    rw [hnd.idxOf_getElem j hjl]
   ·rw [mapTops_eq, List.getElem?_map] at hx
    cases hi : c[i]? with
    | none => simp [hi] at hx
    | some y => simp [hi] at hx; subst hx; exact (k4.2 i y u hi hu).viewB (allNoTags_mem hbt j c hc y (List.mem_of_getElem? hi))
 have hbc : ∀ b i, viewB is (killR d G) b = .box i -> i < (mapB (pbIn is) bx).length := fun b i hb => by
  obtain ⟨i', _, g2, g3⟩ := viewB_box hb
  rw [mapB_eq, List.length_map, hbl, <- g3]
  exact List.idxOf_lt_length_iff.2 g2
 refine (hcon _ w vs hs.good.viewB viewB_tag hbc hbr hva).mono ?_
 rintro e w' ⟨v, r, bx', G', rfl, ⟨hlt, hnt, hK⟩, hr, hG', hbr', hbc', e1, e2, e3, e4, e5, e6⟩
 have hold : ∀ b i, killR d G b = .box i -> i ∈ is -> G' b = .box (is.idxOf i) := fun b i hb hi => by
  rw [e5 b (hs.good.lt b (by rw [hb]; simp))]
  simp only [viewB, hb, List.contains_iff_mem.2 hi, if_true]
 have hnew : ∀ b j, ¬ b < w.heap.size -> G' b = .box j -> is.length <= j := by
  intro b j hb hbj
  apply Classical.byContradiction
  intro hlt
  have hjl : j < is.length := by omega
  obtain ⟨c', g1, g2⟩ := hbg j _ (List.getElem?_eq_getElem hjl)
  obtain ⟨b', vals, ty, k1, k2, k3, k4⟩ := hreal hjl g1
  have h1 := hold b' _ k1 (List.getElem_mem hjl)
  rw [hnd.idxOf_getElem j hjl] at h1
  have := hG'.boxes _ _ _ hbj h1
  subst this
  exact hb (hs.good.lt b (by rw [k1]; simp))
 have hbxl : is.length <= bx'.length := by
  rcases Nat.eq_zero_or_pos is.length with hz | hp
  ·omega
  ·have hjl : is.length - 1 < is.length := by omega
   obtain ⟨c', g1, g2⟩ := hbg _ _ (List.getElem?_eq_getElem hjl)
   obtain ⟨b', vals, ty, k1, k2, k3, k4⟩ := hreal hjl g1
   have h1 := hold b' _ k1 (List.getElem_mem hjl)
   rw [hnd.idxOf_getElem _ hjl] at h1
   have := hbc' _ _ h1
   omega
 have hback : ∀ {x v}, VRel G' w' x v -> x.allLeaf lt64b = true -> VRel (backB d w.heap.size is σ.boxes.length (killR d G) G') w' (x.mapTop (outLeaf (64 * (d + 1)) is σ.boxes.length)) v := fun h hq => h.backB hfr.1 hq e5 hnew
 have hcell : ∀ {cs : List AV} {vals : List Value}, (∀ x ∈ cs, x.allLeaf noTag = true) -> PW (VRel G' w') cs vals -> PW (VRel (backB d w.heap.size is σ.boxes.length (killR d G) G') w') (mapTops (outLeaf (64 * (d + 1)) is σ.boxes.length) cs) vals := by
  intro cs vals hn hp
  refine ⟨by rw [mapTops_eq]; simpa using hp.1, fun i x u hx hu => ?_⟩
  rw [mapTops_eq, List.getElem?_map] at hx
  cases hi : cs[i]? with
  | none => simp [hi] at hx
  | some y =>
   simp [hi] at hx; subst hx
   exact hback (hp.2 i y u hi hu) (allLeaf_mono (fun y hy => noTag_lt hy) _ (hn y (List.mem_of_getElem? hi)))
 have hkeep : ∀ {x v}, VRel (killR d G) w x v -> VRel (backB d w.heap.size is σ.boxes.length (killR d G) G') w' x v := fun h =>
  h.mono (fun b hb => by simp [backB, hs.good.lt b hb]) (fun b hb hn => e6 b (hs.good.lt b hb) (fun i hi => by
   obtain ⟨i', g1, _⟩ := viewB_box hi
   exact hn i' g1))
 have htag : ∀ b t, backB d w.heap.size is σ.boxes.length (killR d G) G' b = .tag t -> (b < w.heap.size /\ killR d G b = .tag t) \/ (¬ b < w.heap.size /\ root t / 64 = d + 1 /\ G' b = .tag (t - 64 * (d + 1))) := by
  intro b t hb
  unfold backB at hb
  split at hb
  ·exact .inl ⟨by assumption, hb⟩
  ·rename_i hn
   split at hb <;> try (cases hb; done)
   ·rename_i t' ht'
    split at hb
    ·cases hb; exact .inr ⟨hn, by have := hfr.1; unfold root at *; omega, by rw [ht']; congr 1; omega⟩
    ·cases hb
   ·split at hb <;> cases hb
 have hbox : ∀ b i, backB d w.heap.size is σ.boxes.length (killR d G) G' b = .box i -> (b < w.heap.size /\ killR d G b = .box i) \/ (¬ b < w.heap.size /\ ∃ j, is.length <= j /\ i = σ.boxes.length + (j - is.length) /\ G' b = .box j) := by
  intro b i hb
  unfold backB at hb
  split at hb
  ·exact .inl ⟨by assumption, hb⟩
  ·rename_i hn
   split at hb <;> try (cases hb; done)
   ·split at hb <;> cases hb
   ·rename_i j hj
    split at hb
    ·rename_i hle; cases hb; exact .inr ⟨hn, j, hle, rfl, hj⟩
    ·cases hb
 have hgood : Good (backB d w.heap.size is σ.boxes.length (killR d G) G') w' := by
  refine ⟨fun b hb => ?_, fun b b' t h1 h2 => ?_, fun b b' i h1 h2 => ?_⟩
  ·by_cases hlt : b < w.heap.size
   ·omega
   ·exact hG'.lt b fun h' => hb (by simp [backB, hlt, h'])
  ·rcases htag b t h1 with ⟨_, h1⟩ | ⟨_, h1, g1⟩ <;> rcases htag b' t h2 with ⟨_, h2⟩ | ⟨_, h2, g2⟩
   ·exact hs.good.tags b b' t h1 h2
   ·exact absurd h2 (hfr.2 b t h1)
   ·exact absurd h1 (hfr.2 b' t h2)
   ·exact hG'.tags b b' _ g1 g2
  ·rcases hbox b i h1 with ⟨_, h1⟩ | ⟨_, j, g1, g2, g3⟩ <;> rcases hbox b' i h2 with ⟨_, h2⟩ | ⟨_, j', k1, k2, k3⟩
   ·exact hs.good.boxes b b' i h1 h2
   ·have := hs.blt b i h1; omega
   ·have := hs.blt b' i h2; omega
   ·have : j = j' := by omega
    subst this
    exact hG'.boxes b b' j g3 k3
 have hlen1 : (setAll is (mapB (outLeaf (64 * (d + 1)) is σ.boxes.length) (bx'.take is.length)) σ.boxes).length = σ.boxes.length := setAll_length _ _ _
 refine ⟨v, _, backB d w.heap.size is σ.boxes.length (killR d G) G', rfl, hK, ?_⟩
 refine { good := hgood, slots := slots_put (σ := ⟨σ.n, σ.tmps, _⟩) (fun s => hkeep (hs.slots s)) hs.size (by simpa [dstOk] using hd) (hback hr hlt), boxes := ?_, blt := ?_, size := ?_, defs := ?_, os := e1.trans hs.os, tape := e2.trans hs.tape, output := e3.trans hs.output, hsize := Nat.le_trans hs.hsize e4, stat := ?_, keep := ?_ }
 ·rw [put_boxes]
  refine ⟨fun i vs hv => by have := hs.boxes.low i vs hv; simp only [List.length_append, hlen1]; omega, fun i cs hi => ?_⟩
  simp only at hi
  by_cases hin : i < σ.boxes.length
  ·rw [List.getElem?_append_left (by rw [hlen1]; exact hin), setAll_get is _ _ i hnd (by rw [mapB_eq]; simp; omega) hin] at hi
   split at hi
   ·rename_i him
    rw [mapB_eq, List.getElem?_map, List.getElem?_take] at hi
    have hjl := List.idxOf_lt_length_iff.2 him
    rw [if_pos hjl] at hi
    cases hc : bx'[is.idxOf i]? with
    | none => simp [hc] at hi
    | some c =>
     simp [hc] at hi; subst hi
     obtain ⟨b2, q1⟩ := hre i him
     have hb2 := hold b2 i q1 him
     obtain ⟨b, vals, ty, k1, k2, k3, k4⟩ := hbr'.real hc hb2
     have := hG'.boxes _ _ _ k1 hb2
     subst this
     exact .inl ⟨by rcases hs.boxes.cell i _ (List.getElem?_eq_getElem hin) with h1 | h1 | h1; exact h1.1; exact absurd q1 (h1.1 b); exact h1.1, b, vals, ty, by simp [backB, hs.good.lt b (by rw [q1]; simp), q1], k2, k3, hcell (allNoTags_mem hnt _ c hc) k4⟩
   ·rename_i him
    refine (hs.boxes.cell i cs hi).same (fun x v hr => hkeep hr) (fun b k1 => ?_) fun h0 b hb => ?_
    ·have hbl := hs.good.lt b (by rw [k1]; simp)
     exact ⟨by simp [backB, hbl, k1], e6 b hbl (fun j hj => by
      obtain ⟨i', g1, g2, _⟩ := viewB_box hj
      rw [k1] at g1; cases g1; exact him g2)⟩
    ·rcases hbox b i hb with ⟨_, h1⟩ | ⟨_, j, g1, g2, g3⟩
     ·exact h0 b h1
     ·omega
  ·rw [List.getElem?_append_right (by rw [hlen1]; omega), hlen1, mapB_eq, List.getElem?_map, List.getElem?_drop] at hi
   cases hc : bx'[is.length + (i - σ.boxes.length)]? with
   | none => simp [hc] at hi
   | some c =>
    simp [hc] at hi; subst hi
    have hgn : G0.gh i = none := by cases hgh : G0.gh i with | none => rfl | some vs => have := hs.boxes.low _ vs hgh; omega
    rcases hbr'.cell _ _ hc with ⟨_, b, vals, ty, k1, k2, k3, k4⟩ | ⟨_, vs, hb, _⟩ | ⟨_, k1, k2⟩
    case inr.inl => simp [noGh] at hb
    case inr.inr =>
     refine .inr (.inr ⟨hgn, fun b hb => ?_, fun x hx v => ?_⟩)
     ·rcases hbox b i hb with ⟨_, h1⟩ | ⟨_, j, g1, g2, g3⟩
      ·have := hs.blt b i h1; omega
      ·exact k1 b (by rw [g3]; congr 1; omega)
     ·rw [mapTops_eq] at hx
      obtain ⟨y, hy, rfl⟩ := List.mem_map.1 hx
      exact hback (k2 y hy v) (allLeaf_mono (fun y hy => noTag_lt hy) _ (allNoTags_mem hnt _ c hc y hy))
    have hbn : ¬ b < w.heap.size := fun hlt => by
     rw [e5 b hlt] at k1
     obtain ⟨i', g1, g2, g3⟩ := viewB_box k1
     have := List.idxOf_lt_length_iff.2 g2
     omega
    refine .inl ⟨by cases hgh : G0.gh i with | none => rfl | some vs => have := hs.boxes.low _ vs hgh; omega, b, vals, ty, ?_, k2, k3, hcell (allNoTags_mem hnt _ c hc) k4⟩
    simp only [backB, hbn, if_false, k1]
    rw [if_pos (by omega)]
    congr 1; omega
 ·intro b i hb
  rw [put_boxes]
  simp only [List.length_append, hlen1]
  rcases hbox b i hb with ⟨_, h1⟩ | ⟨_, j, g1, g2, g3⟩
  ·have := hs.blt b i h1; omega
  ·have := hbc' b j g3
   rw [mapB_eq, List.length_map, List.length_drop]
   omega
 ·rw [put_size, put_n]; exact hs.size
 ·rw [put_defers]; exact hs.defs
 ·intro b hb hnt
  have : b < w.heap.size := Nat.lt_of_lt_of_le hb hs.hsize
  simp [backB, this]; exact hs.stat b hb hnt
 ·intro b hb hn hnt
  have hlt : b < w.heap.size := Nat.lt_of_lt_of_le hb hs.hsize
  rw [e6 b hlt (fun j hj => by
   obtain ⟨i', g1, _⟩ := viewB_box hj
   rw [hs.stat b hb hnt] at g1
   exact hn i' g1)]
  exact hs.keep b hb hn hnt
theorem CallB.sound {f : FuncId} {args : List AV} {is : List Nat} {d : Nat} {σ : St} {K : St -> Prop} {G0 w0 G a w} (hk : CallB P f args is d σ K) (h : SRel G0 w0 σ G a w) (h0 : True) {vs : Array Value}
  (hv : ∀ G, SRel G0 w0 σ G a w -> PW (VRel G w) args vs.toList) (hre : ∀ G, SRel G0 w0 σ G a w -> ∀ i ∈ is, ∃ b, G b = .box i) :
  Callable P f /\ Calls P f vs w fun e w' => ∃ v σ' G', e = .returned v /\ K σ' /\ SRel G0 w0 σ' G' (a.put (some d) v) w' := by
 have hs := (h.fresh hk.1 h0).1
 exact CallB.sound0 hk h h0 (hv _ hs) (hre _ hs)
def CallG (P : Program) (f : FuncId) (args : List AV) (is : List Nat) (d : Nat) (σ : St) (K : St -> Prop) : Prop :=
 σ.free d = true /\ ∃ p args', (∀ G w vs, PW (VRel G w) (mapTops (freezeLeaf p) args) vs -> PW (VRel G w) args' vs) /\ CallB P f args' is d (σ.map (freezeLeaf p)) K
theorem killR_freeze {d : Nat} {p : Nat -> Bool} {G : Nat -> Status} : killR d (freezeG p (killR d G)) = freezeG p (killR d G) := by
 funext b
 cases hG : G b with
 | tag t =>
  by_cases h1 : root t / 64 = d + 1
  ·simp [killR, freezeG, hG, h1]
  ·by_cases h2 : p (root t) = true
   ·simp [killR, freezeG, hG, h1, h2]
   ·simp [killR, freezeG, hG, h1, h2]
 | _ => simp [killR, freezeG, hG]
theorem CallG.sound {f : FuncId} {args : List AV} {is : List Nat} {d : Nat} {σ : St} {K : St -> Prop} {G0 w0 G a w} (hk : CallG P f args is d σ K) (h : SRel G0 w0 σ G a w) (h0 : True) {vs : Array Value}
  (hv : ∀ G, SRel G0 w0 σ G a w -> PW (VRel G w) args vs.toList) (hre : ∀ G, SRel G0 w0 σ G a w -> ∀ i ∈ is, ∃ b, G b = .box i) :
  Callable P f /\ Calls P f vs w fun e w' => ∃ v σ' G', e = .returned v /\ K σ' /\ SRel G0 w0 σ' G' (a.put (some d) v) w' := by
 obtain ⟨hf, p, args', hle, hB⟩ := hk
 have hs := (h.fresh hf h0).1
 have hv := hv _ hs
 have hre := hre _ hs
 refine CallB.sound0 hB (hs.freeze h0 p) h0 ?_ ?_
 ·rw [killR_freeze]
  refine hle _ _ _ ⟨by rw [mapTops_eq]; simpa using hv.1, fun j x u hx hu => ?_⟩
  rw [mapTops_eq, List.getElem?_map] at hx
  cases hj : args[j]? with
  | none => simp [hj] at hx
  | some y => simp [hj] at hx; subst hx; exact (hv.2 j y u hj hu).freeze
 ·rw [killR_freeze]
  intro i hi
  obtain ⟨b, hb⟩ := hre i hi
  exact ⟨b, by unfold freezeG; rw [hb]⟩
def renT (ts : List Nat) (t : Nat) : Nat := 2 + ts.idxOf (root t) + 1048576 * (t / 1048576)
def renRow (ts : List Nat) : AV -> AV
 | .sl t es xs => if 2 <= t then .sl (renT ts t) es xs else .sl t es xs
 | x => x
def renLeaf (ts : List Nat) : AV -> AV
 | .sl t es xs => if 2 <= t then .sl (renT ts t) es xs else .sl t es xs
 | .pe t es xs i o => if 2 <= t then .pe (renT ts t) es xs i o else .pe t es xs i o
 | .so t xs => .so (renT ts t) (xs.map (renRow ts))
 | .po t xs i => .po (renT ts t) (xs.map (renRow ts)) i
 | x => x
def AV.canon (x : AV) : AV := x.mapTop (renLeaf x.tags)
def endG (ts : List Nat) (m : Nat) (G : Nat -> Status) (b : Nat) : Status :=
 match G b with
 | .stable => .stable
 | .tag t => if root t ∈ ts then .tag (renT ts t) else .junk
 | .box i => if i < m then .box i else .junk
 | .junk => .junk
theorem endG_stable {ts : List Nat} {m : Nat} {G : Nat -> Status} {b : Nat} (h : Stable G b) : Stable (endG ts m G) b := by unfold Stable at *; simp [endG, h]
theorem VRel.endG {ts : List Nat} {m : Nat} {G : Nat -> Status} {w : World} {x : AV} {v : Value} (h : VRel G w x v) (hq : x.allLeaf (fun y => tagsIn ts y && pbLt m y) = true) : VRel (AM.endG ts m G) w (x.mapTop (renLeaf ts)) v := by
 have hsl : ∀ {t es xs v}, (t < 2 \/ root t ∈ ts) -> VRel G w (.sl t es xs) v -> VRel (AM.endG ts m G) w (if 2 <= t then .sl (renT ts t) es xs else .sl t es xs) v := by
  intro t es xs v ht h
  cases h with
  | froz h =>
   have : t < 2 := by cases h <;> assumption
   rw [if_neg (by omega)]
   exact .froz (h.mono (fun b => endG_stable) (fun _ _ => rfl))
  | own _ _ _ _ e vals h1 h2 h3 h4 h0 h5 =>
   rw [if_pos h1]
   have ht' : root t ∈ ts := ht.resolve_left (by omega)
   exact .own _ es xs v e vals (by unfold renT; omega) h2 (fun b hb => by unfold AM.endG; rw [h3 b hb]; simp [ht']) h4 h0 (h5.mono fun x y _ hr => hr.mono (fun b => endG_stable) (fun _ _ => rfl))
 have hso : ∀ {t xs v}, root t ∈ ts -> VRel G w (.so t xs) v -> VRel (AM.endG ts m G) w (.so (renT ts t) (xs.map (renRow ts))) v := by
  intro t xs v ht h
  refine h.so_map (by unfold renT; omega) (fun x u hx hr => ?_) (fun b hb => ⟨by unfold AM.endG; rw [hb]; simp [ht], rfl⟩)
  cases hr with
  | froz hr =>
   have hr' := hr.mono (S' := Stable (AM.endG ts m G)) (w' := w) (fun b => endG_stable) (fun _ _ => rfl)
   cases x <;> first | exact ⟨hx, .froz hr'⟩ | skip
   rename_i t' es ys
   have : t' < 2 := by cases hr <;> assumption
   simp only [renRow]; rw [if_neg (by omega)]; exact ⟨hx, .froz hr'⟩
  | own t' es ys _ e vals h1 hrt h2 h3 h4 h0 h5 =>
   simp only [renRow]; rw [if_pos h1]
   have hro : root (renT ts t') = root (renT ts t) := by unfold renT; rw [hrt]; unfold root; omega
   exact ⟨rfl, .own _ es ys _ e vals (by unfold renT; omega) hro h2 (fun b hb => by unfold AM.endG; rw [h3 b hb]; simp [hrt, ht]) h4 h0 (h5.mono fun x y _ hr => hr.mono (fun b => endG_stable) (fun _ _ => rfl))⟩
 refine h.mapTopQ (fun x v hx hq h => ?_) hq
 cases x with
 | so t xs =>
  simp only [tagsIn, pbLt, Bool.and_true, List.contains_iff_mem] at hq
  exact hso hq h
 | po t xs i =>
  simp only [tagsIn, pbLt, Bool.and_true, List.contains_iff_mem] at hq
  obtain ⟨b, off, c, h1, h2, rfl⟩ := h.po_inv
  exact (hso hq h1).po_of (by simp) h2
 | sl t es xs =>
  simp only [tagsIn, pbLt, Bool.and_true, Bool.or_eq_true, decide_eq_true_eq, List.contains_iff_mem] at hq
  have := hsl hq h; simp only [renLeaf]; exact this
 | pe t es xs i o =>
  simp only [tagsIn, pbLt, Bool.and_true, Bool.or_eq_true, decide_eq_true_eq, List.contains_iff_mem] at hq
  obtain ⟨b, off, c, h1, h2, rfl⟩ := h.pe_inv
  have := hsl hq h1
  simp only [renLeaf]
  split at this
  ·rename_i ht; rw [if_pos ht]; exact .pe _ _ _ _ _ _ _ _ this h2
  ·rename_i ht; rw [if_neg ht]; exact .pe _ _ _ _ _ _ _ _ this h2
 | pb i o =>
  simp only [tagsIn, pbLt, Bool.true_and, decide_eq_true_eq] at hq
  obtain ⟨b, hb, rfl⟩ := h.pb_inv; exact .pb _ _ _ (by simp [AM.endG, hb, hq])
 | ag cs => simp [AV.leafy] at hx
 | tup cs => simp [AV.leafy] at hx
 | any => exact .froz (.any _)
 | nil => rw [h.nil_inv]; exact .froz .nil
 | ub => obtain ⟨b, rfl⟩ := h.ub_inv; exact .froz (.ub b)
 | sc u => rw [h.sc_inv]; exact .froz (.sc _)
 | fn g caps => cases h with | froz h => exact .froz (h.mono (fun b => endG_stable) (fun _ _ => rfl))
 | mp t P k e D => simp [pbLt] at hq
 | cl g caps => simp [pbLt] at hq
 | tl t es xs i => simp [pbLt] at hq
 | fp cs o => cases h with | froz h => exact .froz (h.mono (fun b => endG_stable) (fun _ _ => rfl))
theorem Good.endG {ts : List Nat} {m : Nat} {G : Nat -> Status} {w : World} (h : Good G w) (hlen : ts.length < 1000) : Good (AM.endG ts m G) w := by
 have htag : ∀ b t, AM.endG ts m G b = .tag t -> ∃ t', root t' ∈ ts /\ G b = .tag t' /\ t = renT ts t' := by
  intro b t hb
  unfold AM.endG at hb
  split at hb <;> try (cases hb; done)
  ·rename_i t' ht'
   split at hb
   ·rename_i hm; cases hb; exact ⟨t', hm, ht', rfl⟩
   ·cases hb
  ·split at hb <;> cases hb
 have hbox : ∀ b i, AM.endG ts m G b = .box i -> G b = .box i := by
  intro b i hb
  unfold AM.endG at hb
  split at hb <;> try (cases hb; done)
  ·split at hb <;> cases hb
  ·rename_i i' hi'
   split at hb
   ·cases hb; exact hi'
   ·cases hb
 refine ⟨fun b hb => h.lt b fun h' => hb (by simp [AM.endG, h']), fun b b' t h1 h2 => ?_, fun b b' i h1 h2 => h.boxes b b' i (hbox b i h1) (hbox b' i h2)⟩
 obtain ⟨t1, m1, g1, e1⟩ := htag b t h1
 obtain ⟨t2, m2, g2, e2⟩ := htag b' t h2
 have i1 := List.idxOf_lt_length_iff.2 m1
 have i2 := List.idxOf_lt_length_iff.2 m2
 have e3 : ts.idxOf (root t1) = ts.idxOf (root t2) := by unfold renT at e1 e2; omega
 have e4 := idxOf_inj m1 m2 e3
 have : t1 = t2 := by unfold renT at e1 e2; unfold root at e4; rw [e3] at e1; omega
 subst this
 exact h.tags b b' t1 g1 g2
def ConC (P : Program) (f : FuncId) (args : List AV) (post : AV -> Prop) : Prop :=
 Callable P f /\ ∀ (G : Nat -> Status) (w : World) (vs : Array Value), Good G w -> (∀ b i, G b ≠ .box i) -> PW (VRel G w) args vs.toList ->
  Calls P f vs w (fun e w' => ∃ v r G', e = .returned v /\ post r /\ VRel G' w' r v /\ Good G' w' /\ (∀ b i, G' b ≠ .box i) /\
   w'.os = w.os /\ w'.tape = w.tape /\ w'.output = w.output /\ w.heap.size <= w'.heap.size /\ (∀ b, b < w.heap.size -> (∀ t, G b ≠ .tag t) -> G' b = G b) /\ (∀ b, b < w.heap.size -> (∀ t, G b ≠ .tag t) -> w'.heap[b]? = w.heap[b]?))
def killS (ts : List Nat) : AV -> AV
 | .sl t es xs => if 2 <= t /\ ts.contains (root t) = true then .any else .sl t es xs
 | .pe t es xs i o => if 2 <= t /\ ts.contains (root t) = true then .any else .pe t es xs i o
 | .so t xs => if ts.contains (root t) = true then .any else .so t xs
 | .po t xs i => if ts.contains (root t) = true then .any else .po t xs i
 | .mp t P k e D => if ts.contains (root t) = true then .any else .mp t P k e D
 | .tl _ _ _ _ => .any
 | x => x
def killSG (ts : List Nat) (G : Nat -> Status) (b : Nat) : Status :=
 match G b with
 | .tag t => if ts.contains (root t) = true then .junk else .tag t
 | s => s
theorem killSG_stable {ts : List Nat} {G : Nat -> Status} {b : Nat} : Stable (killSG ts G) b ↔ Stable G b := by
 unfold Stable killSG
 cases h : G b <;> simp
 split <;> simp
theorem VRel.killS {ts : List Nat} {G : Nat -> Status} {w : World} {x : AV} {v : Value} (h : VRel G w x v) : VRel (killSG ts G) w (x.mapTop (AM.killS ts)) v := by
 have hF : ∀ {x v}, FRel (Stable G) w x v -> FRel (Stable (killSG ts G)) w x v := fun hr => hr.mono (fun b => killSG_stable.2) (fun _ _ => rfl)
 have hsl : ∀ {t es xs v}, ¬ (2 <= t /\ ts.contains (root t) = true) -> VRel G w (.sl t es xs) v -> VRel (killSG ts G) w (.sl t es xs) v := by
  intro t es xs v hc h
  cases h with
  | froz h => exact .froz (hF h)
  | own _ _ _ _ e vals h1 h2 h3 h4 h0 h5 =>
   exact .own t es xs v e vals h1 h2 (fun b hb => by unfold killSG; rw [h3 b hb]; simp only; rw [if_neg (fun h => hc ⟨h1, h⟩)]) h4 h0 (h5.mono fun x y _ hr => hF hr)
 have hso : ∀ {t xs v}, ¬ ts.contains (root t) = true -> VRel G w (.so t xs) v -> VRel (killSG ts G) w (.so t xs) v := by
  intro t xs v hc h
  have := h.so_map (f := id) (G' := killSG ts G) (w' := w) h.so_two (fun x u hx hr => ⟨hx, by
   cases hr with
   | froz hr => exact .froz (hF hr)
   | own t' es ys _ e vals h1 hrt h2 h3 h4 h0 h5 =>
    exact .own t' es ys _ e vals h1 hrt h2 (fun b hb => by unfold killSG; rw [h3 b hb]; simp only; rw [hrt, if_neg hc]) h4 h0 (h5.mono fun x y _ hr => hF hr)⟩)
   (fun b hb => ⟨by unfold killSG; rw [hb]; simp only; rw [if_neg hc], rfl⟩)
  simpa using this
 refine h.mapTop fun x v hx h => ?_
 cases x with
 | sl t es xs =>
  simp only [AM.killS]; split
  ·exact .froz (.any _)
  ·rename_i hc; exact hsl hc h
 | pe t es xs i o =>
  obtain ⟨b, off, c, h1, h2, rfl⟩ := h.pe_inv
  simp only [AM.killS]; split
  ·exact .froz (.any _)
  ·rename_i hc; exact .pe _ _ _ _ _ _ _ _ (hsl hc h1) h2
 | so t xs =>
  simp only [AM.killS]; split
  ·exact .froz (.any _)
  ·rename_i hc; exact hso hc h
 | po t xs i =>
  obtain ⟨b, off, c, h1, h2, rfl⟩ := h.po_inv
  simp only [AM.killS]; split
  ·exact .froz (.any _)
  ·rename_i hc; exact (hso hc h1).po_of rfl h2
 | pb i o => obtain ⟨b, hb, rfl⟩ := h.pb_inv; exact .pb _ _ _ (by simp [killSG, hb])
 | ag cs => simp [AV.leafy] at hx
 | tup cs => simp [AV.leafy] at hx
 | any => exact .froz (.any _)
 | nil => rw [h.nil_inv]; exact .froz .nil
 | ub => obtain ⟨b, rfl⟩ := h.ub_inv; exact .froz (.ub b)
 | sc u => rw [h.sc_inv]; exact .froz (.sc _)
 | fn g caps => cases h with | froz h => exact .froz (hF h)
 | mp t P k e D =>
  simp only [AM.killS]; split
  ·exact .froz (.any _)
  ·rename_i hc; exact h.mpMono (fun b hb => by unfold killSG; rw [hb]; simp only; rw [if_neg hc]) (fun _ _ _ _ _ => rfl)
 | cl g caps => exact h.clMono (fun b => killSG_stable.2) (fun _ _ => rfl) (fun b i hb => by simp [killSG, hb])
 | tl t es xs i => exact .froz (.any _)
 | fp cs o => cases h with | froz h => exact .froz (hF h)
def backC (d n : Nat) (ts : List Nat) (G G' : Nat -> Status) (b : Nat) : Status :=
 if b < n /\ killSG ts G b = G b then G b else
  match G' b with
  | .stable => .stable
  | .tag t => if root t < 64 then .tag (t + 64 * (d + 1)) else .junk
  | _ => .junk
def lt64c : AV -> Bool
 | .sl t _ _ => decide (root t < 64)
 | .so t _ => decide (root t < 64)
 | .pb _ _ => false
 | .pe t _ _ _ _ => decide (t < 2)
 | .po _ _ _ => false
 | .mp _ _ _ _ _ => false
 | .cl _ _ => false
 | .tl _ _ _ _ => false
 | _ => true
def CallC (P : Program) (f : FuncId) (args : List AV) (d : Nat) (σ : St) (K : St -> Prop) : Prop :=
 σ.free d = true /\ d < σ.n /\ allLeafs (pbLt 0) args = true /\ (tagss args).length < 60 /\
  ConC P f (mapTops (renLeaf (tagss args)) args) fun r => r.allLeaf lt64c = true /\ K ((σ.map (killS (tagss args))).put (some d) (r.shift (64 * (d + 1))))
theorem CallC.sound {f : FuncId} {args : List AV} {d : Nat} {σ : St} {K : St -> Prop} {G0 w0 G a w} (hk : CallC P f args d σ K) (h : SRel G0 w0 σ G a w) {vs : Array Value}
  (hv : ∀ G, SRel G0 w0 σ G a w -> PW (VRel G w) args vs.toList) :
  Callable P f /\ Calls P f vs w fun e w' => ∃ v σ' G', e = .returned v /\ K σ' /\ SRel G0 w0 σ' G' (a.put (some d) v) w' := by
 obtain ⟨hfree, hd, hpb, htl, hcall, hcon⟩ := hk
 refine ⟨hcall, ?_⟩
 obtain ⟨hs, hfr⟩ := h.fresh hfree trivial
 generalize killR d G = G1 at hs hfr
 generalize hts : tagss args = ts at *
 have hGc : Good (endG ts 0 G1) w := hs.good.endG (by omega)
 have hbox : ∀ b i, endG ts 0 G1 b ≠ .box i := fun b i hb => by
  cases hg : G1 b <;> simp only [endG, hg] at hb
  ·cases hb
  ·split at hb <;> cases hb
  ·rw [if_neg (by omega)] at hb; cases hb
  ·cases hb
 have hva : PW (VRel (endG ts 0 G1) w) (mapTops (renLeaf ts) args) vs.toList := by
  have hv := hv _ hs
  refine ⟨by rw [mapTops_eq]; simpa using hv.1, fun j x u hx hu => ?_⟩
  rw [mapTops_eq, List.getElem?_map] at hx
  cases hj : args[j]? with
  | none => simp [hj] at hx
  | some y =>
   simp [hj] at hx; subst hx
   have hmem := List.mem_of_getElem? hj
   exact (hv.2 j y u hj hu).endG (allLeaf_and _ _ _ (tags_in _ y (fun t ht => by rw [<- hts]; exact tagss_mem hmem t ht)) (allLeafs_mem hpb y hmem))
 refine (hcon _ w vs hGc hbox hva).mono ?_
 rintro e w' ⟨v, r, G', rfl, ⟨hlt, hK⟩, hr, hG', hbox', e1, e2, e3, e4, e5, e6⟩
 -- which blocks were lent
 have hnl : ∀ b, killSG ts G1 b = G1 b -> ∀ t, endG ts 0 G1 b ≠ .tag t := by
  intro b hb t ht
  cases hg : G1 b <;> simp only [endG, hg] at ht
  ·cases ht
  ·rename_i t'
   split at ht
   ·rename_i hm
    simp only [killSG, hg, List.contains_iff_mem.2 hm, if_true] at hb
    cases hb
   ·cases ht
  ·rw [if_neg (by omega)] at ht; cases ht
  ·cases ht
 have hkj : ∀ b, killSG ts G1 b ≠ .junk -> killSG ts G1 b = G1 b := by
  intro b hb
  unfold killSG at *
  cases hg : G1 b <;> simp only [hg] at * 
  split at hb
  ·exact absurd rfl hb
  ·rename_i hc; rw [if_neg hc]
 have hkeep : ∀ {x v}, VRel (killSG ts G1) w x v -> VRel (backC d w.heap.size ts G1 G') w' x v := fun hx =>
  hx.mono (fun b hb => by
   have h1 := hkj b hb
   have h2 := hs.good.lt b (by rw [<- h1]; exact hb)
   unfold backC; rw [if_pos ⟨h2, h1⟩, h1]) (fun b hb _ => by
   have h1 := hkj b hb
   exact e6 b (hs.good.lt b (by rw [<- h1]; exact hb)) (hnl b h1))
 have hS : ∀ b, Stable G' b -> Stable (backC d w.heap.size ts G1 G') b := by
  intro b hb
  unfold Stable at *
  unfold backC
  split
  ·rename_i hc
   have h1 := e5 b hc.1 (hnl b hc.2)
   rw [hb] at h1
   unfold endG at h1
   split at h1 <;> first | assumption | (cases h1; done) | (split at h1 <;> cases h1)
  ·rw [hb]
 have hF : ∀ {x v}, FRel (Stable G') w' x v -> FRel (Stable (backC d w.heap.size ts G1 G')) w' x v := fun hx => hx.mono hS (fun _ _ => rfl)
 have hT : ∀ b t, G' b = .tag t -> root t < 64 -> backC d w.heap.size ts G1 G' b = .tag (t + 64 * (d + 1)) := by
  intro b t hb ht
  unfold backC
  rw [if_neg (fun hc => by
   have h1 := e5 b hc.1 (hnl b hc.2)
   rw [hb] at h1
   exact hnl b hc.2 t h1.symm), hb]
  simp only [ht, if_true]
 have hdl := hfr.1
 have hres : VRel (backC d w.heap.size ts G1 G') w' (r.shift (64 * (d + 1))) v := by
  refine hr.mapTopQ (fun x v hx hq hr => ?_) hlt
  cases x with
  | sl t es xs =>
   simp only [lt64c, decide_eq_true_eq] at hq
   simp only [shiftLeaf, shiftTag]
   cases hr with
   | froz hr =>
    have : t < 2 := by cases hr <;> assumption
    rw [if_pos this]; exact .froz (hF hr)
   | own _ _ _ _ e vals g1 g2 g3 g4 g0 g5 =>
    rw [if_neg (by omega)]
    exact .own _ es xs v e vals (by omega) g2 (fun b hb => hT b t (g3 b hb) hq) g4 g0 (g5.mono fun x y _ hr => hF hr)
  | so t xs =>
   simp only [lt64c, decide_eq_true_eq] at hq
   simp only [shiftLeaf, shiftTag]
   have ht := hr.so_two
   rw [if_neg (by omega)]
   have hroot : root (t + 64 * (d + 1)) = root t + 64 * (d + 1) := by unfold root at *; omega
   cases hr with
   | froz hr => cases hr
   | so _ _ _ e vals g1 g2 g3 g4 g0 g5 =>
   refine .so _ _ v e vals (by omega) (by rw [List.length_map]; exact g2) (fun b hb => hT b t (g3 b hb) hq) (fun y hy => ?_) g0 ⟨by simpa using g5.1, fun j y u hy hu => ?_⟩
   ·obtain ⟨x, hx, rfl⟩ := List.mem_map.1 hy
    have := g4 x hx
    cases x <;> first | rfl | (simp [AV.rowLike] at this)
   ·rw [List.getElem?_map] at hy
    cases hx : xs[j]? with
    | none => simp [hx] at hy
    | some x =>
     simp [hx] at hy; subst hy
     have hr := g5.2 j x u hx hu
     cases hr with
     | froz hr =>
      have hr' := hF hr
      cases x <;> first | exact .froz hr' | skip
      rename_i t' es ys
      have : t' < 2 := by cases hr <;> assumption
      simp only [shiftRow, shiftTag]; rw [if_pos (by omega)]; exact .froz hr'
     | own t' es ys _ e' vals' k1 krt k2 k3 k4 k0 k5 =>
      simp only [shiftRow, shiftTag]; rw [if_neg (by omega)]
      exact .own _ es ys u e' vals' (by omega) (by unfold root at *; omega) k2 (fun b hb => hT b t' (k3 b hb) (by omega)) k4 k0 (k5.mono fun z y hz hr => hF hr)
  | po t xs i => simp [lt64c] at hq
  | pe t es xs i o =>
   simp only [lt64c, decide_eq_true_eq] at hq
   obtain ⟨b, off, c, h1, h2, rfl⟩ := hr.pe_inv
   simp only [shiftLeaf, shiftTag]
   rw [if_pos hq]
   cases h1 with
   | froz h1 => exact .froz (.pe _ _ _ _ _ _ _ _ (hF h1) h2)
   | own => omega
  | pb i o => simp [lt64c] at hq
  | ag cs => simp [AV.leafy] at hx
  | tup cs => simp [AV.leafy] at hx
  | any => exact .froz (.any _)
  | nil => rw [hr.nil_inv]; exact .froz .nil
  | ub => obtain ⟨b, rfl⟩ := hr.ub_inv; exact .froz (.ub b)
  | sc u => rw [hr.sc_inv]; exact .froz (.sc _)
  | fn g caps => cases hr with | froz hr => exact .froz (hF hr)
  | mp t P k e D => simp [lt64c] at hq
  | cl g caps => simp [lt64c] at hq
  | tl t es xs i => simp [lt64c] at hq
  | fp cs o => cases hr with | froz hr => exact .froz (hF hr)
 have htag : ∀ b t, backC d w.heap.size ts G1 G' b = .tag t -> (b < w.heap.size /\ G1 b = .tag t) \/ (root t / 64 = d + 1 /\ G' b = .tag (t - 64 * (d + 1)) /\ 64 * (d + 1) <= t) := by
  intro b t hb
  unfold backC at hb
  split at hb
  ·rename_i hc; exact .inl ⟨hc.1, hb⟩
  ·split at hb <;> try (cases hb; done)
   rename_i t' ht'
   split at hb
   ·cases hb; exact .inr ⟨by unfold root at *; omega, by rw [ht']; congr 1; omega, by omega⟩
   ·cases hb
 have hbx : ∀ b i, backC d w.heap.size ts G1 G' b = .box i -> G1 b = .box i := by
  intro b i hb
  unfold backC at hb
  split at hb
  ·exact hb
  ·split at hb <;> first | (cases hb; done) | (split at hb <;> cases hb)
 have hgood : Good (backC d w.heap.size ts G1 G') w' := by
  refine ⟨fun b hb => ?_, fun b b' t h1 h2 => ?_, fun b b' i h1 h2 => hs.good.boxes b b' i (hbx b i h1) (hbx b' i h2)⟩
  ·unfold backC at hb
   split at hb
   ·omega
   ·exact hG'.lt b fun h' => hb (by simp [h'])
  ·rcases htag b t h1 with ⟨_, h1⟩ | ⟨h1, g1, q1⟩ <;> rcases htag b' t h2 with ⟨_, h2⟩ | ⟨h2, g2, q2⟩
   ·exact hs.good.tags b b' t h1 h2
   ·exact absurd h2 (hfr.2 b t h1)
   ·exact absurd h1 (hfr.2 b' t h2)
   ·exact hG'.tags b b' _ g1 g2
 have hnlG : ∀ b t, G1 b ≠ .tag t -> killSG ts G1 b = G1 b \/ ∃ t', G1 b = .tag t' := by
  intro b t _
  unfold killSG
  cases hg : G1 b with
  | tag t' => exact .inr ⟨t', rfl⟩
  | _ => exact .inl rfl
 refine ⟨v, _, backC d w.heap.size ts G1 G', rfl, hK, ?_⟩
 refine { good := hgood, slots := slots_put (fun s => ?_) hs.size (show dstOk (σ.map (killS ts)).n (some d) = true from decide_eq_true hd) hres, boxes := ⟨fun i vs hv => by rw [put_boxes]; have := hs.boxes.low i vs hv; simpa [St.map, mapB_eq] using this, fun i cs hi => ?_⟩, blt := fun b i hb => ?_, size := ?_, defs := ?_, os := e1.trans hs.os, tape := e2.trans hs.tape, output := e3.trans hs.output, hsize := Nat.le_trans hs.hsize e4, stat := fun b hb hnt => ?_, keep := fun b hb hn hnt => ?_ }
 ·have : (σ.map (killS ts)).get s = (σ.get s).mapTop (killS ts) := lookT_map rfl σ.tmps s
  rw [this]; exact hkeep (hs.slots s).killS
 ·rw [put_boxes] at hi
  simp only [St.map, mapB_eq, List.getElem?_map] at hi
  cases hc : σ.boxes[i]? with
  | none => simp [hc] at hi
  | some cs' =>
   simp [hc] at hi; subst hi
   rw [mapTops_eq]
   refine (hs.boxes.cell i cs' hc).map (fun x v hr => hkeep hr.killS) (fun b g1 => ?_) fun h0 b hb => h0 b (hbx b i hb)
   have hb := hs.good.lt b (by rw [g1]; simp)
   have hnk : killSG ts G1 b = G1 b := by unfold killSG; rw [g1]
   exact ⟨by unfold backC; rw [if_pos ⟨hb, hnk⟩]; exact g1, e6 b hb (hnl b hnk)⟩
 ·rw [put_boxes]
  have := hs.blt b i (hbx b i hb)
  simpa [St.map, mapB_eq] using this
 ·rw [put_size, put_n]; exact hs.size
 ·rw [put_defers]; exact hs.defs
 ·have h1 := hs.stat b hb hnt
  have h2 : killSG ts G1 b = G1 b := by
   unfold killSG
   cases hg : G1 b with
   | tag t' => rw [h1] at hg; exact absurd hg (hnt t')
   | _ => rfl
  unfold backC; rw [if_pos ⟨Nat.lt_of_lt_of_le hb hs.hsize, h2⟩]; exact h1
 ·have h1 := hs.stat b hb hnt
  have h2 : killSG ts G1 b = G1 b := by
   unfold killSG
   cases hg : G1 b with
   | tag t' => rw [h1] at hg; exact absurd hg (hnt t')
   | _ => rfl
  rw [e6 b (Nat.lt_of_lt_of_le hb hs.hsize) (hnl b h2)]; exact hs.keep b hb hn hnt
def ConW (P : Program) (f : FuncId) (args : List AV) (post : AV -> List AV -> Prop) : Prop :=
 Callable P f /\ ∀ (G : Nat -> Status) (w : World) (vs : Array Value), Good G w -> (∀ b i, G b ≠ .box i) -> PW (VRel G w) args vs.toList ->
  Calls P f vs w (fun e w' => ∃ v r ys G', e = .returned v /\ post r ys /\ VRel G' w' r v /\ PW (VRel G' w') ys vs.toList /\ Good G' w' /\ (∀ b i, G' b ≠ .box i) /\
   w'.os = w.os /\ w'.tape = w.tape /\ w'.output = w.output /\ w.heap.size <= w'.heap.size /\ (∀ b, b < w.heap.size -> (∀ t, G b ≠ .tag t) -> G' b = G b) /\ (∀ b, b < w.heap.size -> (∀ t, G b ≠ .tag t) -> w'.heap[b]? = w.heap[b]?))
structure Give where
 t : Nat
 es : Nat
 n : Nat
 y : AV
def giveOf : List AV -> List AV -> List Give
 | .sl t es xs :: r, y :: ys => if 2 <= t then ⟨t, es, xs.length, y⟩ :: giveOf r ys else giveOf r ys
 | .so t xs :: r, y :: ys => ⟨t, 1, xs.length, y⟩ :: giveOf r ys
 | _ :: r, _ :: ys => giveOf r ys
 | _, _ => []
def lookG (t es n : Nat) : List Give -> Option AV
 | [] => none
 | g :: r => if g.t = t /\ g.es = es /\ g.n = n then some g.y else lookG t es n r
def giveLeaf (ts : List Nat) (L : List Give) : AV -> AV
 | .sl t es xs => if 2 <= t then (match lookG t es xs.length L with | some y => y | none => killS ts (.sl t es xs)) else .sl t es xs
 | .so t xs => match lookG t 1 xs.length L with | some y => y | none => killS ts (.so t xs)
 | x => killS ts x
def posG : List Give -> Bool
 | [] => true
 | g :: r => decide (0 < g.n /\ 0 < g.es) && posG r
theorem own_same {G : Nat -> Status} {w : World} {t es n : Nat} {v v' : Value} {e e' : TypeId} {vals vals' : List Value} (hg : Good G w) (hes : 0 < es) (hn : 0 < n) (h : w.ownsRow 0 e es v n vals) (hb : ∀ b, v.ownBlock = some b -> G b = .tag t)
  (h' : w.ownsRow 0 e' es v' n vals') (hb' : ∀ b, v'.ownBlock = some b -> G b = .tag t) : v' = v := by
 rcases h.2 with ⟨_, hz⟩ | ⟨g, cap, cur, hv, _, hh, _, _, hs, _⟩
 ·omega
 ·rcases h'.2 with ⟨_, hz⟩ | ⟨g', cap', cur', hv', _, hh', _, _, hs', _⟩
  ·omega
  ·subst hv; subst hv'
   have := hg.tags _ _ t (hb g rfl) (hb' g' rfl)
   subst this
   rw [hh] at hh'
   simp only [Option.some.injEq, Obj.cells.injEq] at hh'
   obtain ⟨rfl, _, _⟩ := hh'
   rw [hs] at hs'
   have := Nat.eq_of_mul_eq_mul_right hes hs'
   rw [this]
theorem VRel.ownPart {G : Nat -> Status} {w : World} {t es : Nat} {xs : List AV} {v : Value} (h : VRel G w (.sl t es xs) v) (ht : 2 <= t) : ∃ e vals, w.ownsRow 0 e es v xs.length vals /\ ∀ b, v.ownBlock = some b -> G b = .tag t := by
 cases h with
 | froz h => exfalso; cases h <;> omega
 | own _ _ _ _ e vals _ h2 h3 => exact ⟨e, vals, h2, h3⟩
theorem VRel.soPart {G : Nat -> Status} {w : World} {t : Nat} {xs : List AV} {v : Value} (h : VRel G w (.so t xs) v) : ∃ e vals, w.ownsRow 0 e 1 v xs.length vals /\ ∀ b, v.ownBlock = some b -> G b = .tag t := by
 cases h with
 | froz h => cases h
 | so _ _ _ e vals _ h2 h3 => exact ⟨e, vals, h2, h3⟩
theorem lookG_some {G G2 : Nat -> Status} {w w' : World} {t es n : Nat} {y : AV} (hg : Good G w) : ∀ {args ys : List AV} {vs : List Value}, PW (VRel G w) args vs -> PW (VRel G2 w') ys vs -> posG (giveOf args ys) = true -> lookG t es n (giveOf args ys) = some y ->
  ∀ {v : Value}, (∃ e vals, w.ownsRow 0 e es v n vals /\ ∀ b, v.ownBlock = some b -> G b = .tag t) -> VRel G2 w' y v
 | [], ys, vs, _, _, _, hl, v, _ => by simp [giveOf, lookG] at hl
 | a :: args, [], vs, _, _, _, hl, v, _ => by cases a <;> simp [giveOf, lookG] at hl
 | a :: args, y0 :: ys, vs, h1, h2, hp, hl, v, hv => by
  obtain ⟨u, us, rfl, k1, k2⟩ := h1.cons_inv
  obtain ⟨u', us', e, k3, k4⟩ := h2.cons_inv
  cases e
  have rest : posG (giveOf args ys) = true -> lookG t es n (giveOf args ys) = some y -> VRel G2 w' y v := fun hp hl => lookG_some hg k2 k4 hp hl hv
  have hit : ∀ {t0 es0 n0 : Nat}, (∃ e vals, w.ownsRow 0 e es0 u n0 vals /\ ∀ b, u.ownBlock = some b -> G b = .tag t0) -> 0 < n0 /\ 0 < es0 -> t0 = t /\ es0 = es /\ n0 = n -> y0 = y -> VRel G2 w' y v := by
   rintro t0 es0 n0 ⟨e1, l1, o1, o2⟩ ⟨p1, p2⟩ ⟨rfl, rfl, rfl⟩ rfl
   obtain ⟨e2, l2, o3, o4⟩ := hv
   rw [own_same hg p2 p1 o1 o2 o3 o4]; exact k3
  cases a with
  | sl t0 es0 xs =>
   simp only [giveOf] at hp hl
   split at hl
   ·rename_i ht
    rw [if_pos ht] at hp
    simp only [posG, Bool.and_eq_true, decide_eq_true_eq] at hp
    simp only [lookG] at hl
    split at hl
    ·rename_i hc
     simp only [Option.some.injEq] at hl
     exact hit (k1.ownPart ht) hp.1 hc hl
    ·exact rest hp.2 hl
   ·rename_i ht
    rw [if_neg ht] at hp
    exact rest hp hl
  | so t0 xs =>
   simp only [giveOf] at hp hl
   simp only [posG, Bool.and_eq_true, decide_eq_true_eq] at hp
   simp only [lookG] at hl
   split at hl
   ·rename_i hc
    simp only [Option.some.injEq] at hl
    exact hit k1.soPart hp.1 hc hl
   ·exact rest hp.2 hl
  | _ => simp only [giveOf] at hp hl; exact rest hp hl
def CallW (P : Program) (f : FuncId) (args : List AV) (d : Nat) (σ : St) (K : St -> Prop) : Prop :=
 σ.free d = true /\ d < σ.n /\ allLeafs (pbLt 0) args = true /\ (tagss args).length < 60 /\
  ConW P f (mapTops (renLeaf (tagss args)) args) fun r ys => r.allLeaf lt64c = true /\ allLeafs lt64c ys = true /\ posG (giveOf args (mapTops (shiftLeaf (64 * (d + 1))) ys)) = true /\
   K ((σ.map (giveLeaf (tagss args) (giveOf args (mapTops (shiftLeaf (64 * (d + 1))) ys)))).put (some d) (r.shift (64 * (d + 1))))
theorem CallW.sound0 {f : FuncId} {args : List AV} {d : Nat} {σ : St} {K : St -> Prop} {G0 w0 G a w} (hk : CallW P f args d σ K) (h : SRel G0 w0 σ G a w) {vs : Array Value}
  (hv : PW (VRel (killR d G) w) args vs.toList) :
  Callable P f /\ Calls P f vs w fun e w' => ∃ v σ' G', e = .returned v /\ K σ' /\ SRel G0 w0 σ' G' (a.put (some d) v) w' := by
 obtain ⟨hfree, hd, hpb, htl, hcall, hcon⟩ := hk
 refine ⟨hcall, ?_⟩
 obtain ⟨hs, hfr⟩ := h.fresh hfree trivial
 generalize killR d G = G1 at hs hfr hv
 generalize hts : tagss args = ts at *
 have hGc : Good (endG ts 0 G1) w := hs.good.endG (by omega)
 have hbox : ∀ b i, endG ts 0 G1 b ≠ .box i := fun b i hb => by
  cases hg : G1 b <;> simp only [endG, hg] at hb
  ·cases hb
  ·split at hb <;> cases hb
  ·rw [if_neg (by omega)] at hb; cases hb
  ·cases hb
 have hva : PW (VRel (endG ts 0 G1) w) (mapTops (renLeaf ts) args) vs.toList := by
  refine ⟨by rw [mapTops_eq]; simpa using hv.1, fun j x u hx hu => ?_⟩
  rw [mapTops_eq, List.getElem?_map] at hx
  cases hj : args[j]? with
  | none => simp [hj] at hx
  | some y =>
   simp [hj] at hx; subst hx
   have hmem := List.mem_of_getElem? hj
   exact (hv.2 j y u hj hu).endG (allLeaf_and _ _ _ (tags_in _ y (fun t ht => by rw [<- hts]; exact tagss_mem hmem t ht)) (allLeafs_mem hpb y hmem))
 refine (hcon _ w vs hGc hbox hva).mono ?_
 rintro e w' ⟨v, r, ys, G', rfl, ⟨hlt, hlts, hpos, hK⟩, hr, hys, hG', hbox', e1, e2, e3, e4, e5, e6⟩
 -- which blocks were lent
 have hnl : ∀ b, killSG ts G1 b = G1 b -> ∀ t, endG ts 0 G1 b ≠ .tag t := by
  intro b hb t ht
  cases hg : G1 b <;> simp only [endG, hg] at ht
  ·cases ht
  ·rename_i t'
   split at ht
   ·rename_i hm
    simp only [killSG, hg, List.contains_iff_mem.2 hm, if_true] at hb
    cases hb
   ·cases ht
  ·rw [if_neg (by omega)] at ht; cases ht
  ·cases ht
 have hkj : ∀ b, killSG ts G1 b ≠ .junk -> killSG ts G1 b = G1 b := by
  intro b hb
  unfold killSG at *
  cases hg : G1 b <;> simp only [hg] at * 
  split at hb
  ·exact absurd rfl hb
  ·rename_i hc; rw [if_neg hc]
 have hkeep : ∀ {x v}, VRel (killSG ts G1) w x v -> VRel (backC d w.heap.size ts G1 G') w' x v := fun hx =>
  hx.mono (fun b hb => by
   have h1 := hkj b hb
   have h2 := hs.good.lt b (by rw [<- h1]; exact hb)
   unfold backC; rw [if_pos ⟨h2, h1⟩, h1]) (fun b hb _ => by
   have h1 := hkj b hb
   exact e6 b (hs.good.lt b (by rw [<- h1]; exact hb)) (hnl b h1))
 have hS : ∀ b, Stable G' b -> Stable (backC d w.heap.size ts G1 G') b := by
  intro b hb
  unfold Stable at *
  unfold backC
  split
  ·rename_i hc
   have h1 := e5 b hc.1 (hnl b hc.2)
   rw [hb] at h1
   unfold endG at h1
   split at h1 <;> first | assumption | (cases h1; done) | (split at h1 <;> cases h1)
  ·rw [hb]
 have hF : ∀ {x v}, FRel (Stable G') w' x v -> FRel (Stable (backC d w.heap.size ts G1 G')) w' x v := fun hx => hx.mono hS (fun _ _ => rfl)
 have hT : ∀ b t, G' b = .tag t -> root t < 64 -> backC d w.heap.size ts G1 G' b = .tag (t + 64 * (d + 1)) := by
  intro b t hb ht
  unfold backC
  rw [if_neg (fun hc => by
   have h1 := e5 b hc.1 (hnl b hc.2)
   rw [hb] at h1
   exact hnl b hc.2 t h1.symm), hb]
  simp only [ht, if_true]
 have hdl := hfr.1
 have hres : ∀ {r : AV} {v : Value}, VRel G' w' r v -> r.allLeaf lt64c = true -> VRel (backC d w.heap.size ts G1 G') w' (r.shift (64 * (d + 1))) v := by
  intro r v hr hlt
  refine hr.mapTopQ (fun x v hx hq hr => ?_) hlt
  cases x with
  | sl t es xs =>
   simp only [lt64c, decide_eq_true_eq] at hq
   simp only [shiftLeaf, shiftTag]
   cases hr with
   | froz hr =>
    have : t < 2 := by cases hr <;> assumption
    rw [if_pos this]; exact .froz (hF hr)
   | own _ _ _ _ e vals g1 g2 g3 g4 g0 g5 =>
    rw [if_neg (by omega)]
    exact .own _ es xs v e vals (by omega) g2 (fun b hb => hT b t (g3 b hb) hq) g4 g0 (g5.mono fun x y _ hr => hF hr)
  | so t xs =>
   simp only [lt64c, decide_eq_true_eq] at hq
   simp only [shiftLeaf, shiftTag]
   have ht := hr.so_two
   rw [if_neg (by omega)]
   have hroot : root (t + 64 * (d + 1)) = root t + 64 * (d + 1) := by unfold root at *; omega
   cases hr with
   | froz hr => cases hr
   | so _ _ _ e vals g1 g2 g3 g4 g0 g5 =>
   refine .so _ _ v e vals (by omega) (by rw [List.length_map]; exact g2) (fun b hb => hT b t (g3 b hb) hq) (fun y hy => ?_) g0 ⟨by simpa using g5.1, fun j y u hy hu => ?_⟩
   ·obtain ⟨x, hx, rfl⟩ := List.mem_map.1 hy
    have := g4 x hx
    cases x <;> first | rfl | (simp [AV.rowLike] at this)
   ·rw [List.getElem?_map] at hy
    cases hx : xs[j]? with
    | none => simp [hx] at hy
    | some x =>
     simp [hx] at hy; subst hy
     have hr := g5.2 j x u hx hu
     cases hr with
     | froz hr =>
      have hr' := hF hr
      cases x <;> first | exact .froz hr' | skip
      rename_i t' es ys
      have : t' < 2 := by cases hr <;> assumption
      simp only [shiftRow, shiftTag]; rw [if_pos (by omega)]; exact .froz hr'
     | own t' es ys _ e' vals' k1 krt k2 k3 k4 k0 k5 =>
      simp only [shiftRow, shiftTag]; rw [if_neg (by omega)]
      exact .own _ es ys u e' vals' (by omega) (by unfold root at *; omega) k2 (fun b hb => hT b t' (k3 b hb) (by omega)) k4 k0 (k5.mono fun z y hz hr => hF hr)
  | po t xs i => simp [lt64c] at hq
  | pe t es xs i o =>
   simp only [lt64c, decide_eq_true_eq] at hq
   obtain ⟨b, off, c, h1, h2, rfl⟩ := hr.pe_inv
   simp only [shiftLeaf, shiftTag]
   rw [if_pos hq]
   cases h1 with
   | froz h1 => exact .froz (.pe _ _ _ _ _ _ _ _ (hF h1) h2)
   | own => omega
  | pb i o => simp [lt64c] at hq
  | ag cs => simp [AV.leafy] at hx
  | tup cs => simp [AV.leafy] at hx
  | any => exact .froz (.any _)
  | nil => rw [hr.nil_inv]; exact .froz .nil
  | ub => obtain ⟨b, rfl⟩ := hr.ub_inv; exact .froz (.ub b)
  | sc u => rw [hr.sc_inv]; exact .froz (.sc _)
  | fn g caps => cases hr with | froz hr => exact .froz (hF hr)
  | mp t P k e D => simp [lt64c] at hq
  | cl g caps => simp [lt64c] at hq
  | tl t es xs i => simp [lt64c] at hq
  | fp cs o => cases hr with | froz hr => exact .froz (hF hr)
 have hYS : PW (VRel (backC d w.heap.size ts G1 G') w') (mapTops (shiftLeaf (64 * (d + 1))) ys) vs.toList := by
  refine ⟨by rw [mapTops_eq]; simpa using hys.1, fun j x u hx hu => ?_⟩
  rw [mapTops_eq, List.getElem?_map] at hx
  cases hj : ys[j]? with
  | none => simp [hj] at hx
  | some y => simp [hj] at hx; subst hx; exact hres (hys.2 j y u hj hu) (allLeafs_mem hlts y (List.mem_of_getElem? hj))
 have hgive : ∀ {x v}, VRel G1 w x v -> VRel (backC d w.heap.size ts G1 G') w' (x.mapTop (giveLeaf ts (giveOf args (mapTops (shiftLeaf (64 * (d + 1))) ys)))) v := by
  intro x v h
  refine h.mapTop fun x v hx h => ?_
  cases x with
  | sl t es xs =>
   simp only [giveLeaf]
   split
   ·rename_i ht
    split
    ·rename_i y hy
     exact lookG_some hs.good hv hYS hpos hy (h.ownPart ht)
    ·exact hkeep h.killS
   ·rename_i ht
    have := hkeep h.killS
    simp only [AV.mapTop, killS, ht, false_and, if_false] at this
    exact this
  | so t xs =>
   simp only [giveLeaf]
   split
   ·rename_i y hy
    exact lookG_some hs.good hv hYS hpos hy h.soPart
   ·exact hkeep h.killS
  | ag cs => simp [AV.leafy] at hx
  | tup cs => simp [AV.leafy] at hx
  | _ => exact hkeep h.killS
 have htag : ∀ b t, backC d w.heap.size ts G1 G' b = .tag t -> (b < w.heap.size /\ G1 b = .tag t) \/ (root t / 64 = d + 1 /\ G' b = .tag (t - 64 * (d + 1)) /\ 64 * (d + 1) <= t) := by
  intro b t hb
  unfold backC at hb
  split at hb
  ·rename_i hc; exact .inl ⟨hc.1, hb⟩
  ·split at hb <;> try (cases hb; done)
   rename_i t' ht'
   split at hb
   ·cases hb; exact .inr ⟨by unfold root at *; omega, by rw [ht']; congr 1; omega, by omega⟩
   ·cases hb
 have hbx : ∀ b i, backC d w.heap.size ts G1 G' b = .box i -> G1 b = .box i := by
  intro b i hb
  unfold backC at hb
  split at hb
  ·exact hb
  ·split at hb <;> first | (cases hb; done) | (split at hb <;> cases hb)
 have hgood : Good (backC d w.heap.size ts G1 G') w' := by
  refine ⟨fun b hb => ?_, fun b b' t h1 h2 => ?_, fun b b' i h1 h2 => hs.good.boxes b b' i (hbx b i h1) (hbx b' i h2)⟩
  ·unfold backC at hb
   split at hb
   ·omega
   ·exact hG'.lt b fun h' => hb (by simp [h'])
  ·rcases htag b t h1 with ⟨_, h1⟩ | ⟨h1, g1, q1⟩ <;> rcases htag b' t h2 with ⟨_, h2⟩ | ⟨h2, g2, q2⟩
   ·exact hs.good.tags b b' t h1 h2
   ·exact absurd h2 (hfr.2 b t h1)
   ·exact absurd h1 (hfr.2 b' t h2)
   ·exact hG'.tags b b' _ g1 g2
 have hnlG : ∀ b t, G1 b ≠ .tag t -> killSG ts G1 b = G1 b \/ ∃ t', G1 b = .tag t' := by
  intro b t _
  unfold killSG
  cases hg : G1 b with
  | tag t' => exact .inr ⟨t', rfl⟩
  | _ => exact .inl rfl
 refine ⟨v, _, backC d w.heap.size ts G1 G', rfl, hK, ?_⟩
 refine { good := hgood, slots := slots_put (fun s => ?_) hs.size (show dstOk (σ.map (giveLeaf ts (giveOf args (mapTops (shiftLeaf (64 * (d + 1))) ys)))).n (some d) = true from decide_eq_true hd) (hres hr hlt), boxes := ⟨fun i vs hv => by rw [put_boxes]; have := hs.boxes.low i vs hv; simpa [St.map, mapB_eq] using this, fun i cs hi => ?_⟩, blt := fun b i hb => ?_, size := ?_, defs := ?_, os := e1.trans hs.os, tape := e2.trans hs.tape, output := e3.trans hs.output, hsize := Nat.le_trans hs.hsize e4, stat := fun b hb hnt => ?_, keep := fun b hb hn hnt => ?_ }
 ·have : (σ.map (giveLeaf ts (giveOf args (mapTops (shiftLeaf (64 * (d + 1))) ys)))).get s = (σ.get s).mapTop (giveLeaf ts (giveOf args (mapTops (shiftLeaf (64 * (d + 1))) ys))) := lookT_map rfl σ.tmps s
  rw [this]; exact hgive (hs.slots s)
 ·rw [put_boxes] at hi
  simp only [St.map, mapB_eq, List.getElem?_map] at hi
  cases hc : σ.boxes[i]? with
  | none => simp [hc] at hi
  | some cs' =>
   simp [hc] at hi; subst hi
   rw [mapTops_eq]
   refine (hs.boxes.cell i cs' hc).map (fun x v hr => hgive hr) (fun b g1 => ?_) fun h0 b hb => h0 b (hbx b i hb)
   have hb := hs.good.lt b (by rw [g1]; simp)
   have hnk : killSG ts G1 b = G1 b := by unfold killSG; rw [g1]
   exact ⟨by unfold backC; rw [if_pos ⟨hb, hnk⟩]; exact g1, e6 b hb (hnl b hnk)⟩
 ·rw [put_boxes]
  have := hs.blt b i (hbx b i hb)
  simpa [St.map, mapB_eq] using this
 ·rw [put_size, put_n]; exact hs.size
 ·rw [put_defers]; exact hs.defs
 ·have h1 := hs.stat b hb hnt
  have h2 : killSG ts G1 b = G1 b := by
   unfold killSG
   cases hg : G1 b with
   | tag t' => rw [h1] at hg; exact absurd hg (hnt t')
   | _ => rfl
  unfold backC; rw [if_pos ⟨Nat.lt_of_lt_of_le hb hs.hsize, h2⟩]; exact h1
 ·have h1 := hs.stat b hb hnt
  have h2 : killSG ts G1 b = G1 b := by
   unfold killSG
   cases hg : G1 b with
   | tag t' => rw [h1] at hg; exact absurd hg (hnt t')
   | _ => rfl
  rw [e6 b (Nat.lt_of_lt_of_le hb hs.hsize) (hnl b h2)]; exact hs.keep b hb hn hnt
def viewAG (G : Nat -> Status) (b : Nat) : Status :=
 match G b with
 | .junk => .junk
 | _ => .stable
def allFzV : List AV -> Bool
 | [] => true
 | x :: r => fzLeaf (viewLeaf x) && allFzV r
def viewCap (bx : List (List AV)) : AV -> AV
 | .pb i o => match bx[i]? with
  | none => .any
  | some cs => if allFzV cs = true then .fp (cs.map viewLeaf) o else .any
 | x => if fzLeaf x = true then x else .any
def viewV (bx : List (List AV)) : AV -> AV
 | .pb i o => viewCap bx (.pb i o)
 | .cl f caps => .fn f (caps.map (viewCap bx))
 | x => viewLeaf x
theorem viewG_A {ts : List Nat} {G : Nat -> Status} {b : Nat} (h : viewG ts G b ≠ .junk) : viewAG G b = viewG ts G b := by
 unfold viewG viewAG at *
 cases hg : G b <;> simp only [hg] at h ⊢
 ·split at h
  ·rename_i hc; rw [if_pos hc]
  ·exact absurd rfl h
 ·exact absurd rfl h
theorem viewA_stable {G : Nat -> Status} {b : Nat} (h : Stable G b) : Stable (viewAG G) b := by unfold Stable at *; simp [viewAG, h]
theorem Good.viewA {G : Nat -> Status} {w : World} (h : Good G w) : Good (viewAG G) w /\ (∀ b t, viewAG G b ≠ .tag t) /\ (∀ b i, viewAG G b ≠ .box i) := by
 have h1 : ∀ b t, viewAG G b ≠ .tag t := fun b t hb => by unfold viewAG at hb; split at hb <;> cases hb
 have h2 : ∀ b i, viewAG G b ≠ .box i := fun b t hb => by unfold viewAG at hb; split at hb <;> cases hb
 exact ⟨⟨fun b hb => h.lt b fun h' => hb (by simp [viewAG, h']), fun b b' t hb => absurd hb (h1 b t), fun b b' i hb => absurd hb (h2 b i)⟩, h1, h2⟩
theorem VRel.viewA {G : Nat -> Status} {w : World} {x : AV} {v : Value} (h : VRel G w x v) (hx : x.leafy = true) : VRel (viewAG G) w (viewLeaf x) v := by
 have := h.view (ts := x.tags) (tags_in _ x fun _ h => h)
 rw [show x.view = viewLeaf x from AV.mapTop_leaf _ hx] at this
 exact this.mono (fun b hb => viewG_A hb) (fun _ _ _ => rfl)
theorem allFzV_at : ∀ {cs : List AV} {j : Nat} {c : AV}, allFzV cs = true -> cs[j]? = some c -> fzLeaf (viewLeaf c) = true
 | [], j, c, _, h => by simp at h
 | a :: cs, 0, c, hf, h => by
  simp only [allFzV, Bool.and_eq_true] at hf
  simp at h; subst h; exact hf.1
 | a :: cs, j + 1, c, hf, h => by
  simp only [allFzV, Bool.and_eq_true] at hf
  exact allFzV_at hf.2 (by simpa using h)
theorem viewCap_rel {G : Nat -> Status} {w : World} {gh : Gh} {bx : List (List AV)} (hg : Good G w) (hb : BRel gh G w bx) {x : AV} {v : Value} (h : CapRel G w x v) : FRel (Stable (viewAG G)) w (viewCap bx x) v := by
 rcases h with ⟨i, o, b, rfl, hbi, rfl⟩ | h
 ·simp only [viewCap]
  split
  ·exact .any _
  ·rename_i cs hcs
   split
   ·rename_i hfz
    obtain ⟨b', vals, ty, g1, g2, g3, g4⟩ := hb.real hcs hbi
    have hbb := hg.boxes b' b i g1 hbi
    ·subst hbb
     refine .fp _ _ b' vals.toList (by unfold Stable viewAG; rw [hbi]) (by simpa using g4.1) g3 (fun j u hj => ?_) fun j x u hx hu => ?_
     ·simp only [World.cell?, g2]; simpa using hj
     ·rw [List.getElem?_map] at hx
      cases hj : cs[j]? with
      | none => simp [hj] at hx
      | some c =>
       simp [hj] at hx; subst hx
       have hcf : fzLeaf (viewLeaf c) = true := allFzV_at hfz hj
       have hcl : c.leafy = true := by cases c <;> first | rfl | (simp [viewLeaf, fzLeaf] at hcf)
       exact ((g4.2 j c u hj hu).viewA hcl).fzLeaf hcf
   ·exact .any _
 ·have hm := h.mono (S' := Stable (viewAG G)) (w' := w) (fun b => viewA_stable) (fun _ _ => rfl)
  cases x <;> simp only [viewCap] <;> first | (cases h; done) | (split <;> first | exact hm | exact .any _)
theorem VRel.viewV {G : Nat -> Status} {w : World} {gh : Gh} {bx : List (List AV)} (hg : Good G w) (hb : BRel gh G w bx) {x : AV} {v : Value} (h : VRel G w x v) : VRel (viewAG G) w (x.mapTop (AM.viewV bx)) v := by
 refine h.mapTop fun x v hx h => ?_
 cases x with
 | pb i o =>
  obtain ⟨b, hbi, rfl⟩ := h.pb_inv
  exact .froz (viewCap_rel hg hb (.inl ⟨i, o, b, rfl, hbi, rfl⟩))
 | cl f caps =>
  obtain ⟨vs, rfl, hp⟩ := h.cl_inv
  refine .froz (.fn f _ vs (by simpa using hp.1) fun j x u hx hu => ?_)
  rw [List.getElem?_map] at hx
  cases hj : caps[j]? with
  | none => simp [hj] at hx
  | some c => simp [hj] at hx; subst hx; exact viewCap_rel hg hb (hp.2 j c u hj hu)
 | ag cs => simp [AV.leafy] at hx
 | tup cs => simp [AV.leafy] at hx
 | _ => exact h.viewA rfl
def CallV (P : Program) (f : FuncId) (args : List AV) (d : Nat) (σ : St) (K : St -> Prop) : Prop :=
 σ.free d = true /\ d < σ.n /\ Con P f (mapTops (viewV σ.boxes) args) [] fun r _ => r.allLeaf lt64 = true /\ r.allLeaf flatLeaf = true /\ K (σ.put (some d) (r.shift (64 * (d + 1))))
theorem CallV.sound {f : FuncId} {args : List AV} {d : Nat} {σ : St} {K : St -> Prop} {G0 w0 G a w} (hk : CallV P f args d σ K) (h : SRel G0 w0 σ G a w) {vs : Array Value}
  (hv : ∀ G, SRel G0 w0 σ G a w -> PW (VRel G w) args vs.toList) :
  Callable P f /\ Calls P f vs w fun e w' => ∃ v σ' G', e = .returned v /\ K σ' /\ SRel G0 w0 σ' G' (a.put (some d) v) w' := by
 obtain ⟨hfree, hd, hcall, hcon⟩ := hk
 refine ⟨hcall, ?_⟩
 obtain ⟨hs, hfr⟩ := h.fresh hfree trivial
 have hgv := hs.good.viewA
 have hva : PW (VRel (viewAG (killR d G)) w) (mapTops (viewV σ.boxes) args) vs.toList := by
  have hv := hv _ hs
  refine ⟨by rw [mapTops_eq]; simpa using hv.1, fun j x u hx hu => ?_⟩
  rw [mapTops_eq, List.getElem?_map] at hx
  cases hj : args[j]? with
  | none => simp [hj] at hx
  | some y =>
   simp [hj] at hx; subst hx
   exact (hv.2 j y u hj hu).viewV hs.good hs.boxes
 refine (hcon _ w vs hgv.1 hgv.2.1 (fun b i hb => absurd hb (hgv.2.2 b i)) ⟨fun i vs hv => by simp [noGh] at hv, fun i cs hi => by simp at hi⟩ hva).mono ?_
 rintro e w' ⟨v, r, bx', G', rfl, ⟨hlt, hf, hK⟩, hr, hG', _, _, e1, e2, e3, e4, e5, e6⟩
 have e6' : ∀ b, b < w.heap.size -> w'.heap[b]? = w.heap[b]? := fun b hb => e6 b hb (fun i => hgv.2.2 b i)
 have := hr.back (d := d) (G := killR d G) (Gc := viewAG (killR d G)) (w := w) hlt hfr.1 e5 hgv.2.1 (.inr hf)
 exact ⟨v, _, _, rfl, hK, hs.back hfr hd this hG' e1 e2 e3 e4 e6'⟩
def catB : List (List AV) -> List AV
 | [] => []
 | c :: r => c ++ catB r
theorem catB_mem : ∀ {l : List (List AV)} {j : Nat} {cs : List AV}, l[j]? = some cs -> ∀ x ∈ cs, x ∈ catB l
 | [], j, cs, h, _, _ => by simp at h
 | c :: r, j, cs, hj, x, hx => by
  simp only [catB, List.mem_append]
  cases j with
  | zero => simp at hj; subst hj; exact .inl hx
  | succ j => exact .inr (catB_mem (by simpa using hj) x hx)
def ConX (P : Program) (f : FuncId) (args : List AV) (bx : List (List AV)) (post : AV -> List (List AV) -> Prop) : Prop :=
 Callable P f /\ ∀ (G : Nat -> Status) (w : World) (vs : Array Value), Good G w -> (∀ b i, G b = .box i -> i < bx.length) -> BRel noGh G w bx -> PW (VRel G w) args vs.toList ->
  Calls P f vs w (fun e w' => ∃ v r bx' G', e = .returned v /\ post r bx' /\ VRel G' w' r v /\ Good G' w' /\ BRel noGh G' w' bx' /\ (∀ b i, G' b = .box i -> i < bx'.length) /\
   w'.os = w.os /\ w'.tape = w.tape /\ w'.output = w.output /\ w.heap.size <= w'.heap.size /\ (∀ b, b < w.heap.size -> (∀ t, G b ≠ .tag t) -> G' b = G b) /\ (∀ b, b < w.heap.size -> (∀ t, G b ≠ .tag t) -> (∀ i, G b ≠ .box i) -> w'.heap[b]? = w.heap[b]?))
theorem ConX.mono {f : FuncId} {args : List AV} {bx : List (List AV)} {post post' : AV -> List (List AV) -> Prop} (h : ConX P f args bx post) (hp : ∀ r bx, post r bx -> post' r bx) : ConX P f args bx post' :=
 ⟨h.1, fun G w vs h1 h2 h3 h4 => (h.2 G w vs h1 h2 h3 h4).mono fun _ _ ⟨v, r, bx', G', he, hq, rest⟩ => ⟨v, r, bx', G', he, hp _ _ hq, rest⟩⟩
def capX (is : List Nat) : AV -> AV
 | .pb i o => if is.contains i = true then .pb (is.idxOf i) o else .any
 | x => if fzLeaf x = true then x else .any
def inX (ts is : List Nat) : AV -> AV
 | .pb i o => if is.contains i = true then .pb (is.idxOf i) o else .any
 | .cl f caps => .cl f (caps.map (capX is))
 | x => renLeaf ts x
def okX : AV -> Bool
 | .mp _ _ _ _ _ => false
 | .tl _ _ _ _ => false
 | _ => true
def viewX (ts is : List Nat) (G : Nat -> Status) (b : Nat) : Status :=
 match G b with
 | .stable => .stable
 | .tag t => if root t ∈ ts then .tag (renT ts t) else .junk
 | .box i => if is.contains i = true then .box (is.idxOf i) else .junk
 | .junk => .junk
theorem viewX_stable {ts is : List Nat} {G : Nat -> Status} {b : Nat} (h : Stable G b) : Stable (viewX ts is G) b := by unfold Stable at *; simp [viewX, h]
theorem viewX_stable' {ts is : List Nat} {G : Nat -> Status} {b : Nat} (h : Stable (viewX ts is G) b) : Stable G b := by
 unfold Stable viewX at *
 split at h
 ·assumption
 ·split at h <;> cases h
 ·split at h <;> cases h
 ·cases h
theorem viewX_box {ts is : List Nat} {G : Nat -> Status} {b j : Nat} (h : viewX ts is G b = .box j) : ∃ i, G b = .box i /\ i ∈ is /\ is.idxOf i = j := by
 unfold viewX at h
 split at h
 ·cases h
 ·split at h <;> cases h
 ·rename_i i hi
  split at h
  ·rename_i hc; cases h; exact ⟨i, hi, by simpa using hc, rfl⟩
  ·cases h
 ·cases h
theorem viewX_tag {ts is : List Nat} {G : Nat -> Status} {b t : Nat} (h : viewX ts is G b = .tag t) : ∃ t', root t' ∈ ts /\ G b = .tag t' /\ t = renT ts t' := by
 unfold viewX at h
 split at h
 ·cases h
 ·rename_i t' ht'
  split at h
  ·rename_i hm; cases h; exact ⟨t', hm, ht', rfl⟩
  ·cases h
 ·split at h <;> cases h
 ·cases h
theorem VRel.viewX {ts is : List Nat} {G : Nat -> Status} {w : World} {x : AV} {v : Value} (h : VRel G w x v) (hq : x.allLeaf (fun y => tagsIn ts y && okX y) = true) : VRel (AM.viewX ts is G) w (x.mapTop (inX ts is)) v := by
 have hsl : ∀ {t es xs v}, (t < 2 \/ root t ∈ ts) -> VRel G w (.sl t es xs) v -> VRel (AM.viewX ts is G) w (if 2 <= t then .sl (renT ts t) es xs else .sl t es xs) v := by
  intro t es xs v ht h
  cases h with
  | froz h =>
   have : t < 2 := by cases h <;> assumption
   rw [if_neg (by omega)]
   exact .froz (h.mono (fun b => viewX_stable) (fun _ _ => rfl))
  | own _ _ _ _ e vals h1 h2 h3 h4 h0 h5 =>
   rw [if_pos h1]
   have ht' : root t ∈ ts := ht.resolve_left (by omega)
   exact .own _ es xs v e vals (by unfold renT; omega) h2 (fun b hb => by unfold AM.viewX; rw [h3 b hb]; simp [ht']) h4 h0 (h5.mono fun x y _ hr => hr.mono (fun b => viewX_stable) (fun _ _ => rfl))
 have hso : ∀ {t xs v}, root t ∈ ts -> VRel G w (.so t xs) v -> VRel (AM.viewX ts is G) w (.so (renT ts t) (xs.map (renRow ts))) v := by
  intro t xs v ht h
  refine h.so_map (by unfold renT; omega) (fun x u hx hr => ?_) (fun b hb => ⟨by unfold AM.viewX; rw [hb]; simp [ht], rfl⟩)
  cases hr with
  | froz hr =>
   have hr' := hr.mono (S' := Stable (AM.viewX ts is G)) (w' := w) (fun b => viewX_stable) (fun _ _ => rfl)
   cases x <;> first | exact ⟨hx, .froz hr'⟩ | skip
   rename_i t' es ys
   have : t' < 2 := by cases hr <;> assumption
   simp only [renRow]; rw [if_neg (by omega)]; exact ⟨hx, .froz hr'⟩
  | own t' es ys _ e vals h1 hrt h2 h3 h4 h0 h5 =>
   simp only [renRow]; rw [if_pos h1]
   have hro : root (renT ts t') = root (renT ts t) := by unfold renT; rw [hrt]; unfold root; omega
   exact ⟨rfl, .own _ es ys _ e vals (by unfold renT; omega) hro h2 (fun b hb => by unfold AM.viewX; rw [h3 b hb]; simp [hrt, ht]) h4 h0 (h5.mono fun x y _ hr => hr.mono (fun b => viewX_stable) (fun _ _ => rfl))⟩
 refine h.mapTopQ (fun x v hx hq h => ?_) hq
 cases x with
 | so t xs =>
  simp only [tagsIn, okX, Bool.and_true, List.contains_iff_mem] at hq
  exact hso hq h
 | po t xs i =>
  simp only [tagsIn, okX, Bool.and_true, List.contains_iff_mem] at hq
  obtain ⟨b, off, c, h1, h2, rfl⟩ := h.po_inv
  exact (hso hq h1).po_of (by simp) h2
 | sl t es xs =>
  simp only [tagsIn, okX, Bool.and_true, Bool.or_eq_true, decide_eq_true_eq, List.contains_iff_mem] at hq
  have := hsl hq h; simp only [inX, renLeaf]; exact this
 | pe t es xs i o =>
  simp only [tagsIn, okX, Bool.and_true, Bool.or_eq_true, decide_eq_true_eq, List.contains_iff_mem] at hq
  obtain ⟨b, off, c, h1, h2, rfl⟩ := h.pe_inv
  have := hsl hq h1
  simp only [inX, renLeaf]
  split at this
  ·rename_i ht; rw [if_pos ht]; exact .pe _ _ _ _ _ _ _ _ this h2
  ·rename_i ht; rw [if_neg ht]; exact .pe _ _ _ _ _ _ _ _ this h2
 | pb i o =>
  obtain ⟨b, hb, rfl⟩ := h.pb_inv
  simp only [inX]
  split
  ·rename_i hc; exact .pb _ _ _ (by simp only [AM.viewX, hb, hc, if_true])
  ·exact .froz (.any _)
 | ag cs => simp [AV.leafy] at hx
 | tup cs => simp [AV.leafy] at hx
 | any => exact .froz (.any _)
 | nil => rw [h.nil_inv]; exact .froz .nil
 | ub => obtain ⟨b, rfl⟩ := h.ub_inv; exact .froz (.ub b)
 | sc u => rw [h.sc_inv]; exact .froz (.sc _)
 | fn g caps => cases h with | froz h => exact .froz (h.mono (fun b => viewX_stable) (fun _ _ => rfl))
 | mp t P k e D => simp [okX] at hq
 | cl g caps =>
  obtain ⟨vs, rfl, hp⟩ := h.cl_inv
  simp only [inX]
  refine .cl g _ vs ⟨by simpa using hp.1, fun j x u hx hu => ?_⟩
  rw [List.getElem?_map] at hx
  cases hj : caps[j]? with
  | none => simp [hj] at hx
  | some c =>
   simp [hj] at hx; subst hx
   rcases hp.2 j c u hj hu with ⟨i, o, b, rfl, hb, rfl⟩ | hf
   ·simp only [capX]
    split
    ·rename_i hc; exact .inl ⟨_, o, b, rfl, by simp only [AM.viewX, hb, hc, if_true], rfl⟩
    ·exact .inr (.any _)
   ·have hm := hf.mono (S' := Stable (AM.viewX ts is G)) (w' := w) (fun b => viewX_stable) (fun _ _ => rfl)
    refine .inr ?_
    cases c <;> simp only [capX] <;> first | (cases hf; done) | (split <;> first | exact hm | exact .any _)
 | tl t es xs i => simp [okX] at hq
 | fp cs o => cases h with | froz h => exact .froz (h.mono (fun b => viewX_stable) (fun _ _ => rfl))
theorem Good.viewX {ts is : List Nat} {G : Nat -> Status} {w : World} (h : Good G w) (hlen : ts.length < 1000) : Good (AM.viewX ts is G) w := by
 refine ⟨fun b hb => h.lt b fun h' => hb (by simp [AM.viewX, h']), fun b b' t h1 h2 => ?_, fun b b' j h1 h2 => ?_⟩
 ·obtain ⟨t1, m1, g1, e1⟩ := viewX_tag h1
  obtain ⟨t2, m2, g2, e2⟩ := viewX_tag h2
  have i1 := List.idxOf_lt_length_iff.2 m1
  have i2 := List.idxOf_lt_length_iff.2 m2
  have e3 : ts.idxOf (root t1) = ts.idxOf (root t2) := by unfold renT at e1 e2; omega
  have e4 := idxOf_inj m1 m2 e3
  have : t1 = t2 := by unfold renT at e1 e2; unfold root at e4; rw [e3] at e1; omega
  subst this
  exact h.tags b b' t1 g1 g2
 ·obtain ⟨i, g1, g2, g3⟩ := viewX_box h1
  obtain ⟨i', k1, k2, k3⟩ := viewX_box h2
  have : i = i' := idxOf_inj g2 k2 (by omega)
  subst this
  exact h.boxes b b' i g1 k1
def backX (d n : Nat) (ts is : List Nat) (n0 : Nat) (G G' : Nat -> Status) (b : Nat) : Status :=
 if b < n /\ killSG ts G b = G b then G b else
  match G' b with
  | .stable => .stable
  | .tag t => if root t < 64 then .tag (t + 64 * (d + 1)) else .junk
  | .box j => if is.length <= j then .box (n0 + (j - is.length)) else .junk
  | .junk => .junk
def CallX (P : Program) (f : FuncId) (args : List AV) (is : List Nat) (d : Nat) (σ : St) (K : St -> Prop) : Prop :=
 σ.free d = true /\ d < σ.n /\ nodupB is = true /\ ∃ bx, getAll σ.boxes is = some bx /\ allLeafs okX (args ++ catB bx) = true /\ (tagss (args ++ catB bx)).length < 60 /\
  ConX P f (mapTops (inX (tagss (args ++ catB bx)) is) args) (mapB (inX (tagss (args ++ catB bx)) is) bx) fun r bx' => r.allLeaf lt64b = true /\ allLeafs lt64b (catB bx') = true /\
   K (St.put ⟨σ.n, mapT (killS (tagss (args ++ catB bx))) σ.tmps, setAll is (mapB (outLeaf (64 * (d + 1)) is σ.boxes.length) (bx'.take is.length)) (mapB (killS (tagss (args ++ catB bx))) σ.boxes) ++ mapB (outLeaf (64 * (d + 1)) is σ.boxes.length) (bx'.drop is.length)⟩ (some d) (r.mapTop (outLeaf (64 * (d + 1)) is σ.boxes.length)))
theorem CallX.sound0 {f : FuncId} {args : List AV} {is : List Nat} {d : Nat} {σ : St} {K : St -> Prop} {G0 w0 G a w} (hk : CallX P f args is d σ K) (h : SRel G0 w0 σ G a w) {vs : Array Value}
  (hv : PW (VRel (killR d G) w) args vs.toList) (hre : ∀ i ∈ is, ∃ b, killR d G b = .box i) :
  Callable P f /\ Calls P f vs w fun e w' => ∃ v σ' G', e = .returned v /\ K σ' /\ SRel G0 w0 σ' G' (a.put (some d) v) w' := by
 obtain ⟨hfree, hd, hnd, bx, hbx, hok, htl, hcall, hcon⟩ := hk
 refine ⟨hcall, ?_⟩
 obtain ⟨hs, hfr⟩ := h.fresh hfree trivial
 generalize killR d G = G1 at hs hfr hre hv
 have hall : ∀ x ∈ args ++ catB bx, x.allLeaf (fun y => tagsIn (tagss (args ++ catB bx)) y && okX y) = true := fun x hx =>
  allLeaf_and _ _ _ (tags_in _ x (tagss_mem hx)) (allLeafs_mem hok x hx)
 generalize tagss (args ++ catB bx) = ts at *
 have hnd := nodupB_spec hnd
 obtain ⟨hbl, hbg⟩ := getAll_spec hbx
 have hva : PW (VRel (viewX ts is G1) w) (mapTops (inX ts is) args) vs.toList := by
  refine ⟨by rw [mapTops_eq]; simpa using hv.1, fun j x u hx hu => ?_⟩
  rw [mapTops_eq, List.getElem?_map] at hx
  cases hj : args[j]? with
  | none => simp [hj] at hx
  | some y => simp [hj] at hx; subst hx; exact (hv.2 j y u hj hu).viewX (hall y (List.mem_append_left _ (List.mem_of_getElem? hj)))
 have hreal : ∀ {j : Nat} (hjl : j < is.length) {c : List AV} (hc : σ.boxes[is[j]]? = some c), ∃ b vals ty, G1 b = .box is[j] /\ w.heap[b]? = some (.cells vals ty (0, 0)) /\ One vals.toList /\ PW (VRel G1 w) c vals.toList := fun hjl c hc => by
  obtain ⟨b, hb⟩ := hre _ (List.getElem_mem hjl)
  exact BRel.real hs.boxes hc hb
 have hbr : BRel noGh (viewX ts is G1) w (mapB (inX ts is) bx) := by
  refine ⟨fun i vs hv => by simp [noGh] at hv, fun j cs hj => ?_⟩
  rw [mapB_eq, List.getElem?_map] at hj
  cases hc : bx[j]? with
  | none => simp [hc] at hj
  | some c =>
   simp [hc] at hj; subst hj
   have hjl : j < is.length := by rw [<- hbl]; exact (List.getElem?_eq_some_iff.1 hc).1
   obtain ⟨c', g1, g2⟩ := hbg j _ (List.getElem?_eq_getElem hjl)
   rw [hc] at g2; cases g2
   obtain ⟨b, vals, ty, k1, k2, k3, k4⟩ := hreal hjl g1
   refine .inl ⟨rfl, b, vals, ty, ?_, k2, k3, by rw [mapTops_eq]; simpa using k4.1, fun i x u hx hu => ?_⟩
   ·have : is[j] ∈ is := List.getElem_mem hjl
    simp only [viewX, k1, List.contains_iff_mem.2 this, if_true]
    rw [hnd.idxOf_getElem j hjl]
   ·rw [mapTops_eq, List.getElem?_map] at hx
    cases hi : c[i]? with
    | none => simp [hi] at hx
    | some y => simp [hi] at hx; subst hx; exact (k4.2 i y u hi hu).viewX (hall y (List.mem_append_right _ (catB_mem hc y (List.mem_of_getElem? hi))))
 have hbc : ∀ b i, viewX ts is G1 b = .box i -> i < (mapB (inX ts is) bx).length := fun b i hb => by
  obtain ⟨i', _, g2, g3⟩ := viewX_box hb
  rw [mapB_eq, List.length_map, hbl, <- g3]
  exact List.idxOf_lt_length_iff.2 g2
 refine (hcon _ w vs (hs.good.viewX (by omega)) hbc hbr hva).mono ?_
 rintro e w' ⟨v, r, bx', G', rfl, ⟨hlt, hnt, hK⟩, hr, hG', hbr', hbc', e1, e2, e3, e4, e5, e6⟩
 -- which blocks were lent
 have hnl : ∀ b, killSG ts G1 b = G1 b -> ∀ t, viewX ts is G1 b ≠ .tag t := by
  intro b hb t ht
  obtain ⟨t', hm, hg, _⟩ := viewX_tag ht
  simp only [killSG, hg, List.contains_iff_mem.2 hm, if_true] at hb
  cases hb
 have hkj : ∀ b, killSG ts G1 b ≠ .junk -> killSG ts G1 b = G1 b := by
  intro b hb
  unfold killSG at *
  cases hg : G1 b <;> simp only [hg] at * 
  split at hb
  ·exact absurd rfl hb
  ·rename_i hc; rw [if_neg hc]
 have hnk : ∀ b i, G1 b = .box i -> killSG ts G1 b = G1 b := fun b i hb => by unfold killSG; rw [hb]
 have hold : ∀ b i, G1 b = .box i -> i ∈ is -> G' b = .box (is.idxOf i) := fun b i hb hi => by
  rw [e5 b (hs.good.lt b (by rw [hb]; simp)) (hnl b (hnk b i hb))]
  simp only [viewX, hb, List.contains_iff_mem.2 hi, if_true]
 have hnew : ∀ b j, ¬ (b < w.heap.size /\ killSG ts G1 b = G1 b) -> G' b = .box j -> is.length <= j := by
  intro b j hb hbj
  apply Classical.byContradiction
  intro hlt
  have hjl : j < is.length := by omega
  obtain ⟨c', g1, g2⟩ := hbg j _ (List.getElem?_eq_getElem hjl)
  obtain ⟨b', vals, ty, k1, k2, k3, k4⟩ := hreal hjl g1
  have h1 := hold b' _ k1 (List.getElem_mem hjl)
  rw [hnd.idxOf_getElem j hjl] at h1
  have := hG'.boxes _ _ _ hbj h1
  subst this
  exact hb ⟨hs.good.lt b (by rw [k1]; simp), hnk _ _ k1⟩
 have hbxl : is.length <= bx'.length := by
  rcases Nat.eq_zero_or_pos is.length with hz | hp
  ·omega
  ·have hjl : is.length - 1 < is.length := by omega
   obtain ⟨c', g1, g2⟩ := hbg _ _ (List.getElem?_eq_getElem hjl)
   obtain ⟨b', vals, ty, k1, k2, k3, k4⟩ := hreal hjl g1
   have h1 := hold b' _ k1 (List.getElem_mem hjl)
   rw [hnd.idxOf_getElem _ hjl] at h1
   have := hbc' _ _ h1
   omega
 have hdl := hfr.1
 have hkeep : ∀ {x v}, VRel (killSG ts G1) w x v -> VRel (backX d w.heap.size ts is σ.boxes.length G1 G') w' x v := fun hx =>
  hx.mono (fun b hb => by
   have h1 := hkj b hb
   have h2 := hs.good.lt b (by rw [<- h1]; exact hb)
   unfold backX; rw [if_pos ⟨h2, h1⟩, h1]) (fun b hb hn => by
   have h1 := hkj b hb
   exact e6 b (hs.good.lt b (by rw [<- h1]; exact hb)) (hnl b h1) (fun i hi => by
    obtain ⟨i', g1, _⟩ := viewX_box hi
    exact hn i' (h1.trans g1)))
 have hS : ∀ b, Stable G' b -> Stable (backX d w.heap.size ts is σ.boxes.length G1 G') b := by
  intro b hb
  have hb : G' b = .stable := hb
  show backX d w.heap.size ts is σ.boxes.length G1 G' b = .stable
  unfold backX
  split
  ·rename_i hc
   have h1 := e5 b hc.1 (hnl b hc.2)
   rw [hb] at h1
   exact viewX_stable' (ts := ts) (is := is) h1.symm
  ·rw [hb]
 have hF : ∀ {x v}, FRel (Stable G') w' x v -> FRel (Stable (backX d w.heap.size ts is σ.boxes.length G1 G')) w' x v := fun hx => hx.mono hS (fun _ _ => rfl)
 have hT : ∀ b t, G' b = .tag t -> root t < 64 -> backX d w.heap.size ts is σ.boxes.length G1 G' b = .tag (t + 64 * (d + 1)) := by
  intro b t hb ht
  unfold backX
  rw [if_neg (fun hc => by
   have h1 := e5 b hc.1 (hnl b hc.2)
   rw [hb] at h1
   exact hnl b hc.2 t h1.symm), hb]
  simp only [ht, if_true]
 have hres : ∀ {r : AV} {v : Value}, VRel G' w' r v -> r.allLeaf lt64b = true -> VRel (backX d w.heap.size ts is σ.boxes.length G1 G') w' (r.mapTop (outLeaf (64 * (d + 1)) is σ.boxes.length)) v := by
  intro r v hr hlt
  refine hr.mapTopQ (fun x v hx hq hr => ?_) hlt
  cases x with
  | sl t es xs =>
   simp only [lt64b, decide_eq_true_eq] at hq
   simp only [outLeaf, shiftTag]
   cases hr with
   | froz hr =>
    have : t < 2 := by cases hr <;> assumption
    rw [if_pos this]; exact .froz (hF hr)
   | own _ _ _ _ e vals g1 g2 g3 g4 g0 g5 =>
    rw [if_neg (by omega)]
    exact .own _ es xs v e vals (by omega) g2 (fun b hb => hT b t (g3 b hb) hq) g4 g0 (g5.mono fun x y _ hr => hF hr)
  | so t xs =>
   simp only [lt64b, decide_eq_true_eq] at hq
   simp only [outLeaf, shiftTag]
   have ht := hr.so_two
   rw [if_neg (by omega)]
   have hroot : root (t + 64 * (d + 1)) = root t + 64 * (d + 1) := by unfold root at *; omega
   cases hr with
   | froz hr => cases hr
   | so _ _ _ e vals g1 g2 g3 g4 g0 g5 =>
   refine .so _ _ v e vals (by omega) (by rw [List.length_map]; exact g2) (fun b hb => hT b t (g3 b hb) hq) (fun y hy => ?_) g0 ⟨by simpa using g5.1, fun j y u hy hu => ?_⟩
   ·obtain ⟨x, hx, rfl⟩ := List.mem_map.1 hy
    have := g4 x hx
    cases x <;> first | rfl | (simp [AV.rowLike] at this)
   ·rw [List.getElem?_map] at hy
    cases hx : xs[j]? with
    | none => simp [hx] at hy
    | some x =>
     simp [hx] at hy; subst hy
     have hr := g5.2 j x u hx hu
     cases hr with
     | froz hr =>
      have hr' := hF hr
      cases x <;> first | exact .froz hr' | skip
      rename_i t' es ys
      have : t' < 2 := by cases hr <;> assumption
      simp only [shiftRow, shiftTag]; rw [if_pos (by omega)]; exact .froz hr'
     | own t' es ys _ e' vals' k1 krt k2 k3 k4 k0 k5 =>
      simp only [shiftRow, shiftTag]; rw [if_neg (by omega)]
      exact .own _ es ys u e' vals' (by omega) (by unfold root at *; omega) k2 (fun b hb => hT b t' (k3 b hb) (by omega)) k4 k0 (k5.mono fun z y hz hr => hF hr)
  | po t xs i => simp [lt64b] at hq
  | pe t es xs i o =>
   simp only [lt64b, decide_eq_true_eq] at hq
   obtain ⟨b, off, c, h1, h2, rfl⟩ := hr.pe_inv
   simp only [outLeaf]
   cases h1 with
   | froz h1 => exact .froz (.pe _ _ _ _ _ _ _ _ (hF h1) h2)
   | own => omega
  | pb j o =>
   obtain ⟨b, hb, rfl⟩ := hr.pb_inv
   simp only [outLeaf]
   by_cases hc : b < w.heap.size /\ killSG ts G1 b = G1 b
   ·have hb' := hb
    rw [e5 b hc.1 (hnl b hc.2)] at hb
    obtain ⟨i, g1, g2, g3⟩ := viewX_box hb
    have hjl : j < is.length := by rw [<- g3]; exact List.idxOf_lt_length_iff.2 g2
    have : is.getD j 0 = i := by
     rw [List.getD_eq_getElem?_getD, List.getElem?_eq_getElem hjl]
     subst g3; simp
    rw [if_pos hjl, this]
    exact .pb _ _ _ (by unfold backX; rw [if_pos hc, g1])
   ·have := hnew b j hc hb
    rw [if_neg (by omega)]
    exact .pb _ _ _ (by unfold backX; rw [if_neg hc, hb]; simp [this])
  | ag cs => simp [AV.leafy] at hx
  | tup cs => simp [AV.leafy] at hx
  | any => exact .froz (.any _)
  | nil => rw [hr.nil_inv]; exact .froz .nil
  | ub => obtain ⟨b, rfl⟩ := hr.ub_inv; exact .froz (.ub b)
  | sc u => rw [hr.sc_inv]; exact .froz (.sc _)
  | fn g caps => cases hr with | froz hr => exact .froz (hF hr)
  | mp t P k e D => simp [lt64b] at hq
  | cl g caps => simp [lt64b] at hq
  | tl t es xs i => simp [lt64b] at hq
  | fp cs o => cases hr with | froz hr => exact .froz (hF hr)
 have hcell : ∀ {j : Nat} {cs : List AV} {vals : List Value}, bx'[j]? = some cs -> PW (VRel G' w') cs vals -> PW (VRel (backX d w.heap.size ts is σ.boxes.length G1 G') w') (mapTops (outLeaf (64 * (d + 1)) is σ.boxes.length) cs) vals := by
  intro j cs vals hj hp
  refine ⟨by rw [mapTops_eq]; simpa using hp.1, fun i x u hx hu => ?_⟩
  rw [mapTops_eq, List.getElem?_map] at hx
  cases hi : cs[i]? with
  | none => simp [hi] at hx
  | some y =>
   simp [hi] at hx; subst hx
   exact hres (hp.2 i y u hi hu) (allLeafs_mem hnt y (catB_mem hj y (List.mem_of_getElem? hi)))
 have htag : ∀ b t, backX d w.heap.size ts is σ.boxes.length G1 G' b = .tag t -> (b < w.heap.size /\ G1 b = .tag t) \/ (root t / 64 = d + 1 /\ G' b = .tag (t - 64 * (d + 1)) /\ 64 * (d + 1) <= t) := by
  intro b t hb
  unfold backX at hb
  split at hb
  ·rename_i hc; exact .inl ⟨hc.1, hb⟩
  ·split at hb <;> try (cases hb; done)
   ·rename_i t' ht'
    split at hb
    ·cases hb; exact .inr ⟨by unfold root at *; omega, by rw [ht']; congr 1; omega, by omega⟩
    ·cases hb
   ·split at hb <;> cases hb
 have hbox : ∀ b i, backX d w.heap.size ts is σ.boxes.length G1 G' b = .box i -> (b < w.heap.size /\ G1 b = .box i) \/ (∃ j, is.length <= j /\ i = σ.boxes.length + (j - is.length) /\ G' b = .box j) := by
  intro b i hb
  unfold backX at hb
  split at hb
  ·rename_i hc; exact .inl ⟨hc.1, hb⟩
  ·split at hb <;> try (cases hb; done)
   ·split at hb <;> cases hb
   ·rename_i j hj
    split at hb
    ·rename_i hle; cases hb; exact .inr ⟨j, hle, rfl, hj⟩
    ·cases hb
 have hgood : Good (backX d w.heap.size ts is σ.boxes.length G1 G') w' := by
  refine ⟨fun b hb => ?_, fun b b' t h1 h2 => ?_, fun b b' i h1 h2 => ?_⟩
  ·unfold backX at hb
   split at hb
   ·omega
   ·exact hG'.lt b fun h' => hb (by simp [h'])
  ·rcases htag b t h1 with ⟨_, h1⟩ | ⟨h1, g1, q1⟩ <;> rcases htag b' t h2 with ⟨_, h2⟩ | ⟨h2, g2, q2⟩
   ·exact hs.good.tags b b' t h1 h2
   ·exact absurd h2 (hfr.2 b t h1)
   ·exact absurd h1 (hfr.2 b' t h2)
   ·exact hG'.tags b b' _ g1 g2
  ·rcases hbox b i h1 with ⟨_, h1⟩ | ⟨j, g1, g2, g3⟩ <;> rcases hbox b' i h2 with ⟨_, h2⟩ | ⟨j', k1, k2, k3⟩
   ·exact hs.good.boxes b b' i h1 h2
   ·have := hs.blt b i h1; omega
   ·have := hs.blt b' i h2; omega
   ·have : j = j' := by omega
    subst this
    exact hG'.boxes b b' j g3 k3
 have hkl : (mapB (killS ts) σ.boxes).length = σ.boxes.length := by rw [mapB_eq, List.length_map]
 have hlen1 : (setAll is (mapB (outLeaf (64 * (d + 1)) is σ.boxes.length) (bx'.take is.length)) (mapB (killS ts) σ.boxes)).length = σ.boxes.length := by rw [setAll_length, hkl]
 refine ⟨v, _, backX d w.heap.size ts is σ.boxes.length G1 G', rfl, hK, ?_⟩
 refine { good := hgood, slots := slots_put (σ := ⟨σ.n, mapT (killS ts) σ.tmps, _⟩) (fun s => ?_) hs.size (by simpa [dstOk] using hd) (hres hr hlt), boxes := ?_, blt := ?_, size := ?_, defs := ?_, os := e1.trans hs.os, tape := e2.trans hs.tape, output := e3.trans hs.output, hsize := Nat.le_trans hs.hsize e4, stat := fun b hb hnt => ?_, keep := fun b hb hn hnt => ?_ }
 ·have : lookT (mapT (killS ts) σ.tmps) s = (lookT σ.tmps s).mapTop (killS ts) := lookT_map rfl σ.tmps s
  show VRel _ _ (lookT (mapT (killS ts) σ.tmps) s) _
  rw [this]; exact hkeep (hs.slots s).killS
 ·rw [put_boxes]
  refine ⟨fun i vs hv => by have := hs.boxes.low i vs hv; simp only [List.length_append, hlen1]; omega, fun i cs hi => ?_⟩
  simp only at hi
  by_cases hin : i < σ.boxes.length
  ·rw [List.getElem?_append_left (by rw [hlen1]; exact hin), setAll_get is _ _ i hnd (by rw [mapB_eq]; simp; omega) (by rw [hkl]; exact hin)] at hi
   split at hi
   ·rename_i him
    rw [mapB_eq, List.getElem?_map, List.getElem?_take] at hi
    have hjl := List.idxOf_lt_length_iff.2 him
    rw [if_pos hjl] at hi
    cases hc : bx'[is.idxOf i]? with
    | none => simp [hc] at hi
    | some c =>
     simp [hc] at hi; subst hi
     obtain ⟨b2, q1⟩ := hre i him
     have hb2 := hold b2 i q1 him
     obtain ⟨b, vals, ty, k1, k2, k3, k4⟩ := hbr'.real hc hb2
     have := hG'.boxes _ _ _ k1 hb2
     subst this
     exact .inl ⟨by rcases hs.boxes.cell i _ (List.getElem?_eq_getElem hin) with h1 | h1 | h1; exact h1.1; exact absurd q1 (h1.1 b); exact h1.1, b, vals, ty, by unfold backX; rw [if_pos ⟨hs.good.lt b (by rw [q1]; simp), hnk _ _ q1⟩, q1], k2, k3, hcell hc k4⟩
   ·rename_i him
    rw [mapB_eq, List.getElem?_map, List.getElem?_eq_getElem hin] at hi
    simp at hi; subst hi
    rw [mapTops_eq]
    refine (hs.boxes.cell i _ (List.getElem?_eq_getElem hin)).map (fun x v hr => hkeep hr.killS) (fun b k1 => ?_) fun h0 b hb => ?_
    ·have hbl := hs.good.lt b (by rw [k1]; simp)
     exact ⟨by unfold backX; rw [if_pos ⟨hbl, hnk _ _ k1⟩, k1], e6 b hbl (hnl b (hnk _ _ k1)) (fun j hj => by
      obtain ⟨i', g1, g2, _⟩ := viewX_box hj
      rw [k1] at g1; cases g1; exact him g2)⟩
    ·rcases hbox b i hb with ⟨_, h1⟩ | ⟨j, g1, g2, g3⟩
     ·exact h0 b h1
     ·omega
  ·rw [List.getElem?_append_right (by rw [hlen1]; omega), hlen1, mapB_eq, List.getElem?_map, List.getElem?_drop] at hi
   cases hc : bx'[is.length + (i - σ.boxes.length)]? with
   | none => simp [hc] at hi
   | some c =>
    simp [hc] at hi; subst hi
    have hgn : G0.gh i = none := by cases hgh : G0.gh i with | none => rfl | some vs => have := hs.boxes.low _ vs hgh; omega
    rcases hbr'.cell _ _ hc with ⟨_, b, vals, ty, k1, k2, k3, k4⟩ | ⟨_, vs, hb, _⟩ | ⟨_, k1, k2⟩
    case inr.inl => simp [noGh] at hb
    case inr.inr =>
     refine .inr (.inr ⟨hgn, fun b hb => ?_, fun x hx v => ?_⟩)
     ·rcases hbox b i hb with ⟨_, h1⟩ | ⟨j, g1, g2, g3⟩
      ·have := hs.blt b i h1; omega
      ·exact k1 b (by rw [g3]; congr 1; omega)
     ·rw [mapTops_eq] at hx
      obtain ⟨y, hy, rfl⟩ := List.mem_map.1 hx
      exact hres (k2 y hy v) (allLeafs_mem hnt y (catB_mem hc y hy))
    have hbn : ¬ (b < w.heap.size /\ killSG ts G1 b = G1 b) := fun hc => by
     rw [e5 b hc.1 (hnl b hc.2)] at k1
     obtain ⟨i', g1, g2, g3⟩ := viewX_box k1
     have := List.idxOf_lt_length_iff.2 g2
     omega
    refine .inl ⟨by cases hgh : G0.gh i with | none => rfl | some vs => have := hs.boxes.low _ vs hgh; omega, b, vals, ty, ?_, k2, k3, hcell hc k4⟩
    unfold backX
    rw [if_neg hbn, k1]
    simp only
    rw [if_pos (by omega)]
    congr 1; omega
 ·intro b i hb
  rw [put_boxes]
  simp only [List.length_append, hlen1]
  rcases hbox b i hb with ⟨_, h1⟩ | ⟨j, g1, g2, g3⟩
  ·have := hs.blt b i h1; omega
  ·have := hbc' b j g3
   rw [mapB_eq, List.length_map, List.length_drop]
   omega
 ·rw [put_size, put_n]; exact hs.size
 ·rw [put_defers]; exact hs.defs
 ·have h1 := hs.stat b hb hnt
  have h2 : killSG ts G1 b = G1 b := by
   unfold killSG
   cases hg : G1 b with
   | tag t' => rw [h1] at hg; exact absurd hg (hnt t')
   | _ => rfl
  unfold backX; rw [if_pos ⟨Nat.lt_of_lt_of_le hb hs.hsize, h2⟩]; exact h1
 ·have h1 := hs.stat b hb hnt
  have h2 : killSG ts G1 b = G1 b := by
   unfold killSG
   cases hg : G1 b with
   | tag t' => rw [h1] at hg; exact absurd hg (hnt t')
   | _ => rfl
  rw [e6 b (Nat.lt_of_lt_of_le hb hs.hsize) (hnl b h2) (fun j hj => by
   obtain ⟨i', g1, _⟩ := viewX_box hj
   rw [h1] at g1
   exact hn i' g1)]
  exact hs.keep b hb hn hnt
mutual
def AV.pbs : AV -> List Nat
 | .ag cs => pbss cs
 | .tup cs => pbss cs
 | .pb i _ => [i]
 | _ => []
def pbss : List AV -> List Nat
 | [] => []
 | x :: r => AV.pbs x ++ pbss r
end
def dedup : List Nat -> List Nat
 | [] => []
 | i :: is => if is.contains i = true then dedup is else i :: dedup is
theorem dedup_mem : ∀ (l : List Nat) {i : Nat}, i ∈ dedup l -> i ∈ l
 | [], _, h => by simp [dedup] at h
 | j :: l, i, h => by
  simp only [dedup] at h
  split at h
  ·exact List.mem_cons_of_mem _ (dedup_mem l h)
  ·rcases List.mem_cons.1 h with rfl | h
   ·simp
   ·exact List.mem_cons_of_mem _ (dedup_mem l h)
mutual
theorem pbs_real {G : Nat -> Status} {w : World} {i : Nat} : ∀ (x : AV) (v : Value), VRel G w x v -> i ∈ AV.pbs x -> ∃ b, G b = .box i
 | .ag cs, v, h, hi => by
  obtain ⟨vs, _, _, hp⟩ := h.ag_inv
  exact pbss_real cs _ hp (by simpa [AV.pbs] using hi)
 | .tup cs, v, h, hi => by
  obtain ⟨vs, _, hp⟩ := h.tup_inv
  exact pbss_real cs _ hp (by simpa [AV.pbs] using hi)
 | .pb j o, v, h, hi => by
  obtain ⟨b, hb, _⟩ := h.pb_inv
  simp only [AV.pbs, List.mem_singleton] at hi
  subst hi; exact ⟨b, hb⟩
 | .any, _, _, hi => by simp [AV.pbs] at hi
 | .nil, _, _, hi => by simp [AV.pbs] at hi
 | .ub, _, _, hi => by simp [AV.pbs] at hi
 | .sc _, _, _, hi => by simp [AV.pbs] at hi
 | .sl _ _ _, _, _, hi => by simp [AV.pbs] at hi
 | .pe _ _ _ _ _, _, _, hi => by simp [AV.pbs] at hi
 | .fn _ _, _, _, hi => by simp [AV.pbs] at hi
 | .fp _ _, _, _, hi => by simp [AV.pbs] at hi
 | .mp _ _ _ _ _, _, _, hi => by simp [AV.pbs] at hi
 | .cl _ _, _, _, hi => by simp [AV.pbs] at hi
 | .tl _ _ _ _, _, _, hi => by simp [AV.pbs] at hi
 | .so _ _, _, _, hi => by simp [AV.pbs] at hi
 | .po _ _ _, _, _, hi => by simp [AV.pbs] at hi
theorem pbss_real {G : Nat -> Status} {w : World} {i : Nat} : ∀ (cs : List AV) (vs : List Value), PW (VRel G w) cs vs -> i ∈ pbss cs -> ∃ b, G b = .box i
 | [], _, _, hi => by simp [pbss] at hi
 | x :: r, vs, h, hi => by
  obtain ⟨v, vs', rfl, h1, h2⟩ := h.cons_inv
  simp only [pbss, List.mem_append] at hi
  rcases hi with hi | hi
  ·exact pbs_real x v h1 hi
  ·exact pbss_real r vs' h2 hi
end
theorem CallX.sound {f : FuncId} {args : List AV} {is : List Nat} {d : Nat} {σ : St} {K : St -> Prop} {G0 w0 G a w} (hk : CallX P f args is d σ K) (h : SRel G0 w0 σ G a w) {vs : Array Value}
  (hv : ∀ G, SRel G0 w0 σ G a w -> PW (VRel G w) args vs.toList) (hre : ∀ G, SRel G0 w0 σ G a w -> ∀ i ∈ is, ∃ b, G b = .box i) :
  Callable P f /\ Calls P f vs w fun e w' => ∃ v σ' G', e = .returned v /\ K σ' /\ SRel G0 w0 σ' G' (a.put (some d) v) w' :=
 have hs := (h.fresh hk.1 trivial).1
 CallX.sound0 hk h (hv _ hs) (hre _ hs)
def CallXF (P : Program) (f : FuncId) (args : List AV) (is : List Nat) (d : Nat) (σ : St) (K : St -> Prop) : Prop :=
 σ.free d = true /\ ∃ p, CallX P f (mapTops (freezeLeaf p) args) is d (σ.map (freezeLeaf p)) K
theorem CallXF.sound {f : FuncId} {args : List AV} {is : List Nat} {d : Nat} {σ : St} {K : St -> Prop} {G0 w0 G a w} (hk : CallXF P f args is d σ K) (h : SRel G0 w0 σ G a w) {vs : Array Value}
  (hv : ∀ G, SRel G0 w0 σ G a w -> PW (VRel G w) args vs.toList) (hre : ∀ G, SRel G0 w0 σ G a w -> ∀ i ∈ is, ∃ b, G b = .box i) :
  Callable P f /\ Calls P f vs w fun e w' => ∃ v σ' G', e = .returned v /\ K σ' /\ SRel G0 w0 σ' G' (a.put (some d) v) w' := by
 obtain ⟨hf, p, hX⟩ := hk
 have hs := (h.fresh hf trivial).1
 have hv := hv _ hs
 have hre := hre _ hs
 refine CallX.sound0 hX (hs.freeze trivial p) ?_ ?_
 ·rw [killR_freeze]
  refine ⟨by rw [mapTops_eq]; simpa using hv.1, fun j x u hx hu => ?_⟩
  rw [mapTops_eq, List.getElem?_map] at hx
  cases hj : args[j]? with
  | none => simp [hj] at hx
  | some y => simp [hj] at hx; subst hx; exact (hv.2 j y u hj hu).freeze
 ·rw [killR_freeze]
  intro i hi
  obtain ⟨b, hb⟩ := hre i hi
  exact ⟨b, by unfold freezeG; rw [hb]⟩
def capPbs : List AV -> List Nat
 | [] => []
 | .cl _ caps :: r => caps.filterMap (fun x => match x with | .pb i _ => some i | _ => none) ++ capPbs r
 | _ :: r => capPbs r
theorem capPbs_real {G : Nat -> Status} {w : World} {i : Nat} : ∀ (cs : List AV) (vs : List Value), PW (VRel G w) cs vs -> i ∈ capPbs cs -> ∃ b, G b = .box i
 | [], _, _, hi => by simp [capPbs] at hi
 | x :: r, vs, h, hi => by
  obtain ⟨v, vs', rfl, h1, h2⟩ := h.cons_inv
  have hr : i ∈ capPbs r -> ∃ b, G b = .box i := capPbs_real r vs' h2
  cases x with
  | cl f caps =>
   simp only [capPbs, List.mem_append] at hi
   rcases hi with hi | hi
   ·obtain ⟨c, hc, hci⟩ := List.mem_filterMap.1 hi
    obtain ⟨us, rfl, hp⟩ := h1.cl_inv
    obtain ⟨j, hj⟩ := List.getElem?_of_mem hc
    have hlt : j < us.toList.length := by rw [<- hp.1]; exact (List.getElem?_eq_some_iff.1 hj).1
    rcases hp.2 j c _ hj (List.getElem?_eq_getElem hlt) with ⟨i', o, b, rfl, hb, _⟩ | hf
    ·simp only [Option.some.injEq] at hci
     subst hci; exact ⟨b, hb⟩
    ·cases c <;> simp only [reduceCtorEq] at hci
     cases hf
   ·exact hr hi
  | _ => exact hr hi
theorem CallW.sound {f : FuncId} {args : List AV} {d : Nat} {σ : St} {K : St -> Prop} {G0 w0 G a w} (hk : CallW P f args d σ K) (h : SRel G0 w0 σ G a w) {vs : Array Value}
  (hv : ∀ G, SRel G0 w0 σ G a w -> PW (VRel G w) args vs.toList) :
  Callable P f /\ Calls P f vs w fun e w' => ∃ v σ' G', e = .returned v /\ K σ' /\ SRel G0 w0 σ' G' (a.put (some d) v) w' :=
 CallW.sound0 hk h (hv _ (h.fresh hk.1 trivial).1)
def CallT (P : Program) (f : FuncId) (args : List AV) (d : Nat) (σ : St) (K : St -> Prop) : Prop :=
 σ.free d = true /\ ∃ τ args', (∀ G0 w0 G a w vs, SRel G0 w0 σ (killR d G) a w -> PW (VRel (killR d G) w) args vs -> ∃ G', SRel G0 w0 τ G' a w /\ PW (VRel (killR d G') w) args' vs) /\ CallW P f args' d τ K
theorem CallT.sound {f : FuncId} {args : List AV} {d : Nat} {σ : St} {K : St -> Prop} {G0 w0 G a w} (hk : CallT P f args d σ K) (h : SRel G0 w0 σ G a w) {vs : Array Value}
  (hv : ∀ G, SRel G0 w0 σ G a w -> PW (VRel G w) args vs.toList) :
  Callable P f /\ Calls P f vs w fun e w' => ∃ v σ' G', e = .returned v /\ K σ' /\ SRel G0 w0 σ' G' (a.put (some d) v) w' := by
 obtain ⟨hf, τ, args', ht, hW⟩ := hk
 have hs := (h.fresh hf trivial).1
 obtain ⟨G', h', hv'⟩ := ht _ _ _ _ _ _ hs (hv _ hs)
 exact CallW.sound0 hW h' hv'
def CallS (P : Program) (f : FuncId) (args : List AV) (d : Nat) (σ : St) (K : St -> Prop) : Prop :=
 ∀ (G0 : Orig) (w0 : World) (G : Nat -> Status) (a : Act) (w : World) (vs : Array Value), SRel G0 w0 σ G a w -> PW (VRel G w) args vs.toList ->
  Callable P f /\ Calls P f vs w fun e w' => ∃ v σ' G', e = .returned v /\ K σ' /\ SRel G0 w0 σ' G' (a.put (some d) v) w'
def CallU (P : Program) (f : FuncId) (args : List AV) (d : Nat) (σ : St) (K : St -> Prop) : Prop :=
 match dedup (pbss args) with
 | [] => CallK P f args d σ K \/ CallB P f args [] d σ K \/ CallC P f args d σ K \/ CallW P f args d σ K \/ CallV P f args d σ K \/ (∃ is, (∀ i ∈ is, i ∈ capPbs args) /\ CallX P f args is d σ K) \/ CallT P f args d σ K \/ CallS P f args d σ K
 | i :: is => CallB P f args (i :: is) d σ K \/ CallV P f args d σ K \/ CallX P f args (i :: is) d σ K \/ CallG P f args (i :: is) d σ K \/ CallXF P f args (i :: is) d σ K \/ (∃ js, (∀ j ∈ js, j ∈ pbss args \/ j ∈ capPbs args) /\ CallX P f args js d σ K)
theorem CallU.sound {f : FuncId} {args : List AV} {d : Nat} {σ : St} {K : St -> Prop} {G0 w0 G a w} (hk : CallU P f args d σ K) (h : SRel G0 w0 σ G a w) (h0 : True) {vs : Array Value}
  (hv : ∀ G, SRel G0 w0 σ G a w -> PW (VRel G w) args vs.toList) :
  Callable P f /\ Calls P f vs w fun e w' => ∃ v σ' G', e = .returned v /\ K σ' /\ SRel G0 w0 σ' G' (a.put (some d) v) w' := by
 unfold CallU at hk
 split at hk
 ·rcases hk with hk | hk | hk | hk | hk | ⟨is, hsub, hk⟩ | hk | hk
  ·exact CallK.sound hk h h0 hv
  ·exact CallB.sound hk h h0 hv (fun _ _ i hi => by simp at hi)
  ·exact CallC.sound hk h hv
  ·exact CallW.sound hk h hv
  ·exact CallV.sound hk h hv
  ·exact CallX.sound hk h hv (fun G hs j hj => capPbs_real _ _ (hv G hs) (hsub j hj))
  ·exact CallT.sound hk h hv
  ·exact hk _ _ _ _ _ _ h (hv _ h)
 ·rename_i i is he
  rcases hk with hk | hk | hk | hk | hk | ⟨js, hsub, hk⟩
  ·exact CallB.sound hk h h0 hv (fun G hs j hj => pbss_real _ _ (hv G hs) (dedup_mem _ (by rw [he]; exact hj)))
  ·exact CallV.sound hk h hv
  ·exact CallX.sound hk h hv (fun G hs j hj => pbss_real _ _ (hv G hs) (dedup_mem _ (by rw [he]; exact hj)))
  ·exact CallG.sound hk h h0 hv (fun G hs j hj => pbss_real _ _ (hv G hs) (dedup_mem _ (by rw [he]; exact hj)))
  ·exact CallXF.sound hk h hv (fun G hs j hj => pbss_real _ _ (hv G hs) (dedup_mem _ (by rw [he]; exact hj)))
  ·exact CallX.sound hk h hv (fun G hs j hj => (hsub j hj).elim (fun hh => pbss_real _ _ (hv G hs) hh) fun hh => capPbs_real _ _ (hv G hs) hh)
end
def pairN (p i : Nat) : Nat := 2 ^ i * (2 * p + 1)
theorem pairN_pos (p i : Nat) : 0 < pairN p i := Nat.mul_pos (Nat.two_pow_pos i) (by omega)
def subT (t i : Nat) : Nat := t % 1048576 + 1048576 * pairN (t / 1048576) i
theorem root_sub (t i : Nat) : root (subT t i) = root t := by unfold root subT; omega
theorem sub_big (t i : Nat) : 1048576 <= subT t i := by have := pairN_pos (t / 1048576) i; unfold subT; omega
theorem pairN_gt (p i : Nat) : p < pairN p i := by
 have : 1 * (2 * p + 1) <= 2 ^ i * (2 * p + 1) := Nat.mul_le_mul_right _ (Nat.two_pow_pos i)
 unfold pairN; omega
theorem sub_ne (t i : Nat) : subT t i ≠ t := by
 have := pairN_gt (t / 1048576) i
 unfold subT; omega
def retagRow (a b : Nat) : AV -> AV
 | .sl t es xs => if t = a then (if root a = root b then .sl b es xs else .any) else if t = b then .any else .sl t es xs
 | x => x
def retagLeaf (a b : Nat) : AV -> AV
 | .sl t es xs => if t = a then .sl b es xs else if t = b then .any else .sl t es xs
 | .pe t es xs i o => if t = a then .pe b es xs i o else if t = b then .any else .pe t es xs i o
 | .so t xs => if t = a then .any else if t = b then .any else .so t (xs.map (retagRow a b))
 | .po t xs i => if t = a then .any else if t = b then .any else .po t (xs.map (retagRow a b)) i
 | .mp t P k e D => if t = a then .any else if t = b then .any else .mp t P k e D
 | .tl _ _ _ _ => .any
 | x => x
def retagG (a b : Nat) (G : Nat -> Status) (k : Nat) : Status := if G k = .tag a then .tag b else if G k = .tag b then .junk else G k
section
variable {a b : Nat} {G : Nat -> Status} {w : World}
theorem retagG_stable {k : Nat} (h : Stable G k) : Stable (retagG a b G) k := by unfold Stable at *; simp [retagG, h]
theorem retagG_tag {k t : Nat} (h : G k = .tag t) (h1 : t ≠ a) (h2 : t ≠ b) : retagG a b G k = .tag t := by simp [retagG, h, h1, h2]
theorem Good.retag (hg : Good G w) : Good (retagG a b G) w := by
 have key : ∀ k t, retagG a b G k = .tag t -> (G k = .tag a /\ t = b) \/ (G k = .tag t /\ t ≠ a /\ t ≠ b) := by
  intro k t h
  unfold retagG at h
  split at h
  ·cases h; exact .inl ⟨by assumption, rfl⟩
  ·split at h
   ·cases h
   ·rename_i h1 h2; exact .inr ⟨h, fun e => h1 (by rw [h, e]), fun e => h2 (by rw [h, e])⟩
 have keyb : ∀ k i, retagG a b G k = .box i -> G k = .box i := by
  intro k i h
  unfold retagG at h
  split at h
  ·cases h
  ·split at h
   ·cases h
   ·exact h
 refine ⟨fun k h => hg.lt k fun h' => h (by simp [retagG, h']), fun k k' t h1 h2 => ?_, fun k k' i h1 h2 => hg.boxes k k' i (keyb k i h1) (keyb k' i h2)⟩
 rcases key k t h1 with ⟨h1, e1⟩ | ⟨h1, e1, e1'⟩ <;> rcases key k' t h2 with ⟨h2, e2⟩ | ⟨h2, e2, e2'⟩
 ·exact hg.tags k k' a h1 h2
 ·exact absurd e1 e2'
 ·exact absurd e2 e1'
 ·exact hg.tags k k' t h1 h2
theorem retagRow_rel {r : Nat} {x : AV} {u : Value} (ha : 2 <= a) (hb : 2 <= b) (hx : x.rowLike = true) (hr : LRel G w r x u) : (retagRow a b x).rowLike = true /\ LRel (retagG a b G) w r (retagRow a b x) u := by
 cases hr with
 | froz hr =>
  have hr' := hr.mono (S' := Stable (retagG a b G)) (w' := w) (fun b => retagG_stable) (fun _ _ => rfl)
  cases x <;> first | exact ⟨hx, .froz hr'⟩ | skip
  rename_i t es xs
  have ht : t < 2 := by cases hr <;> assumption
  simp only [retagRow]
  rw [if_neg (by omega), if_neg (by omega)]
  exact ⟨rfl, .froz hr'⟩
 | own t es xs _ e vals h1 hrt h2 h3 h4 h0 h5 =>
  have h5' := h5.mono fun x y _ hr => hr.mono (S' := Stable (retagG a b G)) (w' := w) (fun b => retagG_stable) (fun _ _ => rfl)
  simp only [retagRow]
  split
  ·rename_i hta
   subst hta
   split
   ·rename_i hrr
    exact ⟨rfl, .own b es xs _ e vals hb (by omega) h2 (fun k hk => by simp [retagG, h3 k hk]) h4 h0 h5'⟩
   ·exact ⟨rfl, .froz (.any _)⟩
  ·split
   ·exact ⟨rfl, .froz (.any _)⟩
   ·rename_i h6 h7
    exact ⟨rfl, .own t es xs _ e vals h1 hrt h2 (fun k hk => retagG_tag (h3 k hk) h6 h7) h4 h0 h5'⟩
theorem retag_so {t : Nat} {xs : List AV} {v : Value} (ha : 2 <= a) (hb : 2 <= b) (h1 : t ≠ a) (h2 : t ≠ b) (h : VRel G w (.so t xs) v) : VRel (retagG a b G) w (.so t (xs.map (retagRow a b))) v :=
 h.so_map h.so_two (fun _ _ hx hr => retagRow_rel ha hb hx hr) (fun _k hk => ⟨retagG_tag hk h1 h2, rfl⟩)
theorem retag_sl {t es : Nat} {xs : List AV} {v : Value} (ha : 2 <= a) (hb : 2 <= b) (h : VRel G w (.sl t es xs) v) : VRel (retagG a b G) w (retagLeaf a b (.sl t es xs)) v := by
 have hF : ∀ {x v}, FRel (Stable G) w x v -> FRel (Stable (retagG a b G)) w x v := fun hr => hr.mono (fun b => retagG_stable) (fun _ _ => rfl)
 simp only [retagLeaf]
 cases h with
 | froz h =>
  have : t < 2 := by cases h <;> assumption
  rw [if_neg (by omega), if_neg (by omega)]
  exact .froz (hF h)
 | own _ _ _ _ e vals h1 h2 h3 h4 h0 h5 =>
  have h5' := h5.mono fun x y _ hr => hF hr
  split
  ·rename_i hta; subst hta
   exact .own b es xs _ e vals hb h2 (fun k hk => by simp [retagG, h3 k hk]) h4 h0 h5'
  ·split
   ·exact .froz (.any _)
   ·rename_i h6 h7
    exact .own t es xs _ e vals h1 h2 (fun k hk => retagG_tag (h3 k hk) h6 h7) h4 h0 h5'
theorem VRel.retag {x : AV} {v : Value} (ha : 2 <= a) (hb : 2 <= b) (h : VRel G w x v) : VRel (retagG a b G) w (x.mapTop (retagLeaf a b)) v := by
 have hF : ∀ {x v}, FRel (Stable G) w x v -> FRel (Stable (retagG a b G)) w x v := fun hr => hr.mono (fun b => retagG_stable) (fun _ _ => rfl)
 refine h.mapTop fun x v hx h => ?_
 cases x with
 | sl t es xs => exact retag_sl ha hb h
 | pe t es xs i o =>
  obtain ⟨b', off, c, h1, h2, rfl⟩ := h.pe_inv
  have := retag_sl (a := a) (b := b) ha hb h1
  simp only [retagLeaf] at this ⊢
  split at this
  ·rename_i hp; rw [if_pos hp]; exact .pe _ _ _ _ _ _ _ _ this h2
  ·rename_i hp; rw [if_neg hp]
   split at this
   ·rename_i hp; rw [if_pos hp]; exact .froz (.any _)
   ·rename_i hp; rw [if_neg hp]; exact .pe _ _ _ _ _ _ _ _ this h2
 | so t xs =>
  simp only [retagLeaf]
  split
  ·exact .froz (.any _)
  ·split
   ·exact .froz (.any _)
   ·rename_i h1 h2; exact retag_so ha hb h1 h2 h
 | po t xs i =>
  obtain ⟨b', off, c, h3, h4, rfl⟩ := h.po_inv
  simp only [retagLeaf]
  split
  ·exact .froz (.any _)
  ·split
   ·exact .froz (.any _)
   ·rename_i h1 h2; exact (retag_so ha hb h1 h2 h3).po_of (by simp) h4
 | pb i o => obtain ⟨k, hk, rfl⟩ := h.pb_inv; exact .pb _ _ _ (by simp [retagG, hk])
 | ag cs => simp [AV.leafy] at hx
 | tup cs => simp [AV.leafy] at hx
 | any => exact .froz (.any _)
 | nil => rw [h.nil_inv]; exact .froz .nil
 | ub => obtain ⟨b, rfl⟩ := h.ub_inv; exact .froz (.ub b)
 | sc u => rw [h.sc_inv]; exact .froz (.sc _)
 | fn g caps => cases h with | froz h => exact .froz (hF h)
 | mp t P k e D =>
  simp only [retagLeaf]; split
  ·exact .froz (.any _)
  ·split
   ·exact .froz (.any _)
   ·rename_i h1 h2; exact h.mpMono (fun k hk => retagG_tag hk h1 h2) (fun _ _ _ _ _ => rfl)
 | cl g caps => exact h.clMono (fun b => retagG_stable) (fun _ _ => rfl) (fun b i hb => by simp [retagG, hb])
 | tl t es xs i => exact .froz (.any _)
 | fp cs o => cases h with | froz h => exact .froz (hF h)
theorem SRel.retag {G0 w0 σ a'} (h : SRel G0 w0 σ G a' w) (_h0 : True) (ha : 2 <= a) (hb : 2 <= b) : SRel G0 w0 (σ.map (retagLeaf a b)) (retagG a b G) a' w :=
 { h with
  good := h.good.retag
  slots := fun s => by
   have : (σ.map (retagLeaf a b)).get s = (σ.get s).mapTop (retagLeaf a b) := lookT_map rfl σ.tmps s
   rw [this]; exact (h.slots s).retag ha hb
  boxes := ⟨fun i vs hv => by have := h.boxes.low i vs hv; simpa [St.map, mapB_eq] using this, fun i cs hi => by
   simp only [St.map, mapB_eq, List.getElem?_map] at hi
   cases hc : σ.boxes[i]? with
   | none => simp [hc] at hi
   | some cs' =>
    simp [hc] at hi; subst hi
    rw [mapTops_eq]
    refine (h.boxes.cell i cs' hc).map (fun x v hr => hr.retag ha hb) (fun k hk => ⟨by simp [retagG, hk], rfl⟩) fun h0 k hk => h0 k ?_
    unfold retagG at hk; split at hk
    ·cases hk
    ·split at hk
     ·cases hk
     ·exact hk⟩
  blt := fun k i hk => by
   have : G k = .box i := by
    unfold retagG at hk; split at hk
    ·cases hk
    ·split at hk
     ·cases hk
     ·exact hk
   have := h.blt k i this
   simpa [St.map, mapB_eq] using this
  size := h.size
  stat := fun k hk hnt => by
   have := h.stat k hk hnt
   unfold retagG
   rw [if_neg (by rw [this]; exact hnt a), if_neg (by rw [this]; exact hnt b)]
   exact this }
def mvT (_a b t : Nat) : Nat := b + 1048576 * (t / 1048576)
def mvRow (a b : Nat) : AV -> AV
 | .sl t es xs => if root t = a then .sl (mvT a b t) es xs else .sl t es xs
 | x => x
def mvLeaf (a b : Nat) : AV -> AV
 | .sl t es xs => if root t = a then .sl (mvT a b t) es xs else if root t = b then .any else .sl t es xs
 | .pe t es xs i o => if root t = a then .pe (mvT a b t) es xs i o else if root t = b then .any else .pe t es xs i o
 | .so t xs => if root t = a then .so (mvT a b t) (xs.map (mvRow a b)) else if root t = b then .any else .so t xs
 | .po t xs i => if root t = a then .po (mvT a b t) (xs.map (mvRow a b)) i else if root t = b then .any else .po t xs i
 | .mp t P k e D => if root t = a then .any else if root t = b then .any else .mp t P k e D
 | .tl _ _ _ _ => .any
 | x => x
def mvG (a b : Nat) (G : Nat -> Status) (k : Nat) : Status :=
 match G k with
 | .tag t => if root t = a then .tag (mvT a b t) else if root t = b then .junk else .tag t
 | s => s
theorem mvG_stable {k : Nat} (h : Stable G k) : Stable (mvG a b G) k := by unfold Stable at *; simp [mvG, h]
theorem mvG_box {k i : Nat} (h : mvG a b G k = .box i) : G k = .box i := by
 unfold mvG at h
 split at h
 ·split at h
  ·cases h
  ·split at h <;> cases h
 ·exact h
theorem mvT_root {t : Nat} (hb : b < 1048576) : root (mvT a b t) = b := by unfold root mvT; omega
theorem mvT_two {t : Nat} (hb : 2 <= b) : 2 <= mvT a b t := by unfold mvT; omega
theorem mvG_keep {k t : Nat} (h : G k = .tag t) (h1 : root t ≠ a) (h2 : root t ≠ b) : mvG a b G k = .tag t := by simp [mvG, h, h1, h2]
theorem mvG_move {k t : Nat} (h : G k = .tag t) (h1 : root t = a) : mvG a b G k = .tag (mvT a b t) := by simp [mvG, h, h1]
theorem Good.mv (hg : Good G w) (hb : b < 1048576) : Good (mvG a b G) w := by
 have key : ∀ k t, mvG a b G k = .tag t -> (∃ t', G k = .tag t' /\ root t' = a /\ t = mvT a b t') \/ (G k = .tag t /\ root t ≠ a /\ root t ≠ b) := by
  intro k t h
  unfold mvG at h
  split at h
  ·rename_i t' ht'
   split at h
   ·rename_i hr; cases h; exact .inl ⟨t', ht', hr, rfl⟩
   ·split at h
    ·cases h
    ·rename_i h1 h2; cases h; exact .inr ⟨ht', h1, h2⟩
  ·rename_i hn; exact absurd h (hn t)
 refine ⟨fun k h => hg.lt k fun h' => h (by simp [mvG, h']), fun k k' t h1 h2 => ?_, fun k k' i h1 h2 => hg.boxes k k' i (mvG_box h1) (mvG_box h2)⟩
 rcases key k t h1 with ⟨t1, g1, e1, rfl⟩ | ⟨g1, e1, e1'⟩ <;> rcases key k' _ h2 with ⟨t2, g2, e2, e3⟩ | ⟨g2, e2, e2'⟩
 ·have : t1 = t2 := by unfold mvT at e3; unfold root at e1 e2; omega
  subst this; exact hg.tags k k' _ g1 g2
 ·exact absurd (mvT_root hb) e2'
 ·exact absurd (by rw [e3]; exact mvT_root hb) e1'
 ·exact hg.tags k k' _ g1 g2
theorem mv_sl {t es : Nat} {xs : List AV} {v : Value} (ha : 2 <= a) (hb : 2 <= b) (h : VRel G w (.sl t es xs) v) : VRel (mvG a b G) w (mvLeaf a b (.sl t es xs)) v := by
 simp only [mvLeaf]
 cases h with
 | froz h =>
  have : t < 2 := by cases h <;> assumption
  have hr : root t = t := by unfold root; omega
  rw [if_neg (by omega), if_neg (by omega)]
  exact .froz (h.mono (fun b => mvG_stable) (fun _ _ => rfl))
 | own _ _ _ _ e vals h1 h2 h3 h4 h0 h5 =>
  have h5' := h5.mono fun x y _ hr => hr.mono (S' := Stable (mvG a b G)) (w' := w) (fun b => mvG_stable) (fun _ _ => rfl)
  split
  ·rename_i hr
   exact .own _ es xs v e vals (mvT_two hb) h2 (fun k hk => mvG_move (h3 k hk) hr) h4 h0 h5'
  ·split
   ·exact .froz (.any _)
   ·rename_i k1 k2
    exact .own t es xs v e vals h1 h2 (fun k hk => mvG_keep (h3 k hk) k1 k2) h4 h0 h5'
theorem mv_so {t : Nat} {xs : List AV} {v : Value} (ha : 2 <= a) (hb : 2 <= b) (hb2 : b < 1048576) (h1 : root t = a) (h : VRel G w (.so t xs) v) : VRel (mvG a b G) w (.so (mvT a b t) (xs.map (mvRow a b))) v := by
 refine h.so_map (mvT_two hb) (fun x u hx hr => ?_) (fun k hk => ⟨mvG_move hk h1, rfl⟩)
 cases hr with
 | froz hr =>
  have hr' := hr.mono (S' := Stable (mvG a b G)) (w' := w) (fun b => mvG_stable) (fun _ _ => rfl)
  cases x <;> first | exact ⟨hx, .froz hr'⟩ | skip
  rename_i t' es ys
  have ht : t' < 2 := by cases hr <;> assumption
  have hrt : root t' = t' := by unfold root; omega
  simp only [mvRow]; rw [if_neg (by omega)]; exact ⟨hx, .froz hr'⟩
 | own t' es ys _ e vals k1 hrt k2 k3 k4 k0 k5 =>
  simp only [mvRow]; rw [if_pos (by rw [hrt]; exact h1)]
  refine ⟨rfl, .own _ es ys _ e vals (mvT_two hb) (by rw [mvT_root hb2, mvT_root hb2]) k2 (fun k hk => mvG_move (k3 k hk) (by rw [hrt]; exact h1)) k4 k0 (k5.mono fun x y _ hr => hr.mono (fun b => mvG_stable) (fun _ _ => rfl))⟩
theorem mv_so0 {t : Nat} {xs : List AV} {v : Value} (h1 : root t ≠ a) (h2 : root t ≠ b) (h : VRel G w (.so t xs) v) : VRel (mvG a b G) w (.so t xs) v := by
 have := h.so_map (G' := mvG a b G) (w' := w) (f := id) h.so_two (fun x u hx hr => ⟨hx, by
  cases hr with
  | froz hr => exact .froz (hr.mono (fun b => mvG_stable) (fun _ _ => rfl))
  | own t' es ys _ e vals k1 hrt k2 k3 k4 k0 k5 =>
   exact .own t' es ys _ e vals k1 hrt k2 (fun k hk => mvG_keep (k3 k hk) (by rw [hrt]; exact h1) (by rw [hrt]; exact h2)) k4 k0 (k5.mono fun x y _ hr => hr.mono (fun b => mvG_stable) (fun _ _ => rfl))⟩)
  (fun k hk => ⟨mvG_keep hk h1 h2, rfl⟩)
 simpa using this
theorem VRel.mv {x : AV} {v : Value} (ha : 2 <= a) (hb : 2 <= b) (hb2 : b < 1048576) (h : VRel G w x v) : VRel (mvG a b G) w (x.mapTop (mvLeaf a b)) v := by
 have hF : ∀ {x v}, FRel (Stable G) w x v -> FRel (Stable (mvG a b G)) w x v := fun hr => hr.mono (fun b => mvG_stable) (fun _ _ => rfl)
 refine h.mapTop fun x v hx h => ?_
 cases x with
 | sl t es xs => exact mv_sl ha hb h
 | pe t es xs i o =>
  obtain ⟨b', off, c, h1, h2, rfl⟩ := h.pe_inv
  have := mv_sl (a := a) (b := b) ha hb h1
  simp only [mvLeaf] at this ⊢
  split at this
  ·rename_i hr; rw [if_pos hr]; exact .pe _ _ _ _ _ _ _ _ this h2
  ·rename_i hr; rw [if_neg hr]
   split at this
   ·rename_i hr2; rw [if_pos hr2]; exact .froz (.any _)
   ·rename_i hr2; rw [if_neg hr2]; exact .pe _ _ _ _ _ _ _ _ this h2
 | so t xs =>
  simp only [mvLeaf]; split
  ·rename_i hr; exact mv_so ha hb hb2 hr h
  ·split
   ·exact .froz (.any _)
   ·rename_i k1 k2; exact mv_so0 k1 k2 h
 | po t xs i =>
  obtain ⟨b', off, c, h1, h2, rfl⟩ := h.po_inv
  simp only [mvLeaf]; split
  ·rename_i hr; exact (mv_so ha hb hb2 hr h1).po_of (by simp) h2
  ·split
   ·exact .froz (.any _)
   ·rename_i k1 k2; exact (mv_so0 k1 k2 h1).po_of rfl h2
 | tl t es xs i => exact .froz (.any _)
 | pb i o => obtain ⟨b, hb, rfl⟩ := h.pb_inv; exact .pb _ _ _ (by simp [mvG, hb])
 | ag cs => simp [AV.leafy] at hx
 | tup cs => simp [AV.leafy] at hx
 | any => exact .froz (.any _)
 | nil => rw [h.nil_inv]; exact .froz .nil
 | ub => obtain ⟨b, rfl⟩ := h.ub_inv; exact .froz (.ub b)
 | sc u => rw [h.sc_inv]; exact .froz (.sc _)
 | fn g caps => cases h with | froz h => exact .froz (hF h)
 | mp t P k e D =>
  simp only [mvLeaf]; split
  ·exact .froz (.any _)
  ·split
   ·exact .froz (.any _)
   ·rename_i h1 h2; exact h.mpMono (fun k hk => mvG_keep hk h1 h2) (fun _ _ _ _ _ => rfl)
 | cl g caps => exact h.clMono (fun b => mvG_stable) (fun _ _ => rfl) (fun b i hb => by simp [mvG, hb])
 | fp cs o => cases h with | froz h => exact .froz (hF h)
theorem SRel.mv {G0 w0 σ a'} (h : SRel G0 w0 σ G a' w) (_h0 : True) (ha : 2 <= a) (hb : 2 <= b) (hb2 : b < 1048576) : SRel G0 w0 (σ.map (mvLeaf a b)) (mvG a b G) a' w :=
 { h with
  good := h.good.mv hb2
  slots := fun s => by
   have : (σ.map (mvLeaf a b)).get s = (σ.get s).mapTop (mvLeaf a b) := lookT_map rfl σ.tmps s
   rw [this]; exact (h.slots s).mv ha hb hb2
  boxes := ⟨fun i vs hv => by have := h.boxes.low i vs hv; simpa [St.map, mapB_eq] using this, fun i cs hi => by
   simp only [St.map, mapB_eq, List.getElem?_map] at hi
   cases hc : σ.boxes[i]? with
   | none => simp [hc] at hi
   | some cs' =>
    simp [hc] at hi; subst hi
    rw [mapTops_eq]
    exact (h.boxes.cell i cs' hc).map (fun x v hr => hr.mv ha hb hb2) (fun k hk => ⟨by simp [mvG, hk], rfl⟩) fun h0 k hk => h0 k (mvG_box hk)⟩
  blt := fun k i hk => by
   have := h.blt k i (mvG_box hk)
   simpa [St.map, mapB_eq] using this
  size := h.size
  stat := fun k hk hnt => by
   have := h.stat k hk hnt
   cases hs : G k with
   | tag t => exact absurd (by rw [<- this]; exact hs) (hnt t)
   | _ => simp only [mvG, hs]; rw [<- hs]; exact this }
def exact (vals : List Value) : List AV := vals.map .sc
theorem exact_rel {S : Nat -> Prop} {vals : List Value} : PW (FRel S w) (flat (exact vals)) vals := by
 have : flat (exact vals) = exact vals := by
  unfold exact
  induction vals with
  | nil => rfl
  | cons v vals ih => simp only [flat, List.map_cons, List.flatMap_cons, AV.cells] at ih ⊢; rw [ih]; rfl
 rw [this]
 refine ⟨by simp [exact], fun j x u hx hu => ?_⟩
 simp only [exact, List.getElem?_map, hu, Option.map_some, Option.some.injEq] at hx
 subst hx; exact .sc _
theorem exact_wide (vals : List Value) : ∀ x ∈ exact vals, x.cells.length = 1 := fun x hx => by
 obtain ⟨v, _, rfl⟩ := List.mem_map.1 hx; rfl
theorem exact_len (vals : List Value) : (exact vals).length = vals.length := by simp [exact]
theorem exact_app (l l' : List Value) : exact l ++ exact l' = exact (l ++ l') := by simp [exact]
theorem FRel.sc_val {S : Nat -> Prop} {u v : Value} (h : FRel S w (.sc u) v) : v = u := by cases h; rfl
theorem FRel.sl_lt {S : Nat -> Prop} {t es : Nat} {xs : List AV} {v : Value} (h : FRel S w (.sl t es xs) v) : t < 2 := by cases h <;> assumption
theorem exact_inv {S : Nat -> Prop} {l l' : List Value} (h : PW (FRel S w) (flat (exact l)) l') : l' = l := by
 have h2 := exact_rel (w := w) (S := S) (vals := l)
 have hl : l.length = l'.length := by rw [<- h.1, h2.1]
 apply List.ext_getElem? 
 intro j
 by_cases hj : j < l.length
 ·have hfl : j < (flat (exact l)).length := by rw [h2.1]; exact hj
  have g1 := h2.2 j _ _ (List.getElem?_eq_getElem hfl) (List.getElem?_eq_getElem hj)
  have g2 := h.2 j _ _ (List.getElem?_eq_getElem hfl) (List.getElem?_eq_getElem (by omega : j < l'.length))
  have hx : (flat (exact l))[j] = .sc l[j] := by
   have : flat (exact l) = exact l := by
    unfold exact
    clear h h2 hl g1 g2 hfl hj
    induction l with
    | nil => rfl
    | cons v vals ih => simp only [flat, List.map_cons, List.flatMap_cons, AV.cells] at ih ⊢; rw [ih]; rfl
   simp only [this]; simp [exact]
  rw [hx] at g2
  have g3 := g2.sc_val
  simp only [List.getElem?_eq_getElem hj, List.getElem?_eq_getElem (by omega : j < l'.length), g3]
 ·simp [hj, show ¬ j < l'.length by omega]
theorem VRel.so_exact {t : Nat} {xs : List AV} {v : Value} (h : VRel G w (.so t xs) v) : ∃ vals, VRel G w (.sl t 1 (exact vals)) v /\ PW (LRel G w (root t)) xs vals /\ One vals /\ ∀ x ∈ xs, x.rowLike = true := by
 cases h with
 | froz h => cases h
 | so _ _ _ e vals h1 h2 h3 h4 h0 h5 =>
  exact ⟨vals, .own t 1 (exact vals) v e vals h1 (by rw [exact_len, <- h5.1]; exact h2) h3 (exact_wide vals) h0 exact_rel, h5, h0, h4⟩
theorem VRel.so_of {t : Nat} {xs : List AV} {v : Value} {vals : List Value} (ht : 2 <= t) (h : VRel G w (.sl t 1 (exact vals)) v) (hx : PW (LRel G w (root t)) xs vals) (hr : ∀ x ∈ xs, x.rowLike = true) : VRel G w (.so t xs) v := by
 generalize hE : exact vals = E at h
 cases h with
 | froz h => have := h.sl_lt; omega
 | own _ _ _ _ e vals' h1 h2 h3 h4 h0 h5 =>
  subst hE
  have := exact_inv h5
  subst this
  exact .so t xs v e vals' h1 (by rw [hx.1, <- exact_len vals']; exact h2) h3 hr h0 hx
def putLeaf (t i : Nat) (y : AV) : AV -> AV
 | .so t' xs => if t' = t then .so t ((xs.map (killRow t)).set i y) else .so t' (xs.map (killRow t))
 | .po t' xs j => if t' = t then .po t ((xs.map (killRow t)).set i y) j else .po t' (xs.map (killRow t)) j
 | .sl t' es xs => if t' = t then .any else .sl t' es xs
 | .pe t' es xs j o => if t' = t then .any else .pe t' es xs j o
 | .tl _ _ _ _ => .any
 | x => x
theorem VRel.put {t i b : Nat} {y : AV} {u : Value} {cur : Array Value} {e : TypeId} (hg : Good G w) (ht : 2 <= t) (hb : G b = .tag t) (hh : w.heap[b]? = some (.cells cur e (0, 0))) (h1 : u.oneCell' = true)
  (hy : y.rowLike = true) (hL : LRel G w (root t) y u) (hyt : ∀ es xs, y ≠ .sl t es xs) {x : AV} {v : Value} (h : VRel G w x v) :
  VRel G (w.setRow b (cur.toList.set i u).toArray) (x.mapTop (putLeaf t i y)) v := by
 have hset := setRow_heap w b cur (cur.toList.set i u).toArray e (0, 0) hh
 have hne : ∀ {k t'}, G k = .tag t' -> t' ≠ t -> k ≠ b := fun hk htt e => by subst e; rw [hb] at hk; cases hk; exact htt rfl
 have hF : ∀ {x v}, FRel (Stable G) w x v -> FRel (Stable G) (w.setRow b (cur.toList.set i u).toArray) x v := fun hr =>
  hr.mono (fun _ h => h) (fun b' hb' => heap_setRow_ne (fun h => by subst h; unfold Stable at hb'; rw [hb] at hb'; cases hb'))
 have hsl : ∀ {t' es xs v}, t' ≠ t -> VRel G w (.sl t' es xs) v -> VRel G (w.setRow b (cur.toList.set i u).toArray) (.sl t' es xs) v := by
  intro t' es xs v htt h
  cases h with
  | froz h => exact .froz (hF h)
  | own _ _ _ _ e' vals h2 h3 h4 h5 h0 h6 =>
   exact .own t' es xs v e' vals h2 (ownsRow_congr h3 fun k hk => heap_setRow_ne (hne (h4 k hk) htt)) h4 h5 h0 (h6.mono fun x y _ hr => hF hr)
 have hrow : ∀ {r x u'}, (∀ es xs, x ≠ .sl t es xs) -> LRel G w r x u' -> LRel G (w.setRow b (cur.toList.set i u).toArray) r x u' := by
  intro r x u' hx hr
  cases hr with
  | froz hr => exact .froz (hF hr)
  | own t' es xs _ e' vals h2 hrt h3 h4 h5 h0 h6 =>
   exact .own t' es xs _ e' vals h2 hrt (ownsRow_congr h3 fun k hk => heap_setRow_ne (hne (h4 k hk) (fun e => hx es xs (by rw [e])))) h4 h5 h0 (h6.mono fun x y _ hr => hF hr)
 have hkr : ∀ {r x u'}, x.rowLike = true -> LRel G w r x u' -> (killRow t x).rowLike = true /\ LRel G (w.setRow b (cur.toList.set i u).toArray) r (killRow t x) u' := by
  intro r x u' hx hr
  by_cases hs : ∃ es xs, x = .sl t es xs
  ·obtain ⟨es, xs, rfl⟩ := hs
   simp only [killRow, if_true]
   exact ⟨rfl, .froz (.any _)⟩
  ·have hx' : ∀ es xs, x ≠ .sl t es xs := fun es xs e => hs ⟨es, xs, e⟩
   have e : killRow t x = x := by
    cases x <;> first | rfl | skip
    simp only [killRow]; split
    ·rename_i htt; subst htt; exact absurd rfl (hx' _ _)
    ·rfl
   rw [e]; exact ⟨hx, hrow hx' hr⟩
 have hso : ∀ {t' xs v}, VRel G w (.so t' xs) v -> VRel G (w.setRow b (cur.toList.set i u).toArray) (if t' = t then .so t ((xs.map (killRow t)).set i y) else .so t' (xs.map (killRow t))) v := by
  intro t' xs v h
  by_cases htt : t' = t
  ·subst htt
   rw [if_pos rfl]
   cases h with
   | froz h => cases h
   | so _ _ _ e' vals g1 g2 g3 g4 g0 g5 =>
   have hlen : ((xs.map (killRow t')).set i y).length = xs.length := by simp
   have hlk : ∀ z ∈ xs.map (killRow t'), z.rowLike = true := fun z hz => by
    obtain ⟨x, hx, rfl⟩ := List.mem_map.1 hz
    obtain ⟨j, hj⟩ := List.getElem?_of_mem hx
    have hjl : j < vals.length := by rw [<- g5.1]; exact (List.getElem?_eq_some_iff.1 hj).1
    exact (hkr (g4 x hx) (g5.2 j x _ hj (List.getElem?_eq_getElem hjl))).1
   have hpw : PW (LRel G (w.setRow b (cur.toList.set i u).toArray) (root t')) ((xs.map (killRow t')).set i y) (vals.set i u) := by
    refine PW.set ⟨by simpa using g5.1, fun j z u' hz hu' => ?_⟩ i (hrow hyt hL)
    rw [List.getElem?_map] at hz
    cases hx : xs[j]? with
    | none => simp [hx] at hz
    | some x => simp [hx] at hz; subst hz; exact (hkr (g4 x (List.mem_of_getElem? hx)) (g5.2 j x u' hx hu')).2
   refine .so t' _ v e (vals.set i u) g1 ?_ g3 (fun z hz => ?_) (fun z hz => ?_) hpw
   ·rcases g2.2 with ⟨hv, hn⟩ | ⟨g, cap, cur', hv, hgb, hh', hnc, hcm, hcs, hct⟩
    ·exact ⟨by rw [List.length_set, hlen]; exact g2.1, .inl ⟨hv, by rw [hlen]; exact hn⟩⟩
    ·subst hv
     obtain rfl := hg.tags _ _ _ (g3 g rfl) hb
     rw [hh] at hh'
     simp only [Option.some.injEq, Obj.cells.injEq, and_true] at hh'
     obtain ⟨rfl, rfl⟩ := hh'
     refine ⟨by rw [List.length_set, hlen]; exact g2.1, .inr ⟨g, cap, _, by rw [hlen], Nat.zero_le _, hset, by rw [hlen]; exact hnc, hcm, by simpa using hcs, ?_⟩⟩
     rw [hlen]; simp only [List.take_set]; rw [hct]
   ·rcases List.mem_or_eq_of_mem_set hz with h' | h'
    ·exact hlk z h'
    ·rw [h']; exact hy
   ·rcases List.mem_or_eq_of_mem_set hz with h' | h'
    ·exact g0 z h'
    ·rw [h']; exact h1
  ·rw [if_neg htt]
   exact h.so_map h.so_two (fun x u' hx hr => hkr hx hr) (fun k hk => ⟨hk, heap_setRow_ne (hne hk htt)⟩)
 refine h.mapTop fun x v hx h => ?_
 cases x with
 | sl t' es xs =>
  simp only [putLeaf]; split
  ·exact .froz (.any _)
  ·rename_i htt; exact hsl htt h
 | pe t' es xs j o =>
  obtain ⟨b', off, c, h2, h3, rfl⟩ := h.pe_inv
  simp only [putLeaf]; split
  ·exact .froz (.any _)
  ·rename_i htt; exact .pe _ _ _ _ _ _ _ _ (hsl htt h2) h3
 | so t' xs => simp only [putLeaf]; exact hso h
 | po t' xs j =>
  obtain ⟨b', off, c, h2, h3, rfl⟩ := h.po_inv
  have := hso h2
  simp only [putLeaf]
  split at this
  ·rename_i htt; rw [if_pos htt]; exact this.po_of (by simp) h3
  ·rename_i htt; rw [if_neg htt]; exact this.po_of (by simp) h3
 | pb j o => obtain ⟨k, hk, rfl⟩ := h.pb_inv; exact .pb _ _ _ hk
 | ag cs => simp [AV.leafy] at hx
 | tup cs => simp [AV.leafy] at hx
 | any => exact .froz (.any _)
 | nil => rw [h.nil_inv]; exact .froz .nil
 | ub => obtain ⟨b, rfl⟩ := h.ub_inv; exact .froz (.ub b)
 | sc u => rw [h.sc_inv]; exact .froz (.sc _)
 | fn g caps => cases h with | froz h => exact .froz (hF h)
 | mp t' P k e' D => exact h.mpMono (fun _ hb => hb) (fun b' es cl _ hm => heap_setRow_ne (fun h => by subst h; rw [hh] at hm; cases hm))
 | cl g caps => exact h.clMono (fun _ h => h) (fun b' hb' => heap_setRow_ne (fun h => by subst h; unfold Stable at hb'; rw [hb] at hb'; cases hb')) (fun _ _ h => h)
 | tl t es xs i => exact .froz (.any _)
 | fp cs o => cases h with | froz h => exact .froz (hF h)
end
end Go.AM
