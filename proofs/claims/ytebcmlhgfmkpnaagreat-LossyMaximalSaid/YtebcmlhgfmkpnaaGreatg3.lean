/- AmL -/
import Derived.Test.YtebcmlhgfmkpnaaGreatg2
namespace Go.AM
open Go.RowKit
section
variable {P : Program}
def Callable (P : Program) (f : FuncId) : Prop := ∃ fn, P.funcs[f]? = some fn /\ (fn.name == "runtime.NumGoroutine") = false /\ fn.body.isNone = false
def Con (P : Program) (f : FuncId) (args : List AV) (bx : List (List AV)) (post : AV -> List (List AV) -> Prop) : Prop :=
 Callable P f /\ ∀ (G : Nat -> Status) (w : World) (vs : Array Value), Good G w -> (∀ b t, G b ≠ .tag t) -> (∀ b i, G b = .box i -> i < bx.length) -> BRel noGh G w bx -> PW (VRel G w) args vs.toList ->
  Calls P f vs w (fun e w' => ∃ v r bx' G', e = .returned v /\ post r bx' /\ VRel G' w' r v /\ Good G' w' /\ BRel noGh G' w' bx' /\ (∀ b i, G' b = .box i -> i < bx'.length) /\
   w'.os = w.os /\ w'.tape = w.tape /\ w'.output = w.output /\ w.heap.size <= w'.heap.size /\ (∀ b, b < w.heap.size -> G' b = G b) /\ (∀ b, b < w.heap.size -> (∀ i, G b ≠ .box i) -> w'.heap[b]? = w.heap[b]?))
theorem Con.mono {f : FuncId} {args : List AV} {bx : List (List AV)} {post post' : AV -> List (List AV) -> Prop} (h : Con P f args bx post) (hp : ∀ r bx, post r bx -> post' r bx) : Con P f args bx post' :=
 ⟨h.1, fun G w vs h1 h2 h3 h4 h5 => (h.2 G w vs h1 h2 h3 h4 h5).mono fun _ _ ⟨v, r, bx', G', he, hq, rest⟩ => ⟨v, r, bx', G', he, hp _ _ hq, rest⟩⟩
def viewRow : AV -> AV
 | .sl t es xs => if 2 <= t then .sl 0 es xs else .sl t es xs
 | x => x
def viewLeaf : AV -> AV
 | .so _ xs => .sl 0 1 (xs.map viewRow)
 | .po _ xs i => .pe 0 1 (xs.map viewRow) i 0
 | .sl t es xs => if 2 <= t then .sl 0 es xs else .sl t es xs
 | .pe t es xs i o => if 2 <= t then .pe 0 es xs i o else .pe t es xs i o
 | .pb _ _ => .any
 | .mp _ _ _ _ _ => .any
 | .cl _ _ => .any
 | .tl _ _ _ _ => .any
 | x => x
def AV.view (x : AV) : AV := x.mapTop viewLeaf
def tagsIn (ts : List Nat) : AV -> Bool
 | .sl t _ _ => decide (t < 2) || ts.contains (root t)
 | .pe t _ _ _ _ => decide (t < 2) || ts.contains (root t)
 | .so t _ => ts.contains (root t)
 | .po t _ _ => ts.contains (root t)
 | _ => true
mutual
def AV.tags : AV -> List Nat
 | .ag cs => tagss cs
 | .tup cs => tagss cs
 | .sl t _ _ => if 2 <= t then [root t] else []
 | .pe t _ _ _ _ => if 2 <= t then [root t] else []
 | .so t _ => [root t]
 | .po t _ _ => [root t]
 | _ => []
def tagss : List AV -> List Nat
 | [] => []
 | x :: r => AV.tags x ++ tagss r
end
mutual
theorem tags_in (ts : List Nat) : ∀ x : AV, (∀ t ∈ x.tags, t ∈ ts) -> x.allLeaf (tagsIn ts) = true
 | .ag cs, h => by simp only [AV.allLeaf]; exact tagss_in ts cs (by simpa [AV.tags] using h)
 | .tup cs, h => by simp only [AV.allLeaf]; exact tagss_in ts cs (by simpa [AV.tags] using h)
 | .sl t es xs, h => by
  simp only [AV.allLeaf, tagsIn, Bool.or_eq_true, decide_eq_true_eq, List.contains_iff_mem]
  by_cases ht : t < 2
  ·exact .inl ht
  ·exact .inr (h (root t) (by simp [AV.tags, show 2 <= t by omega]))
 | .pe t es xs i o, h => by
  simp only [AV.allLeaf, tagsIn, Bool.or_eq_true, decide_eq_true_eq, List.contains_iff_mem]
  by_cases ht : t < 2
  ·exact .inl ht
  ·exact .inr (h (root t) (by simp [AV.tags, show 2 <= t by omega]))
 | .any, _ => rfl
 | .nil, _ => rfl
 | .ub, _ => rfl
 | .sc _, _ => rfl
 | .pb _ _, _ => rfl
 | .fn _ _, _ => rfl
 | .fp _ _, _ => rfl
 | .mp _ _ _ _ _, _ => rfl
 | .cl _ _, _ => rfl
 | .tl _ _ _ _, _ => rfl
 | .so t xs, h => by
  simp only [AV.allLeaf, tagsIn, List.contains_iff_mem]
  exact h (root t) (by simp [AV.tags])
 | .po t xs i, h => by
  simp only [AV.allLeaf, tagsIn, List.contains_iff_mem]
  exact h (root t) (by simp [AV.tags])
theorem tagss_in (ts : List Nat) : ∀ cs : List AV, (∀ t ∈ tagss cs, t ∈ ts) -> allLeafs (tagsIn ts) cs = true
 | [], _ => rfl
 | x :: r, h => by
  simp only [tagss, List.mem_append] at h
  simp only [allLeafs, Bool.and_eq_true]
  exact ⟨tags_in ts x fun t ht => h t (.inl ht), tagss_in ts r fun t ht => h t (.inr ht)⟩
end
def viewG (ts : List Nat) (G : Nat -> Status) (b : Nat) : Status :=
 match G b with
 | .stable => .stable
 | .tag t => if ts.contains (root t) then .stable else .junk
 | _ => .junk
theorem viewG_stable {ts : List Nat} {G : Nat -> Status} {b : Nat} (h : Stable G b) : Stable (viewG ts G) b := by
 unfold Stable at *; simp [viewG, h]
theorem VRel.view {ts : List Nat} {G : Nat -> Status} {w : World} {x : AV} {v : Value} (h : VRel G w x v) (hq : x.allLeaf (tagsIn ts) = true) : VRel (viewG ts G) w x.view v := by
 have hsl : ∀ {t es xs v}, (decide (t < 2) || ts.contains (root t)) = true -> VRel G w (.sl t es xs) v -> FRel (Stable (viewG ts G)) w (if 2 <= t then .sl 0 es xs else .sl t es xs) v := by
  intro t es xs v ht h
  cases h with
  | froz h =>
   have : t < 2 := by cases h <;> assumption
   rw [if_neg (by omega)]
   exact h.mono (fun b => viewG_stable) (fun _ _ => rfl)
  | own _ _ _ _ e vals h1 h2 h3 h4 h0 h5 =>
   rw [if_pos h1]
   have ht' : ts.contains (root t) = true := by
    simp only [Bool.or_eq_true, decide_eq_true_eq] at ht
    rcases ht with ht | ht
    ·omega
    ·exact ht
   exact own_froz (_G := G) (_t := t) h2 (fun b hb => by unfold Stable viewG; rw [h3 b hb]; simp only [ht', if_true]) h4 h0 (h5.mono fun x y _ hr => hr.mono (fun b => viewG_stable) (fun _ _ => rfl))
 have hso : ∀ {t xs v}, ts.contains (root t) = true -> VRel G w (.so t xs) v -> FRel (Stable (viewG ts G)) w (.sl 0 1 (xs.map viewRow)) v := by
  intro t xs v ht h
  refine h.so_froz (fun x u hx hr => ?_) (fun b hb => by unfold Stable viewG; rw [hb]; simp only [ht, if_true])
  cases hr with
  | froz hr =>
   have hr' := hr.mono (S' := Stable (viewG ts G)) (w' := w) (fun b => viewG_stable) (fun _ _ => rfl)
   cases x <;> first | exact ⟨hx, hr'⟩ | skip
   rename_i t' es ys
   have : t' < 2 := by cases hr <;> assumption
   simp only [viewRow]; rw [if_neg (by omega)]; exact ⟨hx, hr'⟩
  | own t' es ys _ e vals h1 hrt h2 h3 h4 h0 h5 =>
   simp only [viewRow]; rw [if_pos h1]
   exact ⟨rfl, own_froz (_G := G) (_t := t') h2 (fun b hb => by unfold Stable viewG; rw [h3 b hb]; simp only [hrt, ht, if_true]) h4 h0 (h5.mono fun x y _ hr => hr.mono (fun b => viewG_stable) (fun _ _ => rfl))⟩
 refine h.mapTopQ (fun x v hx hq h => ?_) hq
 cases x with
 | so t xs => simp only [tagsIn] at hq; exact .froz (hso hq h)
 | po t xs i =>
  simp only [tagsIn] at hq
  obtain ⟨b, off, c, h1, h2, rfl⟩ := h.po_inv
  exact .froz ((hso hq h1).pe_of (by simp) h2)
 | sl t es xs => simp only [tagsIn] at hq; have := hsl hq h; simp only [viewLeaf]; exact .froz this
 | pe t es xs i o =>
  simp only [tagsIn] at hq
  obtain ⟨b, off, c, h1, h2, rfl⟩ := h.pe_inv
  have := hsl hq h1
  simp only [viewLeaf]
  split at this
  ·rename_i ht; rw [if_pos ht]; exact .froz (.pe _ _ _ _ _ _ _ _ this h2)
  ·rename_i ht; rw [if_neg ht]; exact .froz (.pe _ _ _ _ _ _ _ _ this h2)
 | pb i o => exact .froz (.any _)
 | ag cs => simp [AV.leafy] at hx
 | tup cs => simp [AV.leafy] at hx
 | any => exact .froz (.any _)
 | nil => rw [h.nil_inv]; exact .froz .nil
 | ub => obtain ⟨b, rfl⟩ := h.ub_inv; exact .froz (.ub b)
 | sc u => rw [h.sc_inv]; exact .froz (.sc _)
 | fn g caps => cases h with | froz h => exact .froz (h.mono (fun b => viewG_stable) (fun _ _ => rfl))
 | mp t P k e D => exact .froz (.any _)
 | cl g caps => exact .froz (.any _)
 | tl t es xs i => exact .froz (.any _)
 | fp cs o => cases h with | froz h => exact .froz (h.mono (fun b => viewG_stable) (fun _ _ => rfl))
theorem Good.view {ts : List Nat} {G : Nat -> Status} {w : World} (h : Good G w) : Good (viewG ts G) w /\ (∀ b t, viewG ts G b ≠ .tag t) /\ (∀ b i, viewG ts G b ≠ .box i) := by
 have h1 : ∀ b t, viewG ts G b ≠ .tag t := fun b t hb => by unfold viewG at hb; split at hb <;> first | (cases hb; done) | (split at hb <;> cases hb)
 have h2 : ∀ b t, viewG ts G b ≠ .box t := fun b t hb => by unfold viewG at hb; split at hb <;> first | (cases hb; done) | (split at hb <;> cases hb)
 exact ⟨⟨fun b hb => h.lt b fun h' => hb (by simp [viewG, h']), fun b b' t hb => absurd hb (h1 b t), fun b b' i hb => absurd hb (h2 b i)⟩, h1, h2⟩
def memless : AV -> Bool
 | .any => true
 | .nil => true
 | .ub => true
 | .sc _ => true
 | .ag cs => cs.all fun | .any => true | .nil => true | .ub => true | .sc _ => true | _ => false
 | _ => false
def flatRow : AV -> Bool
 | .sl t _ xs => decide (2 <= t) && xs.all memless
 | x => memless x
def flatLeaf : AV -> Bool
 | .so _ xs => xs.all flatRow
 | .sl t _ xs => decide (2 <= t) && xs.all memless
 | x => memless x
def lt64 : AV -> Bool
 | .sl t _ _ => decide (root t < 64)
 | .so t _ => decide (root t < 64)
 | .po _ _ _ => false
 | .pb _ _ => false
 | .pe _ _ _ _ _ => false
 | .mp _ _ _ _ _ => false
 | .cl _ _ => false
 | .tl _ _ _ _ => false
 | _ => true
def backG (d n : Nat) (G G' : Nat -> Status) (b : Nat) : Status :=
 if b < n then G b else
  match G' b with
  | .stable => .stable
  | .tag t => if root t < 64 then .tag (t + 64 * (d + 1)) else .junk
  | _ => .junk
theorem memless_cells {x : AV} (h : memless x = true) : ∀ y ∈ x.cells, memless y = true := by
 cases x <;> simp only [memless, Bool.false_eq_true] at h <;> intro y hy <;> simp only [AV.cells] at hy
 case ag cs =>
  have := List.all_eq_true.1 h y hy
  cases y <;> first | rfl | simp at this
 all_goals (simp only [List.mem_singleton] at hy; subst hy; rfl)
theorem FRel.memless {S S' : Nat -> Prop} {w w' : World} {x : AV} {v : Value} (h : FRel S w x v) (hm : AM.memless x = true) : FRel S' w' x v := by
 cases h with
 | any v => exact .any v
 | nil => exact .nil
 | ub b => exact .ub b
 | sc v => exact .sc v
 | ag cs vs h1 h0 h2 =>
  refine .ag cs vs h1 h0 fun j x u hx hu => ?_
  have := h2 j x u hx hu
  simp only [AM.memless] at hm
  have hx' := List.all_eq_true.1 hm x (List.mem_of_getElem? hx)
  cases this <;> first | exact .any _ | exact .nil | exact .ub _ | exact .sc _ | (simp at hx')
 | _ => simp [AM.memless] at hm
mutual
theorem allLeaf_and (p q : AV -> Bool) : ∀ x : AV, x.allLeaf p = true -> x.allLeaf q = true -> x.allLeaf (fun y => p y && q y) = true
 | .ag cs, ha, hb => by simp only [AV.allLeaf] at *; exact allLeafs_and p q cs ha hb
 | .tup cs, ha, hb => by simp only [AV.allLeaf] at *; exact allLeafs_and p q cs ha hb
 | .sl t es xs, ha, hb => by simp only [AV.allLeaf] at *; simp [ha, hb]
 | .pe t es xs i o, ha, hb => by simp only [AV.allLeaf] at *; simp [ha, hb]
 | .any, ha, hb => by simp only [AV.allLeaf] at *; simp [ha, hb]
 | .nil, ha, hb => by simp only [AV.allLeaf] at *; simp [ha, hb]
 | .ub, ha, hb => by simp only [AV.allLeaf] at *; simp [ha, hb]
 | .sc _, ha, hb => by simp only [AV.allLeaf] at *; simp [ha, hb]
 | .pb _ _, ha, hb => by simp only [AV.allLeaf] at *; simp [ha, hb]
 | .fn _ _, ha, hb => by simp only [AV.allLeaf] at *; simp [ha, hb]
 | .fp _ _, ha, hb => by simp only [AV.allLeaf] at *; simp [ha, hb]
 | .mp _ _ _ _ _, ha, hb => by simp only [AV.allLeaf] at *; simp [ha, hb]
 | .cl _ _, ha, hb => by simp only [AV.allLeaf] at *; simp [ha, hb]
 | .tl _ _ _ _, ha, hb => by simp only [AV.allLeaf] at *; simp [ha, hb]
 | .so _ _, ha, hb => by simp only [AV.allLeaf] at *; simp [ha, hb]
 | .po _ _ _, ha, hb => by simp only [AV.allLeaf] at *; simp [ha, hb]
theorem allLeafs_and (p q : AV -> Bool) : ∀ cs : List AV, allLeafs p cs = true -> allLeafs q cs = true -> allLeafs (fun y => p y && q y) cs = true
 | [], _, _ => rfl
 | x :: r, ha, hb => by
  simp only [allLeafs, Bool.and_eq_true] at ha hb ⊢
  exact ⟨allLeaf_and p q x ha.1 hb.1, allLeafs_and p q r ha.2 hb.2⟩
end
theorem VRel.back {d : Nat} {G Gc G' : Nat -> Status} {w w' : World} {x : AV} {v : Value} (h : VRel G' w' x v) (hlt : x.allLeaf lt64 = true)
  (hdl : d < 16383) (hGc : ∀ b, b < w.heap.size -> G' b = Gc b) (hnt : ∀ b t, Gc b ≠ .tag t)
  (hS : (∀ b, b < w.heap.size -> Stable Gc b -> Stable G b) \/ x.allLeaf flatLeaf = true) : VRel (backG d w.heap.size G G') w' (x.shift (64 * (d + 1))) v := by
 have hnew : ∀ b, ¬ b < w.heap.size -> Stable G' b -> Stable (backG d w.heap.size G G') b := fun b hb h => by unfold Stable at *; simp [backG, hb, h]
 have hstab : (∀ b, b < w.heap.size -> Stable Gc b -> Stable G b) -> ∀ b, Stable G' b -> Stable (backG d w.heap.size G G') b := by
  intro hS b hb
  by_cases hlt : b < w.heap.size
  ·have : Stable Gc b := by unfold Stable at *; rw [<- hGc b hlt]; exact hb
   have := hS b hlt this
   unfold Stable at *; simp [backG, hlt, this]
  ·exact hnew b hlt hb
 have hF : ∀ {x v}, x.leafy = true -> ((∀ b, b < w.heap.size -> Stable Gc b -> Stable G b) \/ flatLeaf x = true) -> FRel (Stable G') w' x v -> FRel (Stable (backG d w.heap.size G G')) w' x v := by
  intro x v hx hS h
  rcases hS with hS | hS
  ·exact h.mono (hstab hS) (fun _ _ => rfl)
  ·cases x with
   | sl t es xs =>
    simp only [flatLeaf, Bool.and_eq_true, decide_eq_true_eq] at hS
    have : t < 2 := by cases h <;> assumption
    omega
   | so t xs => cases h
   | _ => exact h.memless (by simpa [flatLeaf] using hS)
 have core : ∀ q : AV -> Bool, (∀ x, q x = true -> lt64 x = true /\ ((∀ b, b < w.heap.size -> Stable Gc b -> Stable G b) \/ flatLeaf x = true)) -> x.allLeaf q = true -> VRel (backG d w.heap.size G G') w' (x.shift (64 * (d + 1))) v := by
  intro q hqq hq
  refine h.mapTopQ (fun x v hx hq h => ?_) hq
  obtain ⟨h1, hS⟩ := hqq x hq
  cases x with
  | sl t es xs =>
   simp only [shiftLeaf, shiftTag]
   cases h with
   | froz h =>
    have : t < 2 := by cases h <;> assumption
    rw [if_pos this]
    exact .froz (hF hx hS h)
   | own _ _ _ _ e vals g1 g2 g3 g4 g0 g5 =>
    rw [if_neg (by omega)]
    simp only [lt64, decide_eq_true_eq] at h1
    refine .own _ es xs v e vals (by omega) g2 (fun b hb => ?_) g4 g0 (g5.mono fun x y hx hr => ?_)
    ·have hgb := g3 b hb
     have : ¬ b < w.heap.size := fun hlt => by rw [hGc b hlt] at hgb; exact hnt b t hgb
     simp [backG, this, hgb, h1]
    ·rcases hS with hS | hS
     ·exact hr.mono (hstab hS) (fun _ _ => rfl)
     ·simp only [flatLeaf, Bool.and_eq_true, decide_eq_true_eq] at hS
      obtain ⟨y, hy, hxy⟩ := List.mem_flatMap.1 hx
      exact hr.memless (memless_cells (List.all_eq_true.1 hS.2 y hy) x hxy)
  | so t xs =>
   simp only [lt64, decide_eq_true_eq] at h1
   simp only [shiftLeaf, shiftTag]
   have ht := h.so_two
   rw [if_neg (by omega)]
   have hnb : ∀ b t, G' b = .tag t -> ¬ b < w.heap.size := fun b t hgb hlt => by rw [hGc b hlt] at hgb; exact hnt b t hgb
   have hroot : root (t + 64 * (d + 1)) = root t + 64 * (d + 1) := by unfold root at *; omega
   cases h with
   | froz h => cases h
   | so _ _ _ e vals g1 g2 g3 g4 g0 g5 =>
   refine .so _ _ v e vals (by omega) (by rw [List.length_map]; exact g2) (fun b hb => ?_) (fun y hy => ?_) g0 ⟨by simpa using g5.1, fun j y u hy hu => ?_⟩
   ·have hgb := g3 b hb
    simp [backG, hnb b t hgb, hgb, h1]
   ·obtain ⟨x, hx, rfl⟩ := List.mem_map.1 hy
    have := g4 x hx
    cases x <;> first | rfl | (simp [AV.rowLike] at this)
   ·rw [List.getElem?_map] at hy
    cases hx : xs[j]? with
    | none => simp [hx] at hy
    | some x =>
     simp [hx] at hy; subst hy
     have hxm := List.mem_of_getElem? hx
     have hr := g5.2 j x u hx hu
     have hS' : (∀ b, b < w.heap.size -> Stable Gc b -> Stable G b) \/ flatRow x = true := by
      rcases hS with hS | hS
      ·exact .inl hS
      ·simp only [flatLeaf] at hS; exact .inr (List.all_eq_true.1 hS x hxm)
     cases hr with
     | froz hr =>
      have hx2 : flatRow x = true -> flatLeaf x = true := fun hf => by
       have := g4 x hxm
       cases x <;> first | exact hf | (simp [AV.rowLike] at this)
      have hl : x.leafy = true := by
       have := g4 x hxm
       cases x <;> first | rfl | (simp [AV.rowLike] at this)
      have hr' := hF hl (hS'.imp id hx2) hr
      cases x <;> first | exact .froz hr' | skip
      rename_i t' es ys
      have : t' < 2 := by cases hr <;> assumption
      simp only [shiftRow, shiftTag]; rw [if_pos (by omega)]; exact .froz hr'
     | own t' es ys _ e' vals' k1 krt k2 k3 k4 k0 k5 =>
      simp only [shiftRow, shiftTag]; rw [if_neg (by omega)]
      refine .own _ es ys u e' vals' (by omega) (by unfold root at *; omega) k2 (fun b hb => ?_) k4 k0 (k5.mono fun z y hz hr => ?_)
      ·have hgb := k3 b hb
       have hr64 : root t' < 64 := by omega
       simp [backG, hnb b t' hgb, hgb, hr64]
      ·rcases hS' with hS' | hS'
       ·exact hr.mono (hstab hS') (fun _ _ => rfl)
       ·simp only [flatRow, Bool.and_eq_true, decide_eq_true_eq] at hS'
        obtain ⟨y', hy', hxy⟩ := List.mem_flatMap.1 hz
        exact hr.memless (memless_cells (List.all_eq_true.1 hS'.2 y' hy') z hxy)
  | po t xs i => simp [lt64] at h1
  | pe t es xs i o => simp [lt64] at h1
  | pb i o => simp [lt64] at h1
  | ag cs => simp [AV.leafy] at hx
  | tup cs => simp [AV.leafy] at hx
  | any => exact .froz (.any _)
  | nil => rw [h.nil_inv]; exact .froz .nil
  | ub => obtain ⟨b, rfl⟩ := h.ub_inv; exact .froz (.ub b)
  | sc u => rw [h.sc_inv]; exact .froz (.sc _)
  | fn g caps => cases h with | froz h => exact .froz (hF hx hS h)
  | mp t P k e D => simp [lt64] at h1
  | cl g caps => simp [lt64] at h1
  | tl t es xs i => simp [lt64] at h1
  | fp cs o => cases h with | froz h => exact .froz (hF hx hS h)
 rcases hS with hS | hS
 ·exact core lt64 (fun x h => ⟨h, .inl hS⟩) hlt
 ·exact core _ (fun x h => by simp only [Bool.and_eq_true] at h; exact ⟨h.1, .inr h.2⟩) (allLeaf_and lt64 flatLeaf x hlt hS)
inductive CallPost (ts : List Nat) (d : Nat) (σ : St) (K : St -> Prop) (r : AV) : Prop
 | free : ts = [] -> K (σ.put (some d) (r.shift (64 * (d + 1)))) -> CallPost ts d σ K r
 | flat : r.allLeaf flatLeaf = true -> K (σ.put (some d) (r.shift (64 * (d + 1)))) -> CallPost ts d σ K r
 | freeze : K ((σ.map (freezeLeaf fun t => ts.contains t)).put (some d) (r.shift (64 * (d + 1)))) -> CallPost ts d σ K r
def CallK (P : Program) (f : FuncId) (args : List AV) (d : Nat) (σ : St) (K : St -> Prop) : Prop :=
 σ.free d = true /\ d < σ.n /\ Con P f (args.map AV.view) [] fun r _ => r.allLeaf lt64 = true /\ CallPost (tagss args) d σ K r
theorem tagss_mem : ∀ {args : List AV} {x : AV}, x ∈ args -> ∀ t ∈ x.tags, t ∈ tagss args
 | y :: r, x, h, t, ht => by
  simp only [tagss, List.mem_append]
  rcases List.mem_cons.1 h with rfl | h
  ·exact .inl ht
  ·exact .inr (tagss_mem h t ht)
theorem SRel.freeze {G0 w0 σ G a w} (h : SRel G0 w0 σ G a w) (_h0 : True) (p : Nat -> Bool) : SRel G0 w0 (σ.map (freezeLeaf p)) (freezeG p G) a w :=
 { h with
  good := h.good.freeze
  slots := fun s => by
   have : (σ.map (freezeLeaf p)).get s = (σ.get s).freeze p := lookT_map rfl σ.tmps s
   rw [this]; exact (h.slots s).freeze
  boxes := ⟨fun i vs hv => by have := h.boxes.low i vs hv; simpa [St.map, mapB_eq] using this, fun i cs hi => by
   simp only [St.map, mapB_eq, List.getElem?_map] at hi
   cases hc : σ.boxes[i]? with
   | none => simp [hc] at hi
   | some cs' =>
    simp [hc] at hi; subst hi
    rw [mapTops_eq]
    refine (h.boxes.cell i cs' hc).map (fun x v hr => hr.freeze) (fun b hb => ⟨by simp [freezeG, hb], rfl⟩) fun h0 b hb => h0 b ?_
    unfold freezeG at hb; split at hb
    ·split at hb <;> cases hb
    ·exact hb⟩
  blt := fun b i hb => by
   have : G b = .box i := by
    unfold freezeG at hb; split at hb
    ·split at hb <;> cases hb
    ·exact hb
   have := h.blt b i this
   simpa [St.map, mapB_eq] using this
  size := h.size
  stat := fun b hb hnt => by
   have := h.stat b hb hnt
   unfold freezeG; split
   ·rename_i t ht; rw [this] at ht; exact absurd ht (hnt t)
   ·exact this }
theorem SRel.back {G0 w0 σ G a w G' w'} {d : Nat} (h : SRel G0 w0 σ G a w) (hf : Fresh d G) (hd : d < σ.n) {r : AV} {v : Value} (hr : VRel (backG d w.heap.size G G') w' r v)
  (hG : Good G' w') (e1 : w'.os = w.os) (e2 : w'.tape = w.tape) (e3 : w'.output = w.output) (e4 : w.heap.size <= w'.heap.size) (e6 : ∀ b, b < w.heap.size -> w'.heap[b]? = w.heap[b]?) :
  SRel G0 w0 (σ.put (some d) r) (backG d w.heap.size G G') (a.put (some d) v) w' := by
 have hE : Ext G w (backG d w.heap.size G G') w' := ⟨e1, e2, e3, e4, fun b hb => by simp [backG, hb], e6⟩
 have htag : ∀ b t, backG d w.heap.size G G' b = .tag t -> (b < w.heap.size /\ G b = .tag t) \/ (¬ b < w.heap.size /\ root t / 64 = d + 1 /\ G' b = .tag (t - 64 * (d + 1))) := by
  intro b t hb
  unfold backG at hb
  split at hb
  ·exact .inl ⟨by assumption, hb⟩
  ·rename_i hn
   split at hb <;> try (cases hb; done)
   rename_i t' ht'
   split at hb
   ·cases hb; exact .inr ⟨hn, by have := hf.1; unfold root at *; omega, by rw [ht']; congr 1; omega⟩
   ·cases hb
 have hbox : ∀ b i, backG d w.heap.size G G' b = .box i -> G b = .box i := by
  intro b i hb
  unfold backG at hb
  split at hb
  ·exact hb
  ·split at hb <;> first | (cases hb; done) | (split at hb <;> cases hb)
 have hgood : Good (backG d w.heap.size G G') w' := by
  refine ⟨fun b hb => ?_, fun b b' t h1 h2 => ?_, fun b b' i h1 h2 => h.good.boxes b b' i (hbox b i h1) (hbox b' i h2)⟩
  ·unfold backG at hb
   split at hb
   ·omega
   ·exact hG.lt b fun h' => hb (by simp [h'])
  ·rcases htag b t h1 with ⟨_, h1⟩ | ⟨_, h1, g1⟩ <;> rcases htag b' t h2 with ⟨_, h2⟩ | ⟨_, h2, g2⟩
   ·exact h.good.tags b b' t h1 h2
   ·exact absurd h2 (hf.2 b t h1)
   ·exact absurd h1 (hf.2 b' t h2)
   ·exact hG.tags b b' _ g1 g2
 exact h.add hE hgood hbox (by simpa [dstOk] using hd) hr
theorem CallK.sound {f : FuncId} {args : List AV} {d : Nat} {σ : St} {K : St -> Prop} {G0 w0 G a w} (hk : CallK P f args d σ K) (h : SRel G0 w0 σ G a w) (h0 : True) {vs : Array Value}
  (hv : ∀ G, SRel G0 w0 σ G a w -> PW (VRel G w) args vs.toList) :
  Callable P f /\ Calls P f vs w fun e w' => ∃ v σ' G', e = .returned v /\ K σ' /\ SRel G0 w0 σ' G' (a.put (some d) v) w' := by
 obtain ⟨hfree, hd, hcall, hcon⟩ := hk
 refine ⟨hcall, ?_⟩
 obtain ⟨hs, hfr⟩ := h.fresh hfree h0
 have hgv := hs.good.view (ts := tagss args)
 have hva : PW (VRel (viewG (tagss args) (killR d G)) w) (args.map AV.view) vs.toList := by
  have hv := hv _ hs
  refine ⟨by simpa using hv.1, fun j x u hx hu => ?_⟩
  rw [List.getElem?_map] at hx
  cases hj : args[j]? with
  | none => simp [hj] at hx
  | some y =>
   simp [hj] at hx; subst hx
   exact (hv.2 j y u hj hu).view (tags_in _ y (tagss_mem (List.mem_of_getElem? hj)))
 refine (hcon _ w vs hgv.1 hgv.2.1 (fun b i hb => absurd hb (hgv.2.2 b i)) ⟨fun i vs hv => by simp [noGh] at hv, fun i cs hi => by simp at hi⟩ hva).mono ?_
 rintro e w' ⟨v, r, bx', G', rfl, ⟨hlt, hpost⟩, hr, hG', _, _, e1, e2, e3, e4, e5, e6⟩
 have e6' : ∀ b, b < w.heap.size -> w'.heap[b]? = w.heap[b]? := fun b hb => e6 b hb (fun i => hgv.2.2 b i)
 cases hpost with
 | free ht hK =>
  have := hr.back (d := d) (G := killR d G) (Gc := viewG (tagss args) (killR d G)) (w := w) hlt hfr.1 e5 hgv.2.1 (.inl fun b _ hb => by
   unfold Stable viewG at *
   split at hb
   ·assumption
   ·rw [ht] at hb; simp at hb
   ·cases hb)
  exact ⟨v, _, _, rfl, hK, hs.back hfr hd this hG' e1 e2 e3 e4 e6'⟩
 | flat hf hK =>
  have := hr.back (d := d) (G := killR d G) (Gc := viewG (tagss args) (killR d G)) (w := w) hlt hfr.1 e5 hgv.2.1 (.inr hf)
  exact ⟨v, _, _, rfl, hK, hs.back hfr hd this hG' e1 e2 e3 e4 e6'⟩
 | freeze hK =>
  have hs' := hs.freeze h0 (fun t => (tagss args).contains t)
  have hfr' : Fresh d (freezeG (fun t => (tagss args).contains t) (killR d G)) := by
   refine ⟨hfr.1, fun b t hb => ?_⟩
   unfold freezeG at hb
   split at hb
   ·rename_i t' ht'; split at hb
    ·cases hb
    ·cases hb; exact hfr.2 b _ ht'
   ·exact hfr.2 b t hb
  have := hr.back (d := d) (G := freezeG (fun t => (tagss args).contains t) (killR d G)) (Gc := viewG (tagss args) (killR d G)) (w := w) hlt hfr.1 e5 hgv.2.1 (.inl fun b _ hb => by
   unfold Stable viewG at hb
   unfold Stable freezeG
   split at hb
   ·rename_i h; rw [h]
   ·rename_i t h; rw [h]; split at hb
    ·rename_i hc; simp only [hc, if_true]
    ·cases hb
   ·cases hb)
  exact ⟨v, _, _, rfl, hK, hs'.back hfr' (by simpa [St.map] using hd) this hG' e1 e2 e3 e4 e6'⟩
end
end Go.AM
