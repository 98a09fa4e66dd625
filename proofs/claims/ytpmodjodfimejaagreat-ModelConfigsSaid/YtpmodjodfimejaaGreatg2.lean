/-
  The abstract machine: the owners' tags: freezing, forgetting, renaming.
  The abstract machine: the operations that make memory, and those that write to it.
-/
import Derived.Test.YtpmodjodfimejaaGreatg1
/-! ## AmD -/
namespace Go.AM
open Go.RowKit
mutual
def AV.mapTop (f : AV → AV) : AV → AV
 | .ag cs => .ag (mapTops f cs)
 | .tup cs => .tup (mapTops f cs)
 | .any => f .any
 | .nil => f .nil
 | .ub => f .ub
 | .sc v => f (.sc v)
 | .sl t es xs => f (.sl t es xs)
 | .pb i o => f (.pb i o)
 | .pe t es xs i o => f (.pe t es xs i o)
 | .fn g caps => f (.fn g caps)
 | .fp cs o => f (.fp cs o)
 | .so t xs => f (.so t xs)
 | .po t xs i => f (.po t xs i)
 | .mp t P k e D => f (.mp t P k e D)
 | .cl g caps => f (.cl g caps)
 | .tl t es xs i => f (.tl t es xs i)
def mapTops (f : AV → AV) : List AV → List AV
 | [] => []
 | x :: r => AV.mapTop f x :: mapTops f r
end
theorem mapTops_eq (f : AV → AV) : ∀ cs : List AV, mapTops f cs = cs.map (AV.mapTop f)
 | [] => by simp [mapTops]
 | x :: r => by simp [mapTops, mapTops_eq f r]
def AV.leafy : AV → Bool
 | .ag _ => false
 | .tup _ => false
 | _ => true
theorem AV.mapTop_leaf (f : AV → AV) {x : AV} (h : x.leafy = true) : x.mapTop f = f x := by
 cases x <;> first | (simp [AV.leafy] at h; done) | simp [AV.mapTop]
theorem FRel.mapTop {f : AV → AV} {S : Nat → Prop} {w w' : World} {G' : Nat → Status} (hleaf : ∀ x v, x.leafy = true → FRel S w x v → VRel G' w' (f x) v)
  {x : AV} {v : Value} (h : FRel S w x v) : VRel G' w' (x.mapTop f) v := by
 induction h with
 | ag cs vs h1 h0 _ ih =>
  simp only [AV.mapTop, mapTops_eq]
  refine .ag _ _ (by simpa using h1) h0 fun j x u hx hu => ?_
  simp only [List.getElem?_map] at hx
  cases hc : cs[j]? with
  | none => simp [hc] at hx
  | some c => simp [hc] at hx; subst hx; exact ih j c u hc hu
 | tup cs vs h1 _ ih =>
  simp only [AV.mapTop, mapTops_eq]
  refine .tup _ _ (by simpa using h1) fun j x u hx hu => ?_
  simp only [List.getElem?_map] at hx
  cases hc : cs[j]? with
  | none => simp [hc] at hx
  | some c => simp [hc] at hx; subst hx; exact ih j c u hc hu
 | any v => exact hleaf _ _ rfl (.any v)
 | nil => exact hleaf _ _ rfl .nil
 | ub b => exact hleaf _ _ rfl (.ub b)
 | sc v => exact hleaf _ _ rfl (.sc v)
 | slNil t es a c h1 h2 h3 => exact hleaf _ _ rfl (.slNil t es a c h1 h2 h3)
 | sl t es xs b off c vals h1 h2 h3 hc h4 h5 h0 h6 h7 => exact hleaf _ _ rfl (.sl t es xs b off c vals h1 h2 h3 hc h4 h5 h0 h6 h7)
 | pe t es xs i o b off c h1 h2 => exact hleaf _ _ rfl (.pe t es xs i o b off c h1 h2)
 | fn g caps vs h1 h2 => exact hleaf _ _ rfl (.fn g caps vs h1 h2)
 | fp cs o b vals h1 h2 h0 h3 h4 => exact hleaf _ _ rfl (.fp cs o b vals h1 h2 h0 h3 h4)
theorem VRel.mapTop {f : AV → AV} {w w' : World} {G G' : Nat → Status} (hleaf : ∀ x v, x.leafy = true → VRel G w x v → VRel G' w' (f x) v)
  {x : AV} {v : Value} (h : VRel G w x v) : VRel G' w' (x.mapTop f) v := by
 induction h with
 | froz h => exact h.mapTop fun x v hx h => hleaf x v hx (.froz h)
 | own t es xs v e vals h1 h2 h3 h4 h0 h5 => exact hleaf _ _ rfl (.own t es xs v e vals h1 h2 h3 h4 h0 h5)
 | ag cs vs h1 h0 _ ih =>
  simp only [AV.mapTop, mapTops_eq]
  refine .ag _ _ (by simpa using h1) h0 fun j x u hx hu => ?_
  simp only [List.getElem?_map] at hx
  cases hc : cs[j]? with
  | none => simp [hc] at hx
  | some c => simp [hc] at hx; subst hx; exact ih j c u hc hu
 | tup cs vs h1 _ ih =>
  simp only [AV.mapTop, mapTops_eq]
  refine .tup _ _ (by simpa using h1) fun j x u hx hu => ?_
  simp only [List.getElem?_map] at hx
  cases hc : cs[j]? with
  | none => simp [hc] at hx
  | some c => simp [hc] at hx; subst hx; exact ih j c u hc hu
 | pb i o b h => exact hleaf _ _ rfl (.pb i o b h)
 | pe t es xs i o b off c h1 h2 => exact hleaf _ _ rfl (.pe t es xs i o b off c h1 h2)
 | so t xs v e vals h1 h2 h3 h4 h0 h5 => exact hleaf _ _ rfl (.so t xs v e vals h1 h2 h3 h4 h0 h5)
 | po t xs i b off c h1 h2 => exact hleaf _ _ rfl (.po t xs i b off c h1 h2)
 | mp t P k e D b n h1 h2 h3 => exact hleaf _ _ rfl (.mp t P k e D b n h1 h2 h3)
 | cl f caps vs h => exact hleaf _ _ rfl (.cl f caps vs h)
 | tl t es xs i b off off' c h1 h2 h3 => exact hleaf _ _ rfl (.tl t es xs i b off off' c h1 h2 h3)
theorem VRel.so_map {G G' : Nat → Status} {w w' : World} {t t' : Nat} {xs : List AV} {v : Value} {f : AV → AV} (h : VRel G w (.so t xs) v) (ht' : 2 ≤ t')
  (hrow : ∀ x u, x.rowLike = true → LRel G w (root t) x u → (f x).rowLike = true ∧ LRel G' w' (root t') (f x) u) (hb : ∀ b, G b = .tag t → G' b = .tag t' ∧ w'.heap[b]? = w.heap[b]?) : VRel G' w' (.so t' (xs.map f)) v := by
 cases h with
 | froz h => cases h
 | so _ _ _ e vals h1 h2 h3 h4 h0 h5 =>
  refine .so t' _ v e vals ht' (by rw [List.length_map]; exact ownsRow_congr h2 fun b h => (hb b (h3 b h)).2) (fun b h => (hb b (h3 b h)).1) (fun y hy => ?_) h0 ⟨by simpa using h5.1, fun j y u hy hu => ?_⟩
  ·obtain ⟨x, hx, rfl⟩ := List.mem_map.1 hy
   obtain ⟨j, hj⟩ := List.getElem?_of_mem hx
   have hjl : j < vals.length := by rw [← h5.1]; exact (List.getElem?_eq_some_iff.1 hj).1
   exact (hrow x _ (h4 x hx) (h5.2 j x _ hj (List.getElem?_eq_getElem hjl))).1
  ·rw [List.getElem?_map] at hy
   cases hx : xs[j]? with
   | none => simp [hx] at hy
   | some x => simp [hx] at hy; subst hy; exact (hrow x u (h4 x (List.mem_of_getElem? hx)) (h5.2 j x u hx hu)).2
theorem VRel.so_froz {G : Nat → Status} {S : Nat → Prop} {w : World} {t : Nat} {xs : List AV} {v : Value} {f : AV → AV} (h : VRel G w (.so t xs) v)
  (hrow : ∀ x u, x.rowLike = true → LRel G w (root t) x u → (f x).rowLike = true ∧ FRel S w (f x) u) (hb : ∀ b, G b = .tag t → S b) : FRel S w (.sl 0 1 (xs.map f)) v := by
 cases h with
 | froz h => cases h
 | so _ _ _ e vals h1 h2 h3 h4 h0 h5 =>
  have hrl : ∀ y ∈ xs.map f, y.rowLike = true := fun y hy => by
   obtain ⟨x, hx, rfl⟩ := List.mem_map.1 hy
   obtain ⟨j, hj⟩ := List.getElem?_of_mem hx
   have hjl : j < vals.length := by rw [← h5.1]; exact (List.getElem?_eq_some_iff.1 hj).1
   exact (hrow x _ (h4 x hx) (h5.2 j x _ hj (List.getElem?_eq_getElem hjl))).1
  rcases h2.2 with ⟨hv, hn⟩ | ⟨g, cap, cur, hv, hg, hh, hn, hc, hs, ht⟩
  ·subst hv; obtain rfl := List.eq_nil_of_length_eq_zero hn; exact .slNil 0 1 none 0 (by omega) (by simp) (by simp)
  ·subst hv
   have := FRel.sl (S := S) (w := w) 0 1 (xs.map f) g 0 cap vals (by omega) (hb g (h3 g rfl)) (by simp) (by simpa using hn) (fun y hy => by rw [rowLike_cells (hrl y hy)]; rfl)
    (by rw [rowLike_flat hrl]; simpa using h5.1) h0 (fun j u hj => by
     have : cur.toList[j]? = some u := by
      rw [← ht, List.getElem?_take] at hj
      split at hj
      ·exact hj
      ·cases hj
     simp only [World.cell?, hh, Nat.zero_add]
     simpa using this)
    (fun j y u hy hu => by
     rw [rowLike_flat hrl, List.getElem?_map] at hy
     cases hx : xs[j]? with
     | none => simp [hx] at hy
     | some x => simp [hx] at hy; subst hy; exact (hrow x u (h4 x (List.mem_of_getElem? hx)) (h5.2 j x u hx hu)).2)
   rw [List.length_map] at this; exact this
theorem VRel.po_of {G' : Nat → Status} {w' : World} {t i b off c n : Nat} {xs : List AV} (h : VRel G' w' (.so t xs) (.slice (some ⟨b, off, none⟩) n c)) (hn : n = xs.length) (hi : i < n) : VRel G' w' (.po t xs i) (.pointer (some ⟨b, off + i, none⟩)) := by
 subst hn; exact .po t xs i b off c h hi
theorem FRel.pe_of {S : Nat → Prop} {w' : World} {t i b off c n : Nat} {xs : List AV} (h : FRel S w' (.sl t 1 xs) (.slice (some ⟨b, off, none⟩) n c)) (hn : n = xs.length) (hi : i < n) : FRel S w' (.pe t 1 xs i 0) (.pointer (some ⟨b, off + i, none⟩)) := by
 subst hn
 have := FRel.pe t 1 xs i 0 b off c h hi
 rw [show off + i * 1 + 0 = off + i by omega] at this; exact this
def freezeRow (p : Nat → Bool) : AV → AV
 | .sl t es xs => if 2 ≤ t ∧ p (root t) = true then .sl 0 es xs else .sl t es xs
 | x => x
def freezeLeaf (p : Nat → Bool) : AV → AV
 | .sl t es xs => if 2 ≤ t ∧ p (root t) = true then .sl 0 es xs else .sl t es xs
 | .pe t es xs i o => if 2 ≤ t ∧ p (root t) = true then .pe 0 es xs i o else .pe t es xs i o
 | .so t xs => if p (root t) = true then .sl 0 1 (xs.map (freezeRow p)) else .so t xs
 | .po t xs i => if p (root t) = true then .pe 0 1 (xs.map (freezeRow p)) i 0 else .po t xs i
 | .mp t P k e D => if p (root t) = true then .any else .mp t P k e D
 | .tl t es xs i => if 2 ≤ t ∧ p (root t) = true then .any else .tl t es xs i
 | x => x
def AV.freeze (p : Nat → Bool) (x : AV) : AV := x.mapTop (freezeLeaf p)
def freezeG (p : Nat → Bool) (G : Nat → Status) (b : Nat) : Status :=
 match G b with
 | .tag t => if p (root t) = true then .stable else .tag t
 | s => s
theorem freezeG_stable {p : Nat → Bool} {G : Nat → Status} {b : Nat} (h : Stable G b) : Stable (freezeG p G) b := by
 unfold Stable at *; simp [freezeG, h]
theorem own_froz {_G : Nat → Status} {S : Nat → Prop} {w : World} {_t es : Nat} {xs : List AV} {v : Value} {e : TypeId} {vals : List Value} (h2 : w.ownsRow 0 e es v xs.length vals)
  (h3 : ∀ b, v.ownBlock = some b → S b) (h4 : ∀ x ∈ xs, x.cells.length = es) (h0 : One vals) (h5 : PW (FRel S w) (flat xs) vals) : FRel S w (.sl 0 es xs) v := by
 rcases h2.2 with ⟨hv, hn⟩ | ⟨g, cap, cur, hv, hg, hh, hn, hc, hs, ht⟩
 ·subst hv; obtain rfl := List.eq_nil_of_length_eq_zero hn; exact .slNil 0 es none 0 (by omega) (by simp) (by simp)
 ·subst hv
  refine .sl 0 es xs g 0 cap vals (by omega) (h3 g rfl) (by simp) hn h4 h5.1 h0 (fun j u hj => ?_) h5.2
  have : cur.toList[j]? = some u := by
   rw [← ht, List.getElem?_take] at hj
   split at hj
   ·exact hj
   ·cases hj
  simp only [World.cell?, hh, Nat.zero_add]
  simpa using this
theorem freezeLeaf_sl {p : Nat → Bool} {G : Nat → Status} {w : World} {t es : Nat} {xs : List AV} {v : Value} (h : VRel G w (.sl t es xs) v) : VRel (freezeG p G) w (freezeLeaf p (.sl t es xs)) v := by
 cases h with
 | froz h =>
  have ht : t < 2 := by cases h <;> assumption
  simp only [freezeLeaf]
  rw [if_neg (by omega)]
  exact .froz (h.mono (fun b => freezeG_stable) (fun _ _ => rfl))
 | own _ _ _ _ e vals h1 h2 h3 h4 h0 h5 =>
  have h5' : PW (FRel (Stable (freezeG p G)) w) (flat xs) vals := h5.mono fun x y _ hr => hr.mono (fun b => freezeG_stable) (fun _ _ => rfl)
  simp only [freezeLeaf]
  by_cases hp : p (root t) = true
  ·rw [if_pos ⟨h1, hp⟩]
   exact .froz (own_froz (_G := G) (_t := t) h2 (fun b hb => by unfold Stable freezeG; rw [h3 b hb]; simp [hp]) h4 h0 h5')
  ·rw [if_neg (fun h => hp h.2)]
   exact .own t es xs v e vals h1 h2 (fun b hb => by unfold freezeG; rw [h3 b hb]; simp [hp]) h4 h0 h5'
theorem freezeLeaf_so {p : Nat → Bool} {G : Nat → Status} {w : World} {t : Nat} {xs : List AV} {v : Value} (h : VRel G w (.so t xs) v) : VRel (freezeG p G) w (freezeLeaf p (.so t xs)) v := by
 simp only [freezeLeaf]
 by_cases hp : p (root t) = true
 ·rw [if_pos hp]
  refine .froz (h.so_froz (fun x u hx hr => ?_) (fun b hb => by unfold Stable freezeG; rw [hb]; simp [hp]))
  cases hr with
  | froz hr =>
   have hr' := hr.mono (S' := Stable (freezeG p G)) (w' := w) (fun b => freezeG_stable) (fun _ _ => rfl)
   cases x <;> first | exact ⟨hx, hr'⟩ | skip
   rename_i t' es ys
   have : t' < 2 := by cases hr <;> assumption
   simp only [freezeRow]; rw [if_neg (by omega)]; exact ⟨hx, hr'⟩
  | own t' es ys _ e vals h1 hrt h2 h3 h4 h0 h5 =>
   simp only [freezeRow]; rw [if_pos ⟨h1, by rw [hrt]; exact hp⟩]
   exact ⟨rfl, own_froz (_G := G) (_t := t') h2 (fun b hb => by unfold Stable freezeG; rw [h3 b hb]; simp [hrt, hp]) h4 h0 (h5.mono fun x y _ hr => hr.mono (fun b => freezeG_stable) (fun _ _ => rfl))⟩
 ·rw [if_neg hp]
  have ht : 2 ≤ t := by cases h with | froz h => cases h | so _ _ _ _ _ h1 => exact h1
  have := h.so_map (f := id) (G' := freezeG p G) (w' := w) (t' := t) ht (fun x u hx hr => ⟨hx, by
   cases hr with
   | froz hr => exact .froz (hr.mono (fun b => freezeG_stable) (fun _ _ => rfl))
   | own t' es ys _ e vals h1 hrt h2 h3 h4 h0 h5 =>
    exact .own t' es ys _ e vals h1 hrt h2 (fun b hb => by unfold freezeG; rw [h3 b hb]; simp [hrt, hp]) h4 h0 (h5.mono fun x y _ hr => hr.mono (fun b => freezeG_stable) (fun _ _ => rfl))⟩)
   (fun b hb => ⟨by unfold freezeG; rw [hb]; simp [hp], rfl⟩)
  simpa using this
theorem VRel.freeze {p : Nat → Bool} {G : Nat → Status} {w : World} {x : AV} {v : Value} (h : VRel G w x v) : VRel (freezeG p G) w (x.freeze p) v := by
 refine h.mapTop fun x v hx h => ?_
 cases x with
 | sl t es xs => exact freezeLeaf_sl h
 | pe t es xs i o =>
  obtain ⟨b, off, c, h1, h2, rfl⟩ := h.pe_inv
  have := freezeLeaf_sl (p := p) h1
  simp only [freezeLeaf] at this ⊢
  split at this
  ·rename_i hp; rw [if_pos hp]; exact .pe _ _ _ _ _ _ _ _ this h2
  ·rename_i hp; rw [if_neg hp]; exact .pe _ _ _ _ _ _ _ _ this h2
 | so t xs => exact freezeLeaf_so h
 | po t xs i =>
  obtain ⟨b, off, c, h1, h2, rfl⟩ := h.po_inv
  have := freezeLeaf_so (p := p) h1
  simp only [freezeLeaf] at this ⊢
  split at this
  ·rename_i hp; rw [if_pos hp]
   cases this with
   | froz this => exact .froz (this.pe_of (by simp) h2)
   | own _ _ _ _ _ _ h => omega
  ·rename_i hp; rw [if_neg hp]; exact this.po_of rfl h2
 | pb i o => obtain ⟨b, hb, rfl⟩ := h.pb_inv; exact .pb _ _ _ (by simp [freezeG, hb])
 | ag cs => simp [AV.leafy] at hx
 | tup cs => simp [AV.leafy] at hx
 | any => exact .froz (.any _)
 | nil => rw [h.nil_inv]; exact .froz .nil
 | ub => obtain ⟨b, rfl⟩ := h.ub_inv; exact .froz (.ub b)
 | sc u => rw [h.sc_inv]; exact .froz (.sc _)
 | fn g caps => cases h with | froz h => exact .froz (h.mono (fun b => freezeG_stable) (fun _ _ => rfl))
 | mp t P k e D =>
  simp only [freezeLeaf]; split
  ·exact .froz (.any _)
  ·rename_i hp; exact h.mpMono (fun b hb => by simp [freezeG, hb, hp]) (fun _ _ _ _ _ => rfl)
 | cl g caps => exact h.clMono (fun b => freezeG_stable) (fun _ _ => rfl) (fun b i hb => by simp [freezeG, hb])
 | tl t es xs i =>
  obtain ⟨b, off, off', c, h1, h2, h3, _, rfl⟩ := h.tl_inv
  have := freezeLeaf_sl (p := p) h1
  simp only [freezeLeaf] at this ⊢
  split at this
  ·rename_i hp; rw [if_pos hp]; exact .froz (.any _)
  ·rename_i hp; rw [if_neg hp]; exact .tl _ _ _ _ _ _ _ _ this h2 h3
 | fp cs o => cases h with | froz h => exact .froz (h.mono (fun b => freezeG_stable) (fun _ _ => rfl))
theorem Good.freeze {p : Nat → Bool} {G : Nat → Status} {w : World} (h : Good G w) : Good (freezeG p G) w := by
 have key : ∀ b t, freezeG p G b = .tag t → G b = .tag t := by
  intro b t hb; unfold freezeG at hb
  split at hb
  ·rename_i t' ht; split at hb
   ·cases hb
   ·rw [ht]; exact hb
  ·exact hb
 have keyb : ∀ b i, freezeG p G b = .box i → G b = .box i := by
  intro b t hb; unfold freezeG at hb
  split at hb
  ·split at hb <;> cases hb
  ·exact hb
 refine ⟨fun b hb => h.lt b fun h' => hb ?_, fun b b' t h1 h2 => h.tags b b' t (key _ _ h1) (key _ _ h2), fun b b' i h1 h2 => h.boxes b b' i (keyb _ _ h1) (keyb _ _ h2)⟩
 simp [freezeG, h']
def killRow (t0 : Nat) : AV → AV
 | .sl t es xs => if t = t0 then .any else .sl t es xs
 | x => x
def killLeaf (t0 : Nat) : AV → AV
 | .so t xs => if t = t0 then .any else .so t (xs.map (killRow t0))
 | .po t xs i => if t = t0 then .any else .po t (xs.map (killRow t0)) i
 | .sl t es xs => if t = t0 then .any else .sl t es xs
 | .pe t es xs i o => if t = t0 then .any else .pe t es xs i o
 | .mp t P k e D => if t = t0 then .any else .mp t P k e D
 | .tl t es xs i => if t = t0 then .any else .tl t es xs i
 | x => x
def AV.kill (t0 : Nat) (x : AV) : AV := x.mapTop (killLeaf t0)
def killG (t0 : Nat) (G : Nat → Status) (b : Nat) : Status := if G b = .tag t0 then .junk else G b
theorem killG_stable {t0 : Nat} {G : Nat → Status} {b : Nat} : Stable (killG t0 G) b ↔ Stable G b := by
 unfold Stable killG
 by_cases h : G b = .tag t0
 ·simp [h]
 ·simp [h]
theorem killLeaf_sl {t0 : Nat} {G : Nat → Status} {w : World} {t es : Nat} {xs : List AV} {v : Value} (ht0 : t ≠ t0) (h : VRel G w (.sl t es xs) v) : VRel (killG t0 G) w (.sl t es xs) v := by
 cases h with
 | froz h => exact .froz (h.mono (fun b => killG_stable.2) (fun _ _ => rfl))
 | own _ _ _ _ e vals h1 h2 h3 h4 h0 h5 =>
  exact .own t es xs v e vals h1 h2 (fun b hb => by unfold killG; rw [h3 b hb, if_neg (by simpa using ht0)]) h4 h0 (h5.mono fun x y _ hr => hr.mono (fun b => killG_stable.2) (fun _ _ => rfl))
theorem killRow_rel {t0 r : Nat} {G : Nat → Status} {w : World} {x : AV} {u : Value} (hx : x.rowLike = true) (hr : LRel G w r x u) : (killRow t0 x).rowLike = true ∧ LRel (killG t0 G) w r (killRow t0 x) u := by
 cases hr with
 | froz hr =>
  have hr' := hr.mono (S' := Stable (killG t0 G)) (w' := w) (fun b => killG_stable.2) (fun _ _ => rfl)
  cases x <;> first | exact ⟨hx, .froz hr'⟩ | skip
  simp only [killRow]; split
  ·exact ⟨rfl, .froz (.any _)⟩
  ·exact ⟨hx, .froz hr'⟩
 | own t' es ys _ e vals h1 hrt h2 h3 h4 h0 h5 =>
  simp only [killRow]; split
  ·exact ⟨rfl, .froz (.any _)⟩
  ·rename_i hn
   exact ⟨rfl, .own t' es ys _ e vals h1 hrt h2 (fun b hb => by unfold killG; rw [h3 b hb, if_neg (by simpa using hn)]) h4 h0 (h5.mono fun x y _ hr => hr.mono (fun b => killG_stable.2) (fun _ _ => rfl))⟩
theorem killLeaf_so {t0 : Nat} {G : Nat → Status} {w : World} {t : Nat} {xs : List AV} {v : Value} (hne : t ≠ t0) (h : VRel G w (.so t xs) v) : VRel (killG t0 G) w (.so t (xs.map (killRow t0))) v := by
 have ht : 2 ≤ t := by cases h with | froz h => cases h | so _ _ _ _ _ h1 => exact h1
 exact h.so_map ht (fun x u hx hr => killRow_rel hx hr) (fun b hb => ⟨by unfold killG; rw [hb, if_neg (by simpa using hne)], rfl⟩)
theorem VRel.kill {t0 : Nat} {G : Nat → Status} {w : World} {x : AV} {v : Value} (h : VRel G w x v) : VRel (killG t0 G) w (x.kill t0) v := by
 refine h.mapTop fun x v hx h => ?_
 cases x with
 | sl t es xs =>
  simp only [killLeaf]; split
  ·exact .froz (.any _)
  ·rename_i hp; exact killLeaf_sl hp h
 | pe t es xs i o =>
  obtain ⟨b, off, c, h1, h2, rfl⟩ := h.pe_inv
  simp only [killLeaf]; split
  ·exact .froz (.any _)
  ·rename_i hp; exact .pe _ _ _ _ _ _ _ _ (killLeaf_sl hp h1) h2
 | so t xs =>
  simp only [killLeaf]; split
  ·exact .froz (.any _)
  ·rename_i hp; exact killLeaf_so hp h
 | po t xs i =>
  obtain ⟨b, off, c, h1, h2, rfl⟩ := h.po_inv
  simp only [killLeaf]; split
  ·exact .froz (.any _)
  ·rename_i hp; exact (killLeaf_so hp h1).po_of (by simp) h2
 | pb i o => obtain ⟨b, hb, rfl⟩ := h.pb_inv; exact .pb _ _ _ (by simp [killG, hb])
 | ag cs => simp [AV.leafy] at hx
 | tup cs => simp [AV.leafy] at hx
 | any => exact .froz (.any _)
 | nil => rw [h.nil_inv]; exact .froz .nil
 | ub => obtain ⟨b, rfl⟩ := h.ub_inv; exact .froz (.ub b)
 | sc u => rw [h.sc_inv]; exact .froz (.sc _)
 | fn g caps => cases h with | froz h => exact .froz (h.mono (fun b => killG_stable.2) (fun _ _ => rfl))
 | mp t P k e D =>
  simp only [killLeaf]; split
  ·exact .froz (.any _)
  ·rename_i hp; exact h.mpMono (fun b hb => by unfold killG; rw [hb, if_neg (by simpa using hp)]) (fun _ _ _ _ _ => rfl)
 | cl g caps => exact h.clMono (fun b => killG_stable.2) (fun _ _ => rfl) (fun b i hb => by simp [killG, hb])
 | tl t es xs i =>
  obtain ⟨b, off, off', c, h1, h2, h3, _, rfl⟩ := h.tl_inv
  simp only [killLeaf]; split
  ·exact .froz (.any _)
  ·rename_i hp; exact .tl _ _ _ _ _ _ _ _ (killLeaf_sl hp h1) h2 h3
 | fp cs o => cases h with | froz h => exact .froz (h.mono (fun b => killG_stable.2) (fun _ _ => rfl))
def shiftTag (k t : Nat) : Nat := if t < 2 then t else t + k
def shiftRow (k : Nat) : AV → AV
 | .sl t es xs => .sl (shiftTag k t) es xs
 | x => x
def shiftLeaf (k : Nat) : AV → AV
 | .so t xs => .so (shiftTag k t) (xs.map (shiftRow k))
 | .po t xs i => .po (shiftTag k t) (xs.map (shiftRow k)) i
 | .sl t es xs => .sl (shiftTag k t) es xs
 | .pe t es xs i o => .pe (shiftTag k t) es xs i o
 | x => x
def AV.shift (k : Nat) (x : AV) : AV := x.mapTop (shiftLeaf k)
def fzLeaf : AV → Bool
 | .sl t _ _ => decide (t < 2)
 | .pe t _ _ _ _ => decide (t < 2)
 | .pb _ _ => false
 | .ag _ => false
 | .tup _ => false
 | .so _ _ => false
 | .po _ _ _ => false
 | .mp _ _ _ _ _ => false
 | .cl _ _ => false
 | .tl _ _ _ _ => false
 | _ => true
def AV.fz : AV → Bool
 | .ag cs => cs.all fzLeaf
 | x => fzLeaf x
def AV.one : AV → Bool
 | .any => false
 | .tup _ => false
 | .mp _ _ _ _ _ => false
 | .cl _ _ => false
 | .tl _ _ _ _ => false
 | .sc v => v.oneCell'
 | _ => true
theorem VRel.fzLeaf {G : Nat → Status} {w : World} {x : AV} {v : Value} (h : VRel G w x v) (hx : AM.fzLeaf x = true) : FRel (Stable G) w x v := by
 cases h with
 | froz h => exact h
 | own t es xs v e vals h1 => simp [AM.fzLeaf] at hx; omega
 | ag => simp [AM.fzLeaf] at hx
 | tup => simp [AM.fzLeaf] at hx
 | pb => simp [AM.fzLeaf] at hx
 | so => simp [AM.fzLeaf] at hx
 | po => simp [AM.fzLeaf] at hx
 | mp => simp [AM.fzLeaf] at hx
 | cl => simp [AM.fzLeaf] at hx
 | tl => simp [AM.fzLeaf] at hx
 | pe t es xs i o b off c h1 h2 =>
  simp [AM.fzLeaf] at hx
  cases h1 with
  | froz h => exact .pe _ _ _ _ _ _ _ _ h h2
  | own _ _ _ _ e vals h1 => omega
theorem VRel.fz {G : Nat → Status} {w : World} {x : AV} {v : Value} (h : VRel G w x v) (hx : x.fz = true) : FRel (Stable G) w x v := by
 cases x with
 | ag cs =>
  obtain ⟨vs, rfl, h0, h1⟩ := h.ag_inv
  simp only [AV.fz, List.all_eq_true] at hx
  exact .ag cs vs h1.1 h0 fun j x u hxj hu => (h1.2 j x u hxj hu).fzLeaf (hx x (List.mem_of_getElem? hxj))
 | _ => exact h.fzLeaf hx
theorem FRel.cells {S : Nat → Prop} {w : World} {x : AV} {v : Value} (h : FRel S w x v) (h1 : x.one = true) : PW (FRel S w) x.cells v.cells.toList ∧ One v.cells.toList := by
 have leaf : x.leafy = true → x ≠ .any → v.oneCell' = true → PW (FRel S w) x.cells v.cells.toList ∧ One v.cells.toList := by
  intro h2 _ h3
  have hc : x.cells = [x] := by cases x <;> first | rfl | (simp [AV.leafy] at h2)
  have hv : v.cells.toList = [v] := by cases v <;> first | rfl | (simp [Value.oneCell'] at h3)
  rw [hc, hv]
  exact ⟨.cons h (.nil _), fun u hu => by simp at hu; subst hu; exact h3⟩
 cases h with
 | any => simp [AV.one] at h1
 | ag cs vs h2 h0 h3 => exact ⟨⟨h2, h3⟩, h0⟩
 | tup => simp [AV.one] at h1
 | sc v => exact leaf rfl (by simp) (by simpa [AV.one] using h1)
 | _ => exact leaf rfl (by simp) rfl
end Go.AM

/-! ## AmE -/
namespace Go.AM
open Go.RowKit
def updG (G : Nat → Status) (n : Nat) (s : Status) (b : Nat) : Status := if b = n then s else G b
theorem Ext.alloc {G : Nat → Status} {w : World} (o : Obj) (s : Status) : Ext G w (updG G w.heap.size s) (w.alloc o) :=
 ⟨rfl, rfl, rfl, by simp, fun b hb => by simp [updG, Nat.ne_of_lt hb], fun b hb => heap_alloc_old w o hb⟩
theorem Good.upd {G : Nat → Status} {w w' : World} (hg : Good G w) (n : Nat) (s : Status) (hn : w.heap.size ≤ n) (hn' : n < w'.heap.size) (_hsz : w.heap.size ≤ w'.heap.size)
  (ht : ∀ t, s = .tag t → ∀ b, G b ≠ .tag t) (hb : ∀ i, s = .box i → ∀ b, G b ≠ .box i) : Good (updG G n s) w' := by
 have hj : G n = .junk := Classical.byContradiction fun h => by have := hg.lt n h; omega
 refine ⟨fun b h => ?_, fun b b' t h1 h2 => ?_, fun b b' i h1 h2 => ?_⟩
 ·by_cases e : b = n
  ·omega
  ·simp only [updG, e, if_false] at h; have := hg.lt b h; omega
 ·simp only [updG] at h1 h2
  split at h1 <;> split at h2
  ·omega
  ·exact absurd h2 (ht t h1 _)
  ·exact absurd h1 (ht t h2 _)
  ·exact hg.tags b b' t h1 h2
 ·simp only [updG] at h1 h2
  split at h1 <;> split at h2
  ·omega
  ·exact absurd h2 (hb i h1 _)
  ·exact absurd h1 (hb i h2 _)
  ·exact hg.boxes b b' i h1 h2
def Fresh (d : Nat) (G : Nat → Status) : Prop := d < 16383 ∧ ∀ b t, G b = .tag t → root t / 64 ≠ d + 1
theorem Fresh.own {d : Nat} {G : Nat → Status} (h : Fresh d G) : root (64 * (d + 1)) / 64 = d + 1 := by have := h.1; unfold root; omega
theorem Fresh.ne {d b : Nat} {G : Nat → Status} (h : Fresh d G) (hb : G b = .tag (64 * (d + 1))) : False := h.2 b _ hb h.own
theorem NewTags.upd {d : Nat} {G : Nat → Status} {n t : Nat} (h : root t / 64 = d + 1) : NewTags d G (updG G n (.tag t)) := by
 refine ⟨fun b t' hb => ?_, fun b i hb => ?_⟩ <;> simp only [updG] at hb <;> split at hb
 ·cases hb; exact .inr h
 ·exact .inl hb
 ·cases hb
 ·exact hb
theorem fold_set (off : Nat) : ∀ (ys : List Value) (j0 : Nat) (pre mid post : List Value), mid.length = ys.length → pre.length = off + j0 →
  (ys.zipIdx j0).foldl (fun (cs : Array Value) (p : Value × Nat) => cs.setIfInBounds (off + p.2) p.1) (pre ++ mid ++ post).toArray = (pre ++ ys ++ post).toArray
 | [], j0, pre, mid, post, h, _ => by
  have : mid = [] := List.eq_nil_of_length_eq_zero (by simpa using h)
  subst this; simp
 | y :: ys, j0, pre, mid, post, h, hp => by
  cases mid with
  | nil => simp at h
  | cons m mid =>
   simp only [List.zipIdx_cons, List.foldl_cons]
   have e1 : (pre ++ m :: mid ++ post).toArray.setIfInBounds (off + j0) y = ((pre ++ [y]) ++ mid ++ post).toArray := by
    apply Array.toList_inj.1
    simp only [Array.toList_setIfInBounds, List.append_assoc, List.cons_append, List.nil_append]
    rw [← hp, List.set_append_right _ _ (Nat.le_refl _)]
    simp
   rw [e1, fold_set off ys (j0 + 1) (pre ++ [y]) mid post (by simpa using h) (by simp; omega)]
   simp
theorem fill_rows (size : Nat) : ∀ (ps : List (Nat × Value)) (k : Nat) (pre tail : List Value), pre.length = k * size → tail.length = ps.length * size →
  (∀ j p, ps[j]? = some p → p.1 = k + j ∧ p.2.cells.size = size) →
  Instr.fill (fun i => some (i * size, size)) (pre ++ tail).toArray ps = some (pre ++ ps.flatMap fun p => p.2.cells.toList).toArray
 | [], k, pre, tail, h1, h2, _ => by
  have : tail = [] := List.eq_nil_of_length_eq_zero (by simpa using h2)
  subst this; simp [Instr.fill]
 | (i, v) :: ps, k, pre, tail, h1, h2, h3 => by
  obtain ⟨hi, hv⟩ := h3 0 (i, v) rfl
  simp only [Nat.add_zero] at hi hv
  subst hi
  have hlen : size ≤ tail.length := by rw [h2]; simp [Nat.succ_mul]
  simp only [Instr.fill, hv, ne_eq, not_true_eq_false]
  rw [if_neg (by simp; omega)]
  have hsplit : tail = tail.take size ++ tail.drop size := (List.take_append_drop _ _).symm
  have hz : v.cells.zipIdx = (v.cells.toList.zipIdx).toArray := by apply Array.toList_inj.1; rw [Array.toList_zipIdx]
  have hf : v.cells.zipIdx.foldl (fun (cs : Array Value) (x : Value × Nat) => cs.setIfInBounds (i * size + x.2) x.1) (pre ++ tail).toArray = (pre ++ v.cells.toList ++ tail.drop size).toArray := by
   rw [hz, List.foldl_toArray']
   ·rw [hsplit, ← List.append_assoc]
    have := fold_set (i * size) v.cells.toList 0 pre (tail.take size) (tail.drop size) (by simp [hv]; omega) (by simpa using h1)
    simpa using this
   ·simp
  rw [show (Array.foldl (fun cs x => match x with | (c, j) => cs.setIfInBounds (i * size + j) c) (pre ++ tail).toArray v.cells.zipIdx) = _ from hf]
  rw [fill_rows size ps (i + 1) (pre ++ v.cells.toList) (tail.drop size) (by simp [hv, h1, Nat.succ_mul]) (by rw [List.length_drop, h2]; simp [Nat.succ_mul]) (fun j p hj => by
   have := h3 (j + 1) p (by simpa using hj); exact ⟨by omega, this.2⟩)]
  simp
theorem PW.flatMap {α β γ δ : Type} {R : γ → δ → Prop} {f : α → List γ} {g : β → List δ} : ∀ {xs : List α} {ys : List β}, PW (fun x y => PW R (f x) (g y)) xs ys → PW R (xs.flatMap f) (ys.flatMap g)
 | [], ys, h => by rw [h.nil_inv]; exact .nil R
 | x :: xs, ys, h => by
  obtain ⟨y, ys', rfl, h1, h2⟩ := h.cons_inv
  simp only [List.flatMap_cons]
  exact h1.append h2.flatMap
section ops
variable {P : Program}
def idxOk : Nat → List (Nat × AV) → Bool
 | _, [] => true
 | k, (i, _) :: r => decide (i = k) && idxOk (k + 1) r
theorem idxOk_spec : ∀ (ps : List (Nat × AV)) (k : Nat), idxOk k ps = true → ∀ (j : Nat) p, ps[j]? = some p → p.1 = k + j
 | [], _, _, j, p, h => by simp at h
 | (i, x) :: r, k, hk, j, p, h => by
  simp only [idxOk, Bool.and_eq_true, decide_eq_true_eq] at hk
  cases j with
  | zero => simp at h; subst h; simpa using hk.1
  | succ j => have := idxOk_spec r (k + 1) hk.2 j p (by simpa using h); omega
def partOk (es : Nat) (x : AV) : Bool := decide (x.cells.length = es) && x.fz && x.one
def evBuildSlice (P : Program) (d : Nat) (T : TypeId) (len : Nat) (ps : List (Nat × AV)) (K : AV → Prop) : Prop :=
 match P.underlying T with
 | some (.slice E) => ∃ q, tinfo P E = some q ∧ 0 < q.1 ∧ q.2.2.isSome = true ∧ len * q.1 ≤ 16777216 ∧ ps.length = len ∧ idxOk 0 ps = true ∧ (ps.all fun p => partOk q.1 p.2) = true ∧ K (.sl (64 * (d + 1)) q.1 (ps.map (·.2)))
 | _ => False
theorem evBuildSlice_sound {d : Nat} {T : TypeId} {len : Nat} {ps : List (Nat × AV)} {K : AV → Prop} (h : evBuildSlice P d T len ps K) :
  ∃ r, K r ∧ ∀ (G : Nat → Status) (w : World) (vs : Array (Nat × Value)), Good G w → Fresh d G → PW (fun p q => p.1 = q.1 ∧ VRel G w p.2 q.2) ps vs.toList → Does P d G w (Instr.buildSlice T len vs) r := by
 unfold evBuildSlice at h
 split at h
 ·rename_i E hT
  obtain ⟨⟨sz, by_, z⟩, hq, h0, hz, hlen, hpl, hidx, hall, hK⟩ := h
  refine ⟨_, hK, fun G w vs hg hf hv => ?_⟩
  cases z with
  | none => simp at hz
  | some z =>
  simp only at h0 hlen hall ⊢
  obtain ⟨i, hi, hsz, hby, hzz⟩ := tinfo_some hq
  have hall' : ∀ p ∈ ps, p.2.cells.length = sz ∧ p.2.fz = true ∧ p.2.one = true := by
   intro p hp
   have := List.all_eq_true.1 hall p hp
   simp only [partOk, Bool.and_eq_true, decide_eq_true_eq] at this
   exact ⟨this.1.1, this.1.2, this.2⟩
  have hpart : ∀ (j : Nat) p q, ps[j]? = some p → vs.toList[j]? = some q → PW (FRel (Stable G) w) p.2.cells q.2.cells.toList ∧ One q.2.cells.toList := by
   intro j p q hp hq'
   obtain ⟨_, h2, h3⟩ := hall' p (List.mem_of_getElem? hp)
   exact ((hv.2 j p q hp hq').2.fz h2).cells h3
  have hrows := fill_rows sz vs.toList 0 [] ((Array.range (len * sz)).map (fun x => (if len * sz = 0 then (#[] : Array Value) else z.cells)[x % (if len * sz = 0 then (#[] : Array Value) else z.cells).size]!)).toList (by simp) (by simp [← hv.1, hpl])
   (fun j q hj => by
    have hjl : j < ps.length := by rw [hv.1]; exact (List.getElem?_eq_some_iff.1 hj).1
    have hp := List.getElem?_eq_getElem hjl
    have h1 := hv.2 j _ q hp hj
    have h2 := idxOk_spec ps 0 hidx j _ hp
    have h3 := (hpart j _ q hp hj).1.1
    have h4 := (hall' _ (List.mem_of_getElem? hp)).1
    exact ⟨by rw [← h1.1]; exact h2, by simpa [h4] using h3.symm⟩)
  simp only [List.nil_append] at hrows
  have hcells : PW (FRel (Stable G) w) (flat (ps.map (·.2))) (vs.toList.flatMap fun p => p.2.cells.toList) := by
   have : flat (ps.map (·.2)) = ps.flatMap fun p => p.2.cells := by simp [flat, List.flatMap_map]
   rw [this]
   exact PW.flatMap ⟨hv.1, fun j p q hp hq' => (hpart j p q hp hq').1⟩
  have hw : ∀ x ∈ ps.map (·.2), x.cells.length = sz := by
   intro x hx; obtain ⟨p, hp, rfl⟩ := List.mem_map.1 hx; exact (hall' p hp).1
  have hcl : (vs.toList.flatMap fun p => p.2.cells.toList).length = len * sz := by rw [← hcells.1, flat_length hw]; simp [hpl]
  have hone : One (vs.toList.flatMap fun p => p.2.cells.toList) := by
   intro u hu
   obtain ⟨q, hq', hu'⟩ := List.mem_flatMap.1 hu
   obtain ⟨j, hj⟩ := List.getElem?_of_mem hq'
   have hjl : j < ps.length := by rw [hv.1]; exact (List.getElem?_eq_some_iff.1 hj).1
   exact (hpart j _ q (List.getElem?_eq_getElem hjl) hj).2 u hu'
  have hrun : (Instr.buildSlice T len vs).run P w = .ok (.slice (some ⟨w.heap.size, 0, none⟩) len len) (w.alloc (.cells (vs.toList.flatMap fun p => p.2.cells.toList).toArray E)) := by
   have e1 : ¬ (16777216 < len * sz) := by omega
   have hrows' : Instr.fill (fun i => some (i * sz, sz)) ((Array.range (len * sz)).map (fun x => (if len * sz = 0 then (#[] : Array Value) else z.cells)[x % (if len * sz = 0 then (#[] : Array Value) else z.cells).size]!)) vs.toList = some (vs.toList.flatMap fun p => p.2.cells.toList).toArray := by
    simpa only [Array.toArray_toList] using hrows
   by_cases hl0 : len * sz = 0
   ·simp [hl0] at hrows'
    simp [Instr.buildSlice, run_underlying hT, run_sizeOf hq, hl0, hrows', newRow]
   ·simp [hl0] at hrows'
    simp [Instr.buildSlice, run_underlying hT, run_sizeOf hq, e1, hl0, hrows', newRow, zeroValue, typeInfo, hi, hzz]
  have hle : len ≤ maxLen := by
   have : len ≤ len * sz := Nat.le_mul_of_pos_right _ h0
   simp only [maxLen]; omega
  refine ⟨_, _, updG G w.heap.size (.tag (64 * (d + 1))), hrun, ?_, .alloc _ _, hg.upd _ _ (Nat.le_refl _) (by simp) (by simp) (fun t ht b hb => ?_) (fun i h => by cases h), .upd hf.own⟩
  ·have hgo := World.ownsRow_lit (base := 0) (e := E) (size := sz) w (vs.toList.flatMap fun p => p.2.cells.toList).toArray len (Nat.zero_le _) hle (by simpa using hcl)
   have : VRel (updG G w.heap.size (.tag (64 * (d + 1)))) (w.alloc (.cells (vs.toList.flatMap fun p => p.2.cells.toList).toArray E)) (.sl (64 * (d + 1)) sz (ps.map (·.2))) (.slice (some ⟨w.heap.size, 0, none⟩) len len) := by
    refine .own _ sz _ _ E (vs.toList.flatMap fun p => p.2.cells.toList) (by omega) (by simpa [hpl] using hgo) (fun b hb => ?_) hw hone (hcells.mono fun x y _ hr => hr.mono (fun b hb => ?_) (fun b hb => ?_))
    ·simp only [Value.ownBlock, Option.some.injEq] at hb; simp [updG, ← hb]
    ·have := hg.lt b (by unfold Stable at hb; rw [hb]; simp)
     unfold Stable at *; simp [updG, Nat.ne_of_lt this, hb]
    ·exact heap_alloc_old w _ (hg.lt b (by unfold Stable at hb; rw [hb]; simp))
   exact this
  ·cases ht; exact hf.ne hb
 ·exact h.elim
end ops
end Go.AM
