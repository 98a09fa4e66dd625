/-
  The abstract machine: the owners' tags: freezing, forgetting, renaming.
-/
import Derived.Test.YthmjnbmooedfjaaAmC
namespace Go.AM
open Go.RowKit

mutual
def AV.mapTop (f : AV → AV) : AV → AV
  | .ag cs => .ag (mapTops f cs)
  | .tup cs => .tup (mapTops f cs)
  | .any => f .any
  | .nil => f .nil
  | .ub => f .ub
  | .sc v => f (.sc v)
  | .sl t es xs => f (.sl t es xs)
  | .pb i o => f (.pb i o)
  | .pe t es xs i o => f (.pe t es xs i o)
  | .fn g caps => f (.fn g caps)
  | .fp cs o => f (.fp cs o)
  | .so t xs => f (.so t xs)
  | .po t xs i => f (.po t xs i)
  | .mp t P k e D => f (.mp t P k e D)
  | .cl g caps => f (.cl g caps)
  | .tl t es xs i => f (.tl t es xs i)
def mapTops (f : AV → AV) : List AV → List AV
  | [] => []
  | x :: r => AV.mapTop f x :: mapTops f r
end

theorem mapTops_eq (f : AV → AV) : ∀ cs : List AV, mapTops f cs = cs.map (AV.mapTop f)
  | [] => by simp [mapTops]
  | x :: r => by simp [mapTops, mapTops_eq f r]

def AV.leafy : AV → Bool
  | .ag _ => false
  | .tup _ => false
  | _ => true

theorem AV.mapTop_leaf (f : AV → AV) {x : AV} (h : x.leafy = true) : x.mapTop f = f x := by
  cases x <;> first | (simp [AV.leafy] at h; done) | simp [AV.mapTop]

theorem FRel.mapTop {f : AV → AV} {S : Nat → Prop} {w w' : World} {G' : Nat → Status} (hleaf : ∀ x v, x.leafy = true → FRel S w x v → VRel G' w' (f x) v)
    {x : AV} {v : Value} (h : FRel S w x v) : VRel G' w' (x.mapTop f) v := by
  induction h with
  | ag cs vs h1 h0 _ ih =>
    simp only [AV.mapTop, mapTops_eq]
    refine .ag _ _ (by simpa using h1) h0 fun j x u hx hu => ?_
    simp only [List.getElem?_map] at hx
    cases hc : cs[j]? with
    | none => simp [hc] at hx
    | some c => simp [hc] at hx; subst hx; exact ih j c u hc hu
  | tup cs vs h1 _ ih =>
    simp only [AV.mapTop, mapTops_eq]
    refine .tup _ _ (by simpa using h1) fun j x u hx hu => ?_
    simp only [List.getElem?_map] at hx
    cases hc : cs[j]? with
    | none => simp [hc] at hx
    | some c => simp [hc] at hx; subst hx; exact ih j c u hc hu
  | any v => exact hleaf _ _ rfl (.any v)
  | nil => exact hleaf _ _ rfl .nil
  | ub b => exact hleaf _ _ rfl (.ub b)
  | sc v => exact hleaf _ _ rfl (.sc v)
  | slNil t es a c h1 h2 h3 => exact hleaf _ _ rfl (.slNil t es a c h1 h2 h3)
  | sl t es xs b off c vals h1 h2 h3 hc h4 h5 h0 h6 h7 => exact hleaf _ _ rfl (.sl t es xs b off c vals h1 h2 h3 hc h4 h5 h0 h6 h7)
  | pe t es xs i o b off c h1 h2 => exact hleaf _ _ rfl (.pe t es xs i o b off c h1 h2)
  | fn g caps vs h1 h2 => exact hleaf _ _ rfl (.fn g caps vs h1 h2)
  | fp cs o b vals h1 h2 h0 h3 h4 => exact hleaf _ _ rfl (.fp cs o b vals h1 h2 h0 h3 h4)

theorem VRel.mapTop {f : AV → AV} {w w' : World} {G G' : Nat → Status} (hleaf : ∀ x v, x.leafy = true → VRel G w x v → VRel G' w' (f x) v)
    {x : AV} {v : Value} (h : VRel G w x v) : VRel G' w' (x.mapTop f) v := by
  induction h with
  | froz h => exact h.mapTop fun x v hx h => hleaf x v hx (.froz h)
  | own t es xs v e vals h1 h2 h3 h4 h0 h5 => exact hleaf _ _ rfl (.own t es xs v e vals h1 h2 h3 h4 h0 h5)
  | ag cs vs h1 h0 _ ih =>
    simp only [AV.mapTop, mapTops_eq]
    refine .ag _ _ (by simpa using h1) h0 fun j x u hx hu => ?_
    simp only [List.getElem?_map] at hx
    cases hc : cs[j]? with
    | none => simp [hc] at hx
    | some c => simp [hc] at hx; subst hx; exact ih j c u hc hu
  | tup cs vs h1 _ ih =>
    simp only [AV.mapTop, mapTops_eq]
    refine .tup _ _ (by simpa using h1) fun j x u hx hu => ?_
    simp only [List.getElem?_map] at hx
    cases hc : cs[j]? with
    | none => simp [hc] at hx
    | some c => simp [hc] at hx; subst hx; exact ih j c u hc hu
  | pb i o b h => exact hleaf _ _ rfl (.pb i o b h)
  | pe t es xs i o b off c h1 h2 => exact hleaf _ _ rfl (.pe t es xs i o b off c h1 h2)
  | so t xs v e vals h1 h2 h3 h4 h0 h5 => exact hleaf _ _ rfl (.so t xs v e vals h1 h2 h3 h4 h0 h5)
  | po t xs i b off c h1 h2 => exact hleaf _ _ rfl (.po t xs i b off c h1 h2)
  | mp t P k e D b n h1 h2 h3 => exact hleaf _ _ rfl (.mp t P k e D b n h1 h2 h3)
  | cl f caps vs h => exact hleaf _ _ rfl (.cl f caps vs h)
  | tl t es xs i b off off' c h1 h2 h3 => exact hleaf _ _ rfl (.tl t es xs i b off off' c h1 h2 h3)

/-- a table, row by row -/
theorem VRel.so_map {G G' : Nat → Status} {w w' : World} {t t' : Nat} {xs : List AV} {v : Value} {f : AV → AV} (h : VRel G w (.so t xs) v) (ht' : 2 ≤ t')
    (hrow : ∀ x u, x.rowLike = true → LRel G w (root t) x u → (f x).rowLike = true ∧ LRel G' w' (root t') (f x) u) (hb : ∀ b, G b = .tag t → G' b = .tag t' ∧ w'.heap[b]? = w.heap[b]?) : VRel G' w' (.so t' (xs.map f)) v := by
  cases h with
  | froz h => cases h
  | so _ _ _ e vals h1 h2 h3 h4 h0 h5 =>
    refine .so t' _ v e vals ht' (by rw [List.length_map]; exact ownsRow_congr h2 fun b h => (hb b (h3 b h)).2) (fun b h => (hb b (h3 b h)).1) (fun y hy => ?_) h0 ⟨by simpa using h5.1, fun j y u hy hu => ?_⟩
    · obtain ⟨x, hx, rfl⟩ := List.mem_map.1 hy
      obtain ⟨j, hj⟩ := List.getElem?_of_mem hx
      have hjl : j < vals.length := by rw [← h5.1]; exact (List.getElem?_eq_some_iff.1 hj).1
      exact (hrow x _ (h4 x hx) (h5.2 j x _ hj (List.getElem?_eq_getElem hjl))).1
    · rw [List.getElem?_map] at hy
      cases hx : xs[j]? with
      | none => simp [hx] at hy
      | some x => simp [hx] at hy; subst hy; exact (hrow x u (h4 x (List.mem_of_getElem? hx)) (h5.2 j x u hx hu)).2

theorem VRel.so_froz {G : Nat → Status} {S : Nat → Prop} {w : World} {t : Nat} {xs : List AV} {v : Value} {f : AV → AV} (h : VRel G w (.so t xs) v)
    (hrow : ∀ x u, x.rowLike = true → LRel G w (root t) x u → (f x).rowLike = true ∧ FRel S w (f x) u) (hb : ∀ b, G b = .tag t → S b) : FRel S w (.sl 0 1 (xs.map f)) v := by
  cases h with
  | froz h => cases h
  | so _ _ _ e vals h1 h2 h3 h4 h0 h5 =>
    have hrl : ∀ y ∈ xs.map f, y.rowLike = true := fun y hy => by
      obtain ⟨x, hx, rfl⟩ := List.mem_map.1 hy
      obtain ⟨j, hj⟩ := List.getElem?_of_mem hx
      have hjl : j < vals.length := by rw [← h5.1]; exact (List.getElem?_eq_some_iff.1 hj).1
      exact (hrow x _ (h4 x hx) (h5.2 j x _ hj (List.getElem?_eq_getElem hjl))).1
    rcases h2.2 with ⟨hv, hn⟩ | ⟨g, cap, cur, hv, hg, hh, hn, hc, hs, ht⟩
    · subst hv; obtain rfl := List.eq_nil_of_length_eq_zero hn; exact .slNil 0 1 none 0 (by omega) (by simp) (by simp)
    · subst hv
      have := FRel.sl (S := S) (w := w) 0 1 (xs.map f) g 0 cap vals (by omega) (hb g (h3 g rfl)) (by simp) (by simpa using hn) (fun y hy => by rw [rowLike_cells (hrl y hy)]; rfl)
        (by rw [rowLike_flat hrl]; simpa using h5.1) h0 (fun j u hj => by
          have : cur.toList[j]? = some u := by
            rw [← ht, List.getElem?_take] at hj
            split at hj
            · exact hj
            · cases hj
          simp only [World.cell?, hh, Nat.zero_add]
          simpa using this)
        (fun j y u hy hu => by
          rw [rowLike_flat hrl, List.getElem?_map] at hy
          cases hx : xs[j]? with
          | none => simp [hx] at hy
          | some x => simp [hx] at hy; subst hy; exact (hrow x u (h4 x (List.mem_of_getElem? hx)) (h5.2 j x u hx hu)).2)
      rw [List.length_map] at this; exact this

/-- a place in a table, by the table -/
theorem VRel.po_of {G' : Nat → Status} {w' : World} {t i b off c n : Nat} {xs : List AV} (h : VRel G' w' (.so t xs) (.slice (some ⟨b, off, none⟩) n c)) (hn : n = xs.length) (hi : i < n) : VRel G' w' (.po t xs i) (.pointer (some ⟨b, off + i, none⟩)) := by
  subst hn; exact .po t xs i b off c h hi
theorem FRel.pe_of {S : Nat → Prop} {w' : World} {t i b off c n : Nat} {xs : List AV} (h : FRel S w' (.sl t 1 xs) (.slice (some ⟨b, off, none⟩) n c)) (hn : n = xs.length) (hi : i < n) : FRel S w' (.pe t 1 xs i 0) (.pointer (some ⟨b, off + i, none⟩)) := by
  subst hn
  have := FRel.pe t 1 xs i 0 b off c h hi
  rw [show off + i * 1 + 0 = off + i by omega] at this; exact this

/-! ### freezing -/
def freezeRow (p : Nat → Bool) : AV → AV
  | .sl t es xs => if 2 ≤ t ∧ p (root t) = true then .sl 0 es xs else .sl t es xs
  | x => x
def freezeLeaf (p : Nat → Bool) : AV → AV
  | .sl t es xs => if 2 ≤ t ∧ p (root t) = true then .sl 0 es xs else .sl t es xs
  | .pe t es xs i o => if 2 ≤ t ∧ p (root t) = true then .pe 0 es xs i o else .pe t es xs i o
  | .so t xs => if p (root t) = true then .sl 0 1 (xs.map (freezeRow p)) else .so t xs
  | .po t xs i => if p (root t) = true then .pe 0 1 (xs.map (freezeRow p)) i 0 else .po t xs i
  | .mp t P k e D => if p (root t) = true then .any else .mp t P k e D
  | .tl t es xs i => if 2 ≤ t ∧ p (root t) = true then .any else .tl t es xs i
  | x => x

def AV.freeze (p : Nat → Bool) (x : AV) : AV := x.mapTop (freezeLeaf p)

def freezeG (p : Nat → Bool) (G : Nat → Status) (b : Nat) : Status :=
  match G b with
  | .tag t => if p (root t) = true then .stable else .tag t
  | s => s

theorem freezeG_stable {p : Nat → Bool} {G : Nat → Status} {b : Nat} (h : Stable G b) : Stable (freezeG p G) b := by
  unfold Stable at *; simp [freezeG, h]

theorem own_froz {G : Nat → Status} {S : Nat → Prop} {w : World} {t es : Nat} {xs : List AV} {v : Value} {e : TypeId} {vals : List Value} (h2 : w.ownsRow 0 e es v xs.length vals)
    (h3 : ∀ b, v.ownBlock = some b → S b) (h4 : ∀ x ∈ xs, x.cells.length = es) (h0 : One vals) (h5 : PW (FRel S w) (flat xs) vals) : FRel S w (.sl 0 es xs) v := by
  rcases h2.2 with ⟨hv, hn⟩ | ⟨g, cap, cur, hv, hg, hh, hn, hc, hs, ht⟩
  · subst hv; obtain rfl := List.eq_nil_of_length_eq_zero hn; exact .slNil 0 es none 0 (by omega) (by simp) (by simp)
  · subst hv
    refine .sl 0 es xs g 0 cap vals (by omega) (h3 g rfl) (by simp) hn h4 h5.1 h0 (fun j u hj => ?_) h5.2
    have : cur.toList[j]? = some u := by
      rw [← ht, List.getElem?_take] at hj
      split at hj
      · exact hj
      · cases hj
    simp only [World.cell?, hh, Nat.zero_add]
    simpa using this

theorem freezeLeaf_sl {p : Nat → Bool} {G : Nat → Status} {w : World} {t es : Nat} {xs : List AV} {v : Value} (h : VRel G w (.sl t es xs) v) : VRel (freezeG p G) w (freezeLeaf p (.sl t es xs)) v := by
  cases h with
  | froz h =>
    have ht : t < 2 := by cases h <;> assumption
    simp only [freezeLeaf]
    rw [if_neg (by omega)]
    exact .froz (h.mono (fun b => freezeG_stable) (fun _ _ => rfl))
  | own _ _ _ _ e vals h1 h2 h3 h4 h0 h5 =>
    have h5' : PW (FRel (Stable (freezeG p G)) w) (flat xs) vals := h5.mono fun x y _ hr => hr.mono (fun b => freezeG_stable) (fun _ _ => rfl)
    simp only [freezeLeaf]
    by_cases hp : p (root t) = true
    · rw [if_pos ⟨h1, hp⟩]
      exact .froz (own_froz (G := G) (t := t) h2 (fun b hb => by unfold Stable freezeG; rw [h3 b hb]; simp [hp]) h4 h0 h5')
    · rw [if_neg (fun h => hp h.2)]
      exact .own t es xs v e vals h1 h2 (fun b hb => by unfold freezeG; rw [h3 b hb]; simp [hp]) h4 h0 h5'

theorem freezeLeaf_so {p : Nat → Bool} {G : Nat → Status} {w : World} {t : Nat} {xs : List AV} {v : Value} (h : VRel G w (.so t xs) v) : VRel (freezeG p G) w (freezeLeaf p (.so t xs)) v := by
  simp only [freezeLeaf]
  by_cases hp : p (root t) = true
  · rw [if_pos hp]
    refine .froz (h.so_froz (fun x u hx hr => ?_) (fun b hb => by unfold Stable freezeG; rw [hb]; simp [hp]))
    cases hr with
    | froz hr =>
      have hr' := hr.mono (S' := Stable (freezeG p G)) (w' := w) (fun b => freezeG_stable) (fun _ _ => rfl)
      cases x <;> first | exact ⟨hx, hr'⟩ | skip
      rename_i t' es ys
      have : t' < 2 := by cases hr <;> assumption
      simp only [freezeRow]; rw [if_neg (by omega)]; exact ⟨hx, hr'⟩
    | own t' es ys _ e vals h1 hrt h2 h3 h4 h0 h5 =>
      simp only [freezeRow]; rw [if_pos ⟨h1, by rw [hrt]; exact hp⟩]
      exact ⟨rfl, own_froz (G := G) (t := t') h2 (fun b hb => by unfold Stable freezeG; rw [h3 b hb]; simp [hrt, hp]) h4 h0 (h5.mono fun x y _ hr => hr.mono (fun b => freezeG_stable) (fun _ _ => rfl))⟩
  · rw [if_neg hp]
    have ht : 2 ≤ t := by cases h with | froz h => cases h | so _ _ _ _ _ h1 => exact h1
    have := h.so_map (f := id) (G' := freezeG p G) (w' := w) (t' := t) ht (fun x u hx hr => ⟨hx, by
      cases hr with
      | froz hr => exact .froz (hr.mono (fun b => freezeG_stable) (fun _ _ => rfl))
      | own t' es ys _ e vals h1 hrt h2 h3 h4 h0 h5 =>
        exact .own t' es ys _ e vals h1 hrt h2 (fun b hb => by unfold freezeG; rw [h3 b hb]; simp [hrt, hp]) h4 h0 (h5.mono fun x y _ hr => hr.mono (fun b => freezeG_stable) (fun _ _ => rfl))⟩)
      (fun b hb => ⟨by unfold freezeG; rw [hb]; simp [hp], rfl⟩)
    simpa using this

theorem VRel.freeze {p : Nat → Bool} {G : Nat → Status} {w : World} {x : AV} {v : Value} (h : VRel G w x v) : VRel (freezeG p G) w (x.freeze p) v := by
  refine h.mapTop fun x v hx h => ?_
  cases x with
  | sl t es xs => exact freezeLeaf_sl h
  | pe t es xs i o =>
    obtain ⟨b, off, c, h1, h2, rfl⟩ := h.pe_inv
    have := freezeLeaf_sl (p := p) h1
    simp only [freezeLeaf] at this ⊢
    split at this
    · rename_i hp; rw [if_pos hp]; exact .pe _ _ _ _ _ _ _ _ this h2
    · rename_i hp; rw [if_neg hp]; exact .pe _ _ _ _ _ _ _ _ this h2
  | so t xs => exact freezeLeaf_so h
  | po t xs i =>
    obtain ⟨b, off, c, h1, h2, rfl⟩ := h.po_inv
    have := freezeLeaf_so (p := p) h1
    simp only [freezeLeaf] at this ⊢
    split at this
    · rename_i hp; rw [if_pos hp]
      cases this with
      | froz this => exact .froz (this.pe_of (by simp) h2)
      | own _ _ _ _ _ _ h => omega
    · rename_i hp; rw [if_neg hp]; exact this.po_of rfl h2
  | pb i o => obtain ⟨b, hb, rfl⟩ := h.pb_inv; exact .pb _ _ _ (by simp [freezeG, hb])
  | ag cs => simp [AV.leafy] at hx
  | tup cs => simp [AV.leafy] at hx
  | any => exact .froz (.any _)
  | nil => rw [h.nil_inv]; exact .froz .nil
  | ub => obtain ⟨b, rfl⟩ := h.ub_inv; exact .froz (.ub b)
  | sc u => rw [h.sc_inv]; exact .froz (.sc _)
  | fn g caps => cases h with | froz h => exact .froz (h.mono (fun b => freezeG_stable) (fun _ _ => rfl))
  | mp t P k e D =>
    simp only [freezeLeaf]; split
    · exact .froz (.any _)
    · rename_i hp; exact h.mpMono (fun b hb => by simp [freezeG, hb, hp]) (fun _ _ _ _ _ => rfl)
  | cl g caps => exact h.clMono (fun b => freezeG_stable) (fun _ _ => rfl) (fun b i hb => by simp [freezeG, hb])
  | tl t es xs i =>
    obtain ⟨b, off, off', c, h1, h2, h3, _, rfl⟩ := h.tl_inv
    have := freezeLeaf_sl (p := p) h1
    simp only [freezeLeaf] at this ⊢
    split at this
    · rename_i hp; rw [if_pos hp]; exact .froz (.any _)
    · rename_i hp; rw [if_neg hp]; exact .tl _ _ _ _ _ _ _ _ this h2 h3
  | fp cs o => cases h with | froz h => exact .froz (h.mono (fun b => freezeG_stable) (fun _ _ => rfl))

theorem Good.freeze {p : Nat → Bool} {G : Nat → Status} {w : World} (h : Good G w) : Good (freezeG p G) w := by
  have key : ∀ b t, freezeG p G b = .tag t → G b = .tag t := by
    intro b t hb; unfold freezeG at hb
    split at hb
    · rename_i t' ht; split at hb
      · cases hb
      · rw [ht]; exact hb
    · exact hb
  have keyb : ∀ b i, freezeG p G b = .box i → G b = .box i := by
    intro b t hb; unfold freezeG at hb
    split at hb
    · split at hb <;> cases hb
    · exact hb
  refine ⟨fun b hb => h.lt b fun h' => hb ?_, fun b b' t h1 h2 => h.tags b b' t (key _ _ h1) (key _ _ h2), fun b b' i h1 h2 => h.boxes b b' i (keyb _ _ h1) (keyb _ _ h2)⟩
  simp [freezeG, h']

/-! ### forgetting a tag -/
def killRow (t0 : Nat) : AV → AV
  | .sl t es xs => if t = t0 then .any else .sl t es xs
  | x => x
def killLeaf (t0 : Nat) : AV → AV
  | .so t xs => if t = t0 then .any else .so t (xs.map (killRow t0))
  | .po t xs i => if t = t0 then .any else .po t (xs.map (killRow t0)) i
  | .sl t es xs => if t = t0 then .any else .sl t es xs
  | .pe t es xs i o => if t = t0 then .any else .pe t es xs i o
  | .mp t P k e D => if t = t0 then .any else .mp t P k e D
  | .tl t es xs i => if t = t0 then .any else .tl t es xs i
  | x => x
def AV.kill (t0 : Nat) (x : AV) : AV := x.mapTop (killLeaf t0)
def killG (t0 : Nat) (G : Nat → Status) (b : Nat) : Status := if G b = .tag t0 then .junk else G b

theorem killG_stable {t0 : Nat} {G : Nat → Status} {b : Nat} : Stable (killG t0 G) b ↔ Stable G b := by
  unfold Stable killG
  by_cases h : G b = .tag t0
  · simp [h]
  · simp [h]

theorem killLeaf_sl {t0 : Nat} {G : Nat → Status} {w : World} {t es : Nat} {xs : List AV} {v : Value} (ht0 : t ≠ t0) (h : VRel G w (.sl t es xs) v) : VRel (killG t0 G) w (.sl t es xs) v := by
  cases h with
  | froz h => exact .froz (h.mono (fun b => killG_stable.2) (fun _ _ => rfl))
  | own _ _ _ _ e vals h1 h2 h3 h4 h0 h5 =>
    exact .own t es xs v e vals h1 h2 (fun b hb => by unfold killG; rw [h3 b hb, if_neg (by simpa using ht0)]) h4 h0 (h5.mono fun x y _ hr => hr.mono (fun b => killG_stable.2) (fun _ _ => rfl))

theorem killRow_rel {t0 r : Nat} {G : Nat → Status} {w : World} {x : AV} {u : Value} (hx : x.rowLike = true) (hr : LRel G w r x u) : (killRow t0 x).rowLike = true ∧ LRel (killG t0 G) w r (killRow t0 x) u := by
  cases hr with
  | froz hr =>
    have hr' := hr.mono (S' := Stable (killG t0 G)) (w' := w) (fun b => killG_stable.2) (fun _ _ => rfl)
    cases x <;> first | exact ⟨hx, .froz hr'⟩ | skip
    simp only [killRow]; split
    · exact ⟨rfl, .froz (.any _)⟩
    · exact ⟨hx, .froz hr'⟩
  | own t' es ys _ e vals h1 hrt h2 h3 h4 h0 h5 =>
    simp only [killRow]; split
    · exact ⟨rfl, .froz (.any _)⟩
    · rename_i hn
      exact ⟨rfl, .own t' es ys _ e vals h1 hrt h2 (fun b hb => by unfold killG; rw [h3 b hb, if_neg (by simpa using hn)]) h4 h0 (h5.mono fun x y _ hr => hr.mono (fun b => killG_stable.2) (fun _ _ => rfl))⟩

theorem killLeaf_so {t0 : Nat} {G : Nat → Status} {w : World} {t : Nat} {xs : List AV} {v : Value} (hne : t ≠ t0) (h : VRel G w (.so t xs) v) : VRel (killG t0 G) w (.so t (xs.map (killRow t0))) v := by
  have ht : 2 ≤ t := by cases h with | froz h => cases h | so _ _ _ _ _ h1 => exact h1
  exact h.so_map ht (fun x u hx hr => killRow_rel hx hr) (fun b hb => ⟨by unfold killG; rw [hb, if_neg (by simpa using hne)], rfl⟩)

theorem VRel.kill {t0 : Nat} {G : Nat → Status} {w : World} {x : AV} {v : Value} (h : VRel G w x v) : VRel (killG t0 G) w (x.kill t0) v := by
  refine h.mapTop fun x v hx h => ?_
  cases x with
  | sl t es xs =>
    simp only [killLeaf]; split
    · exact .froz (.any _)
    · rename_i hp; exact killLeaf_sl hp h
  | pe t es xs i o =>
    obtain ⟨b, off, c, h1, h2, rfl⟩ := h.pe_inv
    simp only [killLeaf]; split
    · exact .froz (.any _)
    · rename_i hp; exact .pe _ _ _ _ _ _ _ _ (killLeaf_sl hp h1) h2
  | so t xs =>
    simp only [killLeaf]; split
    · exact .froz (.any _)
    · rename_i hp; exact killLeaf_so hp h
  | po t xs i =>
    obtain ⟨b, off, c, h1, h2, rfl⟩ := h.po_inv
    simp only [killLeaf]; split
    · exact .froz (.any _)
    · rename_i hp; exact (killLeaf_so hp h1).po_of (by simp) h2
  | pb i o => obtain ⟨b, hb, rfl⟩ := h.pb_inv; exact .pb _ _ _ (by simp [killG, hb])
  | ag cs => simp [AV.leafy] at hx
  | tup cs => simp [AV.leafy] at hx
  | any => exact .froz (.any _)
  | nil => rw [h.nil_inv]; exact .froz .nil
  | ub => obtain ⟨b, rfl⟩ := h.ub_inv; exact .froz (.ub b)
  | sc u => rw [h.sc_inv]; exact .froz (.sc _)
  | fn g caps => cases h with | froz h => exact .froz (h.mono (fun b => killG_stable.2) (fun _ _ => rfl))
  | mp t P k e D =>
    simp only [killLeaf]; split
    · exact .froz (.any _)
    · rename_i hp; exact h.mpMono (fun b hb => by unfold killG; rw [hb, if_neg (by simpa using hp)]) (fun _ _ _ _ _ => rfl)
  | cl g caps => exact h.clMono (fun b => killG_stable.2) (fun _ _ => rfl) (fun b i hb => by simp [killG, hb])
  | tl t es xs i =>
    obtain ⟨b, off, off', c, h1, h2, h3, _, rfl⟩ := h.tl_inv
    simp only [killLeaf]; split
    · exact .froz (.any _)
    · rename_i hp; exact .tl _ _ _ _ _ _ _ _ (killLeaf_sl hp h1) h2 h3
  | fp cs o => cases h with | froz h => exact .froz (h.mono (fun b => killG_stable.2) (fun _ _ => rfl))

/-! ### other names for the tags -/
def shiftTag (k t : Nat) : Nat := if t < 2 then t else t + k
def shiftRow (k : Nat) : AV → AV
  | .sl t es xs => .sl (shiftTag k t) es xs
  | x => x
def shiftLeaf (k : Nat) : AV → AV
  | .so t xs => .so (shiftTag k t) (xs.map (shiftRow k))
  | .po t xs i => .po (shiftTag k t) (xs.map (shiftRow k)) i
  | .sl t es xs => .sl (shiftTag k t) es xs
  | .pe t es xs i o => .pe (shiftTag k t) es xs i o
  | x => x
def AV.shift (k : Nat) (x : AV) : AV := x.mapTop (shiftLeaf k)
def shiftG (k : Nat) (G : Nat → Status) (b : Nat) : Status :=
  match G b with
  | .tag t => .tag (t + k)
  | s => s

theorem shiftG_stable {k : Nat} {G : Nat → Status} {b : Nat} : Stable (shiftG k G) b ↔ Stable G b := by
  unfold Stable shiftG
  cases h : G b <;> simp

theorem shiftLeaf_sl {k : Nat} {G : Nat → Status} {w : World} {t es : Nat} {xs : List AV} {v : Value} (h : VRel G w (.sl t es xs) v) : VRel (shiftG k G) w (.sl (shiftTag k t) es xs) v := by
  cases h with
  | froz h =>
    have ht : t < 2 := by cases h <;> assumption
    rw [shiftTag, if_pos ht]
    exact .froz (h.mono (fun b => shiftG_stable.2) (fun _ _ => rfl))
  | own _ _ _ _ e vals h1 h2 h3 h4 h0 h5 =>
    rw [shiftTag, if_neg (by omega)]
    exact .own _ es xs v e vals (by omega) h2 (fun b hb => by unfold shiftG; rw [h3 b hb]) h4 h0 (h5.mono fun x y _ hr => hr.mono (fun b => shiftG_stable.2) (fun _ _ => rfl))

/-! ### what has no owner -/
def fzLeaf : AV → Bool
  | .sl t _ _ => decide (t < 2)
  | .pe t _ _ _ _ => decide (t < 2)
  | .pb _ _ => false
  | .ag _ => false
  | .tup _ => false
  | .so _ _ => false
  | .po _ _ _ => false
  | .mp _ _ _ _ _ => false
  | .cl _ _ => false
  | .tl _ _ _ _ => false
  | _ => true
/-- it may be put into a slice -/
def AV.fz : AV → Bool
  | .ag cs => cs.all fzLeaf
  | x => fzLeaf x
/-- it is the value of one cell, or of cells -/
def AV.one : AV → Bool
  | .any => false
  | .tup _ => false
  | .mp _ _ _ _ _ => false
  | .cl _ _ => false
  | .tl _ _ _ _ => false
  | .sc v => v.oneCell'
  | _ => true

theorem VRel.fzLeaf {G : Nat → Status} {w : World} {x : AV} {v : Value} (h : VRel G w x v) (hx : AM.fzLeaf x = true) : FRel (Stable G) w x v := by
  cases h with
  | froz h => exact h
  | own t es xs v e vals h1 => simp [AM.fzLeaf] at hx; omega
  | ag => simp [AM.fzLeaf] at hx
  | tup => simp [AM.fzLeaf] at hx
  | pb => simp [AM.fzLeaf] at hx
  | so => simp [AM.fzLeaf] at hx
  | po => simp [AM.fzLeaf] at hx
  | mp => simp [AM.fzLeaf] at hx
  | cl => simp [AM.fzLeaf] at hx
  | tl => simp [AM.fzLeaf] at hx
  | pe t es xs i o b off c h1 h2 =>
    simp [AM.fzLeaf] at hx
    cases h1 with
    | froz h => exact .pe _ _ _ _ _ _ _ _ h h2
    | own _ _ _ _ e vals h1 => omega

theorem VRel.fz {G : Nat → Status} {w : World} {x : AV} {v : Value} (h : VRel G w x v) (hx : x.fz = true) : FRel (Stable G) w x v := by
  cases x with
  | ag cs =>
    obtain ⟨vs, rfl, h0, h1⟩ := h.ag_inv
    simp only [AV.fz, List.all_eq_true] at hx
    exact .ag cs vs h1.1 h0 fun j x u hxj hu => (h1.2 j x u hxj hu).fzLeaf (hx x (List.mem_of_getElem? hxj))
  | _ => exact h.fzLeaf hx

/-- the cells of what may be put into a slice -/
theorem FRel.cells {S : Nat → Prop} {w : World} {x : AV} {v : Value} (h : FRel S w x v) (h1 : x.one = true) : PW (FRel S w) x.cells v.cells.toList ∧ One v.cells.toList := by
  have leaf : x.leafy = true → x ≠ .any → v.oneCell' = true → PW (FRel S w) x.cells v.cells.toList ∧ One v.cells.toList := by
    intro h2 _ h3
    have hc : x.cells = [x] := by cases x <;> first | rfl | (simp [AV.leafy] at h2)
    have hv : v.cells.toList = [v] := by cases v <;> first | rfl | (simp [Value.oneCell'] at h3)
    rw [hc, hv]
    exact ⟨.cons h (.nil _), fun u hu => by simp at hu; subst hu; exact h3⟩
  cases h with
  | any => simp [AV.one] at h1
  | ag cs vs h2 h0 h3 => exact ⟨⟨h2, h3⟩, h0⟩
  | tup => simp [AV.one] at h1
  | sc v => exact leaf rfl (by simp) (by simpa [AV.one] using h1)
  | _ => exact leaf rfl (by simp) rfl

end Go.AM
