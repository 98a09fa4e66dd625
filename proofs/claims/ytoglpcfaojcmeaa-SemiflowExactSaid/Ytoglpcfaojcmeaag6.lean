/- AmV AmY -/
import Derived.Test.Ytoglpcfaojcmeaag5
import Derived.Lib.SliceRun
import Derived.Laws.CopyRow
namespace Go.AM
open Go.RowKit
def pairN (p i : Nat) : Nat := 2 ^ i * (2 * p + 1)
theorem pairN_pos (p i : Nat) : 0 < pairN p i := Nat.mul_pos (Nat.two_pow_pos i) (by omega)
theorem pairN_inj : ∀ {p q i j : Nat}, pairN p i = pairN q j → p = q ∧ i = j
 | p, q, 0, 0, h => by simp [pairN] at h; exact ⟨by omega, rfl⟩
 | p, q, 0, j + 1, h => by
  exfalso; simp only [pairN, Nat.pow_succ, Nat.pow_zero, Nat.one_mul] at h
  rw [Nat.mul_comm (2 ^ j) 2, Nat.mul_assoc] at h; omega
 | p, q, i + 1, 0, h => by
  exfalso; simp only [pairN, Nat.pow_succ, Nat.pow_zero, Nat.one_mul] at h
  rw [Nat.mul_comm (2 ^ i) 2, Nat.mul_assoc] at h; omega
 | p, q, i + 1, j + 1, h => by
  have h' : pairN p i = pairN q j := by
   simp only [pairN, Nat.pow_succ] at h ⊢
   rw [Nat.mul_comm (2 ^ i) 2, Nat.mul_assoc, Nat.mul_comm (2 ^ j) 2, Nat.mul_assoc] at h; omega
  have := pairN_inj h'
  exact ⟨this.1, by omega⟩
def subT (t i : Nat) : Nat := t % 1048576 + 1048576 * pairN (t / 1048576) i
theorem root_sub (t i : Nat) : root (subT t i) = root t := by unfold root subT; omega
theorem sub_big (t i : Nat) : 1048576 ≤ subT t i := by have := pairN_pos (t / 1048576) i; unfold subT; omega
theorem sub_inj {t s i j : Nat} (h : subT t i = subT s j) : t = s ∧ i = j := by
 have h1 : pairN (t / 1048576) i = pairN (s / 1048576) j := by unfold subT at h; omega
 have h2 : t % 1048576 = s % 1048576 := by unfold subT at h; omega
 have := pairN_inj h1
 exact ⟨by omega, this.2⟩
theorem pairN_gt (p i : Nat) : p < pairN p i := by
 have : 1 * (2 * p + 1) ≤ 2 ^ i * (2 * p + 1) := Nat.mul_le_mul_right _ (Nat.two_pow_pos i)
 unfold pairN; omega
theorem sub_ne (t i : Nat) : subT t i ≠ t := by
 have := pairN_gt (t / 1048576) i
 unfold subT; omega
def retagRow (a b : Nat) : AV → AV
 | .sl t es xs => if t = a then (if root a = root b then .sl b es xs else .any) else if t = b then .any else .sl t es xs
 | x => x
def retagLeaf (a b : Nat) : AV → AV
 | .sl t es xs => if t = a then .sl b es xs else if t = b then .any else .sl t es xs
 | .pe t es xs i o => if t = a then .pe b es xs i o else if t = b then .any else .pe t es xs i o
 | .so t xs => if t = a then .any else if t = b then .any else .so t (xs.map (retagRow a b))
 | .po t xs i => if t = a then .any else if t = b then .any else .po t (xs.map (retagRow a b)) i
 | .mp t P k e D => if t = a then .any else if t = b then .any else .mp t P k e D
 | .tl _ _ _ _ => .any
 | x => x
def retagG (a b : Nat) (G : Nat → Status) (k : Nat) : Status := if G k = .tag a then .tag b else if G k = .tag b then .junk else G k
section
variable {a b : Nat} {G : Nat → Status} {w : World}
theorem retagG_stable {k : Nat} (h : Stable G k) : Stable (retagG a b G) k := by unfold Stable at *; simp [retagG, h]
theorem retagG_tag {k t : Nat} (h : G k = .tag t) (h1 : t ≠ a) (h2 : t ≠ b) : retagG a b G k = .tag t := by simp [retagG, h, h1, h2]
theorem Good.retag (hg : Good G w) : Good (retagG a b G) w := by
 have key : ∀ k t, retagG a b G k = .tag t → (G k = .tag a ∧ t = b) ∨ (G k = .tag t ∧ t ≠ a ∧ t ≠ b) := by
  intro k t h
  unfold retagG at h
  split at h
  ·cases h; exact .inl ⟨by assumption, rfl⟩
  ·split at h
   ·cases h
   ·rename_i h1 h2; exact .inr ⟨h, fun e => h1 (by rw [h, e]), fun e => h2 (by rw [h, e])⟩
 have keyb : ∀ k i, retagG a b G k = .box i → G k = .box i := by
  intro k i h
  unfold retagG at h
  split at h
  ·cases h
  ·split at h
   ·cases h
   ·exact h
 refine ⟨fun k h => hg.lt k fun h' => h (by simp [retagG, h']), fun k k' t h1 h2 => ?_, fun k k' i h1 h2 => hg.boxes k k' i (keyb k i h1) (keyb k' i h2)⟩
 rcases key k t h1 with ⟨h1, e1⟩ | ⟨h1, e1, e1'⟩ <;> rcases key k' t h2 with ⟨h2, e2⟩ | ⟨h2, e2, e2'⟩
 ·exact hg.tags k k' a h1 h2
 ·exact absurd e1 e2'
 ·exact absurd e2 e1'
 ·exact hg.tags k k' t h1 h2
theorem retagRow_rel {r : Nat} {x : AV} {u : Value} (ha : 2 ≤ a) (hb : 2 ≤ b) (hx : x.rowLike = true) (hr : LRel G w r x u) : (retagRow a b x).rowLike = true ∧ LRel (retagG a b G) w r (retagRow a b x) u := by
 cases hr with
 | froz hr =>
  have hr' := hr.mono (S' := Stable (retagG a b G)) (w' := w) (fun b => retagG_stable) (fun _ _ => rfl)
  cases x <;> first | exact ⟨hx, .froz hr'⟩ | skip
  rename_i t es xs
  have ht : t < 2 := by cases hr <;> assumption
  simp only [retagRow]
  rw [if_neg (by omega), if_neg (by omega)]
  exact ⟨rfl, .froz hr'⟩
 | own t es xs _ e vals h1 hrt h2 h3 h4 h0 h5 =>
  have h5' := h5.mono fun x y _ hr => hr.mono (S' := Stable (retagG a b G)) (w' := w) (fun b => retagG_stable) (fun _ _ => rfl)
  simp only [retagRow]
  split
  ·rename_i hta
   subst hta
   split
   ·rename_i hrr
    exact ⟨rfl, .own b es xs _ e vals hb (by omega) h2 (fun k hk => by simp [retagG, h3 k hk]) h4 h0 h5'⟩
   ·exact ⟨rfl, .froz (.any _)⟩
  ·split
   ·exact ⟨rfl, .froz (.any _)⟩
   ·rename_i h6 h7
    exact ⟨rfl, .own t es xs _ e vals h1 hrt h2 (fun k hk => retagG_tag (h3 k hk) h6 h7) h4 h0 h5'⟩
theorem retag_so {t : Nat} {xs : List AV} {v : Value} (ha : 2 ≤ a) (hb : 2 ≤ b) (h1 : t ≠ a) (h2 : t ≠ b) (h : VRel G w (.so t xs) v) : VRel (retagG a b G) w (.so t (xs.map (retagRow a b))) v :=
 h.so_map h.so_two (fun _ _ hx hr => retagRow_rel ha hb hx hr) (fun _k hk => ⟨retagG_tag hk h1 h2, rfl⟩)
theorem retag_sl {t es : Nat} {xs : List AV} {v : Value} (ha : 2 ≤ a) (hb : 2 ≤ b) (h : VRel G w (.sl t es xs) v) : VRel (retagG a b G) w (retagLeaf a b (.sl t es xs)) v := by
 have hF : ∀ {x v}, FRel (Stable G) w x v → FRel (Stable (retagG a b G)) w x v := fun hr => hr.mono (fun b => retagG_stable) (fun _ _ => rfl)
 simp only [retagLeaf]
 cases h with
 | froz h =>
  have : t < 2 := by cases h <;> assumption
  rw [if_neg (by omega), if_neg (by omega)]
  exact .froz (hF h)
 | own _ _ _ _ e vals h1 h2 h3 h4 h0 h5 =>
  have h5' := h5.mono fun x y _ hr => hF hr
  split
  ·rename_i hta; subst hta
   exact .own b es xs _ e vals hb h2 (fun k hk => by simp [retagG, h3 k hk]) h4 h0 h5'
  ·split
   ·exact .froz (.any _)
   ·rename_i h6 h7
    exact .own t es xs _ e vals h1 h2 (fun k hk => retagG_tag (h3 k hk) h6 h7) h4 h0 h5'
theorem VRel.retag {x : AV} {v : Value} (ha : 2 ≤ a) (hb : 2 ≤ b) (h : VRel G w x v) : VRel (retagG a b G) w (x.mapTop (retagLeaf a b)) v := by
 have hF : ∀ {x v}, FRel (Stable G) w x v → FRel (Stable (retagG a b G)) w x v := fun hr => hr.mono (fun b => retagG_stable) (fun _ _ => rfl)
 refine h.mapTop fun x v hx h => ?_
 cases x with
 | sl t es xs => exact retag_sl ha hb h
 | pe t es xs i o =>
  obtain ⟨b', off, c, h1, h2, rfl⟩ := h.pe_inv
  have := retag_sl (a := a) (b := b) ha hb h1
  simp only [retagLeaf] at this ⊢
  split at this
  ·rename_i hp; rw [if_pos hp]; exact .pe _ _ _ _ _ _ _ _ this h2
  ·rename_i hp; rw [if_neg hp]
   split at this
   ·rename_i hp; rw [if_pos hp]; exact .froz (.any _)
   ·rename_i hp; rw [if_neg hp]; exact .pe _ _ _ _ _ _ _ _ this h2
 | so t xs =>
  simp only [retagLeaf]
  split
  ·exact .froz (.any _)
  ·split
   ·exact .froz (.any _)
   ·rename_i h1 h2; exact retag_so ha hb h1 h2 h
 | po t xs i =>
  obtain ⟨b', off, c, h3, h4, rfl⟩ := h.po_inv
  simp only [retagLeaf]
  split
  ·exact .froz (.any _)
  ·split
   ·exact .froz (.any _)
   ·rename_i h1 h2; exact (retag_so ha hb h1 h2 h3).po_of (by simp) h4
 | pb i o => obtain ⟨k, hk, rfl⟩ := h.pb_inv; exact .pb _ _ _ (by simp [retagG, hk])
 | ag cs => simp [AV.leafy] at hx
 | tup cs => simp [AV.leafy] at hx
 | any => exact .froz (.any _)
 | nil => rw [h.nil_inv]; exact .froz .nil
 | ub => obtain ⟨b, rfl⟩ := h.ub_inv; exact .froz (.ub b)
 | sc u => rw [h.sc_inv]; exact .froz (.sc _)
 | fn g caps => cases h with | froz h => exact .froz (hF h)
 | mp t P k e D =>
  simp only [retagLeaf]; split
  ·exact .froz (.any _)
  ·split
   ·exact .froz (.any _)
   ·rename_i h1 h2; exact h.mpMono (fun k hk => retagG_tag hk h1 h2) (fun _ _ _ _ _ => rfl)
 | cl g caps => exact h.clMono (fun b => retagG_stable) (fun _ _ => rfl) (fun b i hb => by simp [retagG, hb])
 | tl t es xs i => exact .froz (.any _)
 | fp cs o => cases h with | froz h => exact .froz (hF h)
theorem SRel.retag {G0 w0 σ a'} (h : SRel G0 w0 σ G a' w) (_h0 : True) (ha : 2 ≤ a) (hb : 2 ≤ b) : SRel G0 w0 (σ.map (retagLeaf a b)) (retagG a b G) a' w :=
 { h with
  good := h.good.retag
  slots := fun s => by
   have : (σ.map (retagLeaf a b)).get s = (σ.get s).mapTop (retagLeaf a b) := lookT_map rfl σ.tmps s
   rw [this]; exact (h.slots s).retag ha hb
  boxes := ⟨fun i vs hv => by have := h.boxes.low i vs hv; simpa [St.map, mapB_eq] using this, fun i cs hi => by
   simp only [St.map, mapB_eq, List.getElem?_map] at hi
   cases hc : σ.boxes[i]? with
   | none => simp [hc] at hi
   | some cs' =>
    simp [hc] at hi; subst hi
    rw [mapTops_eq]
    refine (h.boxes.cell i cs' hc).map (fun x v hr => hr.retag ha hb) (fun k hk => ⟨by simp [retagG, hk], rfl⟩) fun h0 k hk => h0 k ?_
    unfold retagG at hk; split at hk
    ·cases hk
    ·split at hk
     ·cases hk
     ·exact hk⟩
  blt := fun k i hk => by
   have : G k = .box i := by
    unfold retagG at hk; split at hk
    ·cases hk
    ·split at hk
     ·cases hk
     ·exact hk
   have := h.blt k i this
   simpa [St.map, mapB_eq] using this
  size := h.size
  stat := fun k hk hnt => by
   have := h.stat k hk hnt
   unfold retagG
   rw [if_neg (by rw [this]; exact hnt a), if_neg (by rw [this]; exact hnt b)]
   exact this }
def mvT (_a b t : Nat) : Nat := b + 1048576 * (t / 1048576)
def mvRow (a b : Nat) : AV → AV
 | .sl t es xs => if root t = a then .sl (mvT a b t) es xs else .sl t es xs
 | x => x
def mvLeaf (a b : Nat) : AV → AV
 | .sl t es xs => if root t = a then .sl (mvT a b t) es xs else if root t = b then .any else .sl t es xs
 | .pe t es xs i o => if root t = a then .pe (mvT a b t) es xs i o else if root t = b then .any else .pe t es xs i o
 | .so t xs => if root t = a then .so (mvT a b t) (xs.map (mvRow a b)) else if root t = b then .any else .so t xs
 | .po t xs i => if root t = a then .po (mvT a b t) (xs.map (mvRow a b)) i else if root t = b then .any else .po t xs i
 | .mp t P k e D => if root t = a then .any else if root t = b then .any else .mp t P k e D
 | .tl _ _ _ _ => .any
 | x => x
def mvG (a b : Nat) (G : Nat → Status) (k : Nat) : Status :=
 match G k with
 | .tag t => if root t = a then .tag (mvT a b t) else if root t = b then .junk else .tag t
 | s => s
theorem mvG_stable {k : Nat} (h : Stable G k) : Stable (mvG a b G) k := by unfold Stable at *; simp [mvG, h]
theorem mvG_box {k i : Nat} (h : mvG a b G k = .box i) : G k = .box i := by
 unfold mvG at h
 split at h
 ·split at h
  ·cases h
  ·split at h <;> cases h
 ·exact h
theorem mvT_root {t : Nat} (hb : b < 1048576) : root (mvT a b t) = b := by unfold root mvT; omega
theorem mvT_two {t : Nat} (hb : 2 ≤ b) : 2 ≤ mvT a b t := by unfold mvT; omega
theorem mvG_keep {k t : Nat} (h : G k = .tag t) (h1 : root t ≠ a) (h2 : root t ≠ b) : mvG a b G k = .tag t := by simp [mvG, h, h1, h2]
theorem mvG_move {k t : Nat} (h : G k = .tag t) (h1 : root t = a) : mvG a b G k = .tag (mvT a b t) := by simp [mvG, h, h1]
theorem Good.mv (hg : Good G w) (hb : b < 1048576) : Good (mvG a b G) w := by
 have key : ∀ k t, mvG a b G k = .tag t → (∃ t', G k = .tag t' ∧ root t' = a ∧ t = mvT a b t') ∨ (G k = .tag t ∧ root t ≠ a ∧ root t ≠ b) := by
  intro k t h
  unfold mvG at h
  split at h
  ·rename_i t' ht'
   split at h
   ·rename_i hr; cases h; exact .inl ⟨t', ht', hr, rfl⟩
   ·split at h
    ·cases h
    ·rename_i h1 h2; cases h; exact .inr ⟨ht', h1, h2⟩
  ·rename_i hn; exact absurd h (hn t)
 refine ⟨fun k h => hg.lt k fun h' => h (by simp [mvG, h']), fun k k' t h1 h2 => ?_, fun k k' i h1 h2 => hg.boxes k k' i (mvG_box h1) (mvG_box h2)⟩
 rcases key k t h1 with ⟨t1, g1, e1, rfl⟩ | ⟨g1, e1, e1'⟩ <;> rcases key k' _ h2 with ⟨t2, g2, e2, e3⟩ | ⟨g2, e2, e2'⟩
 ·have : t1 = t2 := by unfold mvT at e3; unfold root at e1 e2; omega
  subst this; exact hg.tags k k' _ g1 g2
 ·exact absurd (mvT_root hb) e2'
 ·exact absurd (by rw [e3]; exact mvT_root hb) e1'
 ·exact hg.tags k k' _ g1 g2
theorem mv_sl {t es : Nat} {xs : List AV} {v : Value} (ha : 2 ≤ a) (hb : 2 ≤ b) (h : VRel G w (.sl t es xs) v) : VRel (mvG a b G) w (mvLeaf a b (.sl t es xs)) v := by
 simp only [mvLeaf]
 cases h with
 | froz h =>
  have : t < 2 := by cases h <;> assumption
  have hr : root t = t := by unfold root; omega
  rw [if_neg (by omega), if_neg (by omega)]
  exact .froz (h.mono (fun b => mvG_stable) (fun _ _ => rfl))
 | own _ _ _ _ e vals h1 h2 h3 h4 h0 h5 =>
  have h5' := h5.mono fun x y _ hr => hr.mono (S' := Stable (mvG a b G)) (w' := w) (fun b => mvG_stable) (fun _ _ => rfl)
  split
  ·rename_i hr
   exact .own _ es xs v e vals (mvT_two hb) h2 (fun k hk => mvG_move (h3 k hk) hr) h4 h0 h5'
  ·split
   ·exact .froz (.any _)
   ·rename_i k1 k2
    exact .own t es xs v e vals h1 h2 (fun k hk => mvG_keep (h3 k hk) k1 k2) h4 h0 h5'
theorem mv_so {t : Nat} {xs : List AV} {v : Value} (ha : 2 ≤ a) (hb : 2 ≤ b) (hb2 : b < 1048576) (h1 : root t = a) (h : VRel G w (.so t xs) v) : VRel (mvG a b G) w (.so (mvT a b t) (xs.map (mvRow a b))) v := by
 refine h.so_map (mvT_two hb) (fun x u hx hr => ?_) (fun k hk => ⟨mvG_move hk h1, rfl⟩)
 cases hr with
 | froz hr =>
  have hr' := hr.mono (S' := Stable (mvG a b G)) (w' := w) (fun b => mvG_stable) (fun _ _ => rfl)
  cases x <;> first | exact ⟨hx, .froz hr'⟩ | skip
  rename_i t' es ys
  have ht : t' < 2 := by cases hr <;> assumption
  have hrt : root t' = t' := by unfold root; omega
  simp only [mvRow]; rw [if_neg (by omega)]; exact ⟨hx, .froz hr'⟩
 | own t' es ys _ e vals k1 hrt k2 k3 k4 k0 k5 =>
  simp only [mvRow]; rw [if_pos (by rw [hrt]; exact h1)]
  refine ⟨rfl, .own _ es ys _ e vals (mvT_two hb) (by rw [mvT_root hb2, mvT_root hb2]) k2 (fun k hk => mvG_move (k3 k hk) (by rw [hrt]; exact h1)) k4 k0 (k5.mono fun x y _ hr => hr.mono (fun b => mvG_stable) (fun _ _ => rfl))⟩
theorem mv_so0 {t : Nat} {xs : List AV} {v : Value} (h1 : root t ≠ a) (h2 : root t ≠ b) (h : VRel G w (.so t xs) v) : VRel (mvG a b G) w (.so t xs) v := by
 have := h.so_map (G' := mvG a b G) (w' := w) (f := id) h.so_two (fun x u hx hr => ⟨hx, by
  cases hr with
  | froz hr => exact .froz (hr.mono (fun b => mvG_stable) (fun _ _ => rfl))
  | own t' es ys _ e vals k1 hrt k2 k3 k4 k0 k5 =>
   exact .own t' es ys _ e vals k1 hrt k2 (fun k hk => mvG_keep (k3 k hk) (by rw [hrt]; exact h1) (by rw [hrt]; exact h2)) k4 k0 (k5.mono fun x y _ hr => hr.mono (fun b => mvG_stable) (fun _ _ => rfl))⟩)
  (fun k hk => ⟨mvG_keep hk h1 h2, rfl⟩)
 simpa using this
theorem VRel.mv {x : AV} {v : Value} (ha : 2 ≤ a) (hb : 2 ≤ b) (hb2 : b < 1048576) (h : VRel G w x v) : VRel (mvG a b G) w (x.mapTop (mvLeaf a b)) v := by
 have hF : ∀ {x v}, FRel (Stable G) w x v → FRel (Stable (mvG a b G)) w x v := fun hr => hr.mono (fun b => mvG_stable) (fun _ _ => rfl)
 refine h.mapTop fun x v hx h => ?_
 cases x with
 | sl t es xs => exact mv_sl ha hb h
 | pe t es xs i o =>
  obtain ⟨b', off, c, h1, h2, rfl⟩ := h.pe_inv
  have := mv_sl (a := a) (b := b) ha hb h1
  simp only [mvLeaf] at this ⊢
  split at this
  ·rename_i hr; rw [if_pos hr]; exact .pe _ _ _ _ _ _ _ _ this h2
  ·rename_i hr; rw [if_neg hr]
   split at this
   ·rename_i hr2; rw [if_pos hr2]; exact .froz (.any _)
   ·rename_i hr2; rw [if_neg hr2]; exact .pe _ _ _ _ _ _ _ _ this h2
 | so t xs =>
  simp only [mvLeaf]; split
  ·rename_i hr; exact mv_so ha hb hb2 hr h
  ·split
   ·exact .froz (.any _)
   ·rename_i k1 k2; exact mv_so0 k1 k2 h
 | po t xs i =>
  obtain ⟨b', off, c, h1, h2, rfl⟩ := h.po_inv
  simp only [mvLeaf]; split
  ·rename_i hr; exact (mv_so ha hb hb2 hr h1).po_of (by simp) h2
  ·split
   ·exact .froz (.any _)
   ·rename_i k1 k2; exact (mv_so0 k1 k2 h1).po_of rfl h2
 | tl t es xs i => exact .froz (.any _)
 | pb i o => obtain ⟨b, hb, rfl⟩ := h.pb_inv; exact .pb _ _ _ (by simp [mvG, hb])
 | ag cs => simp [AV.leafy] at hx
 | tup cs => simp [AV.leafy] at hx
 | any => exact .froz (.any _)
 | nil => rw [h.nil_inv]; exact .froz .nil
 | ub => obtain ⟨b, rfl⟩ := h.ub_inv; exact .froz (.ub b)
 | sc u => rw [h.sc_inv]; exact .froz (.sc _)
 | fn g caps => cases h with | froz h => exact .froz (hF h)
 | mp t P k e D =>
  simp only [mvLeaf]; split
  ·exact .froz (.any _)
  ·split
   ·exact .froz (.any _)
   ·rename_i h1 h2; exact h.mpMono (fun k hk => mvG_keep hk h1 h2) (fun _ _ _ _ _ => rfl)
 | cl g caps => exact h.clMono (fun b => mvG_stable) (fun _ _ => rfl) (fun b i hb => by simp [mvG, hb])
 | fp cs o => cases h with | froz h => exact .froz (hF h)
theorem SRel.mv {G0 w0 σ a'} (h : SRel G0 w0 σ G a' w) (_h0 : True) (ha : 2 ≤ a) (hb : 2 ≤ b) (hb2 : b < 1048576) : SRel G0 w0 (σ.map (mvLeaf a b)) (mvG a b G) a' w :=
 { h with
  good := h.good.mv hb2
  slots := fun s => by
   have : (σ.map (mvLeaf a b)).get s = (σ.get s).mapTop (mvLeaf a b) := lookT_map rfl σ.tmps s
   rw [this]; exact (h.slots s).mv ha hb hb2
  boxes := ⟨fun i vs hv => by have := h.boxes.low i vs hv; simpa [St.map, mapB_eq] using this, fun i cs hi => by
   simp only [St.map, mapB_eq, List.getElem?_map] at hi
   cases hc : σ.boxes[i]? with
   | none => simp [hc] at hi
   | some cs' =>
    simp [hc] at hi; subst hi
    rw [mapTops_eq]
    exact (h.boxes.cell i cs' hc).map (fun x v hr => hr.mv ha hb hb2) (fun k hk => ⟨by simp [mvG, hk], rfl⟩) fun h0 k hk => h0 k (mvG_box hk)⟩
  blt := fun k i hk => by
   have := h.blt k i (mvG_box hk)
   simpa [St.map, mapB_eq] using this
  size := h.size
  stat := fun k hk hnt => by
   have := h.stat k hk hnt
   cases hs : G k with
   | tag t => exact absurd (by rw [← this]; exact hs) (hnt t)
   | _ => simp only [mvG, hs]; rw [← hs]; exact this }
def exact (vals : List Value) : List AV := vals.map .sc
theorem exact_rel {S : Nat → Prop} {vals : List Value} : PW (FRel S w) (flat (exact vals)) vals := by
 have : flat (exact vals) = exact vals := by
  unfold exact
  induction vals with
  | nil => rfl
  | cons v vals ih => simp only [flat, List.map_cons, List.flatMap_cons, AV.cells] at ih ⊢; rw [ih]; rfl
 rw [this]
 refine ⟨by simp [exact], fun j x u hx hu => ?_⟩
 simp only [exact, List.getElem?_map, hu, Option.map_some, Option.some.injEq] at hx
 subst hx; exact .sc _
theorem exact_wide (vals : List Value) : ∀ x ∈ exact vals, x.cells.length = 1 := fun x hx => by
 obtain ⟨v, _, rfl⟩ := List.mem_map.1 hx; rfl
theorem exact_len (vals : List Value) : (exact vals).length = vals.length := by simp [exact]
theorem exact_app (l l' : List Value) : exact l ++ exact l' = exact (l ++ l') := by simp [exact]
theorem FRel.sc_val {S : Nat → Prop} {u v : Value} (h : FRel S w (.sc u) v) : v = u := by cases h; rfl
theorem FRel.sl_lt {S : Nat → Prop} {t es : Nat} {xs : List AV} {v : Value} (h : FRel S w (.sl t es xs) v) : t < 2 := by cases h <;> assumption
theorem exact_inv {S : Nat → Prop} {l l' : List Value} (h : PW (FRel S w) (flat (exact l)) l') : l' = l := by
 have h2 := exact_rel (w := w) (S := S) (vals := l)
 have hl : l.length = l'.length := by rw [← h.1, h2.1]
 apply List.ext_getElem? 
 intro j
 by_cases hj : j < l.length
 ·have hfl : j < (flat (exact l)).length := by rw [h2.1]; exact hj
  have g1 := h2.2 j _ _ (List.getElem?_eq_getElem hfl) (List.getElem?_eq_getElem hj)
  have g2 := h.2 j _ _ (List.getElem?_eq_getElem hfl) (List.getElem?_eq_getElem (by omega : j < l'.length))
  have hx : (flat (exact l))[j] = .sc l[j] := by
   have : flat (exact l) = exact l := by
    unfold exact
    clear h h2 hl g1 g2 hfl hj
    induction l with
    | nil => rfl
    | cons v vals ih => simp only [flat, List.map_cons, List.flatMap_cons, AV.cells] at ih ⊢; rw [ih]; rfl
   simp only [this]; simp [exact]
  rw [hx] at g2
  have g3 := g2.sc_val
  simp only [List.getElem?_eq_getElem hj, List.getElem?_eq_getElem (by omega : j < l'.length), g3]
 ·simp [hj, show ¬ j < l'.length by omega]
theorem VRel.so_exact {t : Nat} {xs : List AV} {v : Value} (h : VRel G w (.so t xs) v) : ∃ vals, VRel G w (.sl t 1 (exact vals)) v ∧ PW (LRel G w (root t)) xs vals ∧ One vals ∧ ∀ x ∈ xs, x.rowLike = true := by
 cases h with
 | froz h => cases h
 | so _ _ _ e vals h1 h2 h3 h4 h0 h5 =>
  exact ⟨vals, .own t 1 (exact vals) v e vals h1 (by rw [exact_len, ← h5.1]; exact h2) h3 (exact_wide vals) h0 exact_rel, h5, h0, h4⟩
theorem VRel.so_of {t : Nat} {xs : List AV} {v : Value} {vals : List Value} (ht : 2 ≤ t) (h : VRel G w (.sl t 1 (exact vals)) v) (hx : PW (LRel G w (root t)) xs vals) (hr : ∀ x ∈ xs, x.rowLike = true) : VRel G w (.so t xs) v := by
 generalize hE : exact vals = E at h
 cases h with
 | froz h => have := h.sl_lt; omega
 | own _ _ _ _ e vals' h1 h2 h3 h4 h0 h5 =>
  subst hE
  have := exact_inv h5
  subst this
  exact .so t xs v e vals' h1 (by rw [hx.1, ← exact_len vals']; exact h2) h3 hr h0 hx
def putLeaf (t i : Nat) (y : AV) : AV → AV
 | .so t' xs => if t' = t then .so t ((xs.map (killRow t)).set i y) else .so t' (xs.map (killRow t))
 | .po t' xs j => if t' = t then .po t ((xs.map (killRow t)).set i y) j else .po t' (xs.map (killRow t)) j
 | .sl t' es xs => if t' = t then .any else .sl t' es xs
 | .pe t' es xs j o => if t' = t then .any else .pe t' es xs j o
 | .tl _ _ _ _ => .any
 | x => x
theorem VRel.put {t i b : Nat} {y : AV} {u : Value} {cur : Array Value} {e : TypeId} (hg : Good G w) (ht : 2 ≤ t) (hb : G b = .tag t) (hh : w.heap[b]? = some (.cells cur e (0, 0))) (h1 : u.oneCell' = true)
  (hy : y.rowLike = true) (hL : LRel G w (root t) y u) (hyt : ∀ es xs, y ≠ .sl t es xs) {x : AV} {v : Value} (h : VRel G w x v) :
  VRel G (w.setRow b (cur.toList.set i u).toArray) (x.mapTop (putLeaf t i y)) v := by
 have hset := setRow_heap w b cur (cur.toList.set i u).toArray e (0, 0) hh
 have hne : ∀ {k t'}, G k = .tag t' → t' ≠ t → k ≠ b := fun hk htt e => by subst e; rw [hb] at hk; cases hk; exact htt rfl
 have hF : ∀ {x v}, FRel (Stable G) w x v → FRel (Stable G) (w.setRow b (cur.toList.set i u).toArray) x v := fun hr =>
  hr.mono (fun _ h => h) (fun b' hb' => heap_setRow_ne (fun h => by subst h; unfold Stable at hb'; rw [hb] at hb'; cases hb'))
 have hsl : ∀ {t' es xs v}, t' ≠ t → VRel G w (.sl t' es xs) v → VRel G (w.setRow b (cur.toList.set i u).toArray) (.sl t' es xs) v := by
  intro t' es xs v htt h
  cases h with
  | froz h => exact .froz (hF h)
  | own _ _ _ _ e' vals h2 h3 h4 h5 h0 h6 =>
   exact .own t' es xs v e' vals h2 (ownsRow_congr h3 fun k hk => heap_setRow_ne (hne (h4 k hk) htt)) h4 h5 h0 (h6.mono fun x y _ hr => hF hr)
 have hrow : ∀ {r x u'}, (∀ es xs, x ≠ .sl t es xs) → LRel G w r x u' → LRel G (w.setRow b (cur.toList.set i u).toArray) r x u' := by
  intro r x u' hx hr
  cases hr with
  | froz hr => exact .froz (hF hr)
  | own t' es xs _ e' vals h2 hrt h3 h4 h5 h0 h6 =>
   exact .own t' es xs _ e' vals h2 hrt (ownsRow_congr h3 fun k hk => heap_setRow_ne (hne (h4 k hk) (fun e => hx es xs (by rw [e])))) h4 h5 h0 (h6.mono fun x y _ hr => hF hr)
 have hkr : ∀ {r x u'}, x.rowLike = true → LRel G w r x u' → (killRow t x).rowLike = true ∧ LRel G (w.setRow b (cur.toList.set i u).toArray) r (killRow t x) u' := by
  intro r x u' hx hr
  by_cases hs : ∃ es xs, x = .sl t es xs
  ·obtain ⟨es, xs, rfl⟩ := hs
   simp only [killRow, if_true]
   exact ⟨rfl, .froz (.any _)⟩
  ·have hx' : ∀ es xs, x ≠ .sl t es xs := fun es xs e => hs ⟨es, xs, e⟩
   have e : killRow t x = x := by
    cases x <;> first | rfl | skip
    simp only [killRow]; split
    ·rename_i htt; subst htt; exact absurd rfl (hx' _ _)
    ·rfl
   rw [e]; exact ⟨hx, hrow hx' hr⟩
 have hso : ∀ {t' xs v}, VRel G w (.so t' xs) v → VRel G (w.setRow b (cur.toList.set i u).toArray) (if t' = t then .so t ((xs.map (killRow t)).set i y) else .so t' (xs.map (killRow t))) v := by
  intro t' xs v h
  by_cases htt : t' = t
  ·subst htt
   rw [if_pos rfl]
   cases h with
   | froz h => cases h
   | so _ _ _ e' vals g1 g2 g3 g4 g0 g5 =>
   have hlen : ((xs.map (killRow t')).set i y).length = xs.length := by simp
   have hlk : ∀ z ∈ xs.map (killRow t'), z.rowLike = true := fun z hz => by
    obtain ⟨x, hx, rfl⟩ := List.mem_map.1 hz
    obtain ⟨j, hj⟩ := List.getElem?_of_mem hx
    have hjl : j < vals.length := by rw [← g5.1]; exact (List.getElem?_eq_some_iff.1 hj).1
    exact (hkr (g4 x hx) (g5.2 j x _ hj (List.getElem?_eq_getElem hjl))).1
   have hpw : PW (LRel G (w.setRow b (cur.toList.set i u).toArray) (root t')) ((xs.map (killRow t')).set i y) (vals.set i u) := by
    refine PW.set ⟨by simpa using g5.1, fun j z u' hz hu' => ?_⟩ i (hrow hyt hL)
    rw [List.getElem?_map] at hz
    cases hx : xs[j]? with
    | none => simp [hx] at hz
    | some x => simp [hx] at hz; subst hz; exact (hkr (g4 x (List.mem_of_getElem? hx)) (g5.2 j x u' hx hu')).2
   refine .so t' _ v e (vals.set i u) g1 ?_ g3 (fun z hz => ?_) (fun z hz => ?_) hpw
   ·rcases g2.2 with ⟨hv, hn⟩ | ⟨g, cap, cur', hv, hgb, hh', hnc, hcm, hcs, hct⟩
    ·exact ⟨by rw [List.length_set, hlen]; exact g2.1, .inl ⟨hv, by rw [hlen]; exact hn⟩⟩
    ·subst hv
     obtain rfl := hg.tags _ _ _ (g3 g rfl) hb
     rw [hh] at hh'
     simp only [Option.some.injEq, Obj.cells.injEq, and_true] at hh'
     obtain ⟨rfl, rfl⟩ := hh'
     refine ⟨by rw [List.length_set, hlen]; exact g2.1, .inr ⟨g, cap, _, by rw [hlen], Nat.zero_le _, hset, by rw [hlen]; exact hnc, hcm, by simpa using hcs, ?_⟩⟩
     rw [hlen]; simp only [List.take_set]; rw [hct]
   ·rcases List.mem_or_eq_of_mem_set hz with h' | h'
    ·exact hlk z h'
    ·rw [h']; exact hy
   ·rcases List.mem_or_eq_of_mem_set hz with h' | h'
    ·exact g0 z h'
    ·rw [h']; exact h1
  ·rw [if_neg htt]
   exact h.so_map h.so_two (fun x u' hx hr => hkr hx hr) (fun k hk => ⟨hk, heap_setRow_ne (hne hk htt)⟩)
 refine h.mapTop fun x v hx h => ?_
 cases x with
 | sl t' es xs =>
  simp only [putLeaf]; split
  ·exact .froz (.any _)
  ·rename_i htt; exact hsl htt h
 | pe t' es xs j o =>
  obtain ⟨b', off, c, h2, h3, rfl⟩ := h.pe_inv
  simp only [putLeaf]; split
  ·exact .froz (.any _)
  ·rename_i htt; exact .pe _ _ _ _ _ _ _ _ (hsl htt h2) h3
 | so t' xs => simp only [putLeaf]; exact hso h
 | po t' xs j =>
  obtain ⟨b', off, c, h2, h3, rfl⟩ := h.po_inv
  have := hso h2
  simp only [putLeaf]
  split at this
  ·rename_i htt; rw [if_pos htt]; exact this.po_of (by simp) h3
  ·rename_i htt; rw [if_neg htt]; exact this.po_of (by simp) h3
 | pb j o => obtain ⟨k, hk, rfl⟩ := h.pb_inv; exact .pb _ _ _ hk
 | ag cs => simp [AV.leafy] at hx
 | tup cs => simp [AV.leafy] at hx
 | any => exact .froz (.any _)
 | nil => rw [h.nil_inv]; exact .froz .nil
 | ub => obtain ⟨b, rfl⟩ := h.ub_inv; exact .froz (.ub b)
 | sc u => rw [h.sc_inv]; exact .froz (.sc _)
 | fn g caps => cases h with | froz h => exact .froz (hF h)
 | mp t' P k e' D => exact h.mpMono (fun _ hb => hb) (fun b' es cl _ hm => heap_setRow_ne (fun h => by subst h; rw [hh] at hm; cases hm))
 | cl g caps => exact h.clMono (fun _ h => h) (fun b' hb' => heap_setRow_ne (fun h => by subst h; unfold Stable at hb'; rw [hb] at hb'; cases hb')) (fun _ _ h => h)
 | tl t es xs i => exact .froz (.any _)
 | fp cs o => cases h with | froz h => exact .froz (hF h)
end
theorem flat_set {y : AV} (hy : y.cells = [y]) : ∀ (xs : List AV) (i : Nat), (∀ x ∈ xs, x.cells.length = 1) → flat (xs.set i y) = (flat xs).set i y
 | [], i, _ => by simp [flat]
 | x :: xs, 0, h => by
  obtain ⟨c, hc⟩ : ∃ c, x.cells = [c] := by
   have := h x (by simp)
   cases hx : x.cells with
   | nil => simp [hx] at this
   | cons c r => cases r with
    | nil => exact ⟨c, rfl⟩
    | cons _ _ => simp [hx] at this
  simp [flat, hy, hc]
 | x :: xs, i + 1, h => by
  obtain ⟨c, hc⟩ : ∃ c, x.cells = [c] := by
   have := h x (by simp)
   cases hx : x.cells with
   | nil => simp [hx] at this
   | cons c r => cases r with
    | nil => exact ⟨c, rfl⟩
    | cons _ _ => simp [hx] at this
  have ih := flat_set hy xs i fun z hz => h z (by simp [hz])
  simp only [flat] at ih
  simp [flat, hc, ih]
theorem leafy_cells {y : AV} (h : y.leafy = true) : y.cells = [y] := by cases y <;> first | rfl | (simp [AV.leafy] at h)
theorem flat_leaf : ∀ {ys : List AV}, leafAll ys = true → flat ys = ys
 | [], _ => rfl
 | y :: ys, h => by
  simp only [leafAll, List.all_cons, Bool.and_eq_true] at h
  have := flat_leaf (ys := ys) h.2
  simp only [flat] at this
  simp [flat, leafy_cells h.1, this]
theorem flat_setSeg : ∀ (ys xs : List AV) (i : Nat), (∀ x ∈ xs, x.cells.length = 1) → leafAll ys = true → flat (setSeg xs i ys) = setSeg (flat xs) i ys ∧ ∀ x ∈ setSeg xs i ys, x.cells.length = 1
 | [], xs, i, h, _ => ⟨rfl, h⟩
 | y :: ys, xs, i, h, hl => by
  simp only [leafAll, List.all_cons, Bool.and_eq_true] at hl
  have hy := leafy_cells hl.1
  have h' : ∀ x ∈ xs.set i y, x.cells.length = 1 := fun x hx => by
   rcases List.mem_or_eq_of_mem_set hx with hx | rfl
   ·exact h x hx
   ·rw [hy]; rfl
  have ih := flat_setSeg ys (xs.set i y) (i + 1) h' hl.2
  simp only [setSeg]
  rw [← flat_set hy xs i h]
  exact ih
def copyLeaf (t i : Nat) (ys : List AV) : AV → AV
 | .so _ _ => .any
 | .po _ _ _ => .any
 | .sl t' es' xs => if t' = t then (if es' = 1 then .sl t 1 (setSeg xs i ys) else .any) else .sl t' es' xs
 | .pe t' es' xs i' o' => if t' = t then .any else .pe t' es' xs i' o'
 | .tl _ _ _ _ => .any
 | x => x
section
variable {G : Nat → Status} {w : World} {t i b : Nat} {ys : List AV} {vs : List Value} {cur : Array Value} {e : TypeId}
theorem VRel.copied (hg : Good G w) (ht : 2 ≤ t) (hb : G b = .tag t) (hh : w.heap[b]? = some (.cells cur e (0, 0))) (hl : leafAll ys = true)
  (hy : PW (FRel (Stable G) w) ys vs) (h1 : One vs) {x : AV} {v : Value} (h : VRel G w x v) :
  VRel G (w.setRow b (setSeg cur.toList i vs).toArray) (x.mapTop (copyLeaf t i ys)) v := by
 have hset := setRow_heap w b cur (setSeg cur.toList i vs).toArray e (0, 0) hh
 have hF : ∀ {x v}, FRel (Stable G) w x v → FRel (Stable G) (w.setRow b (setSeg cur.toList i vs).toArray) x v := fun hr =>
  hr.mono (fun _ h => h) (fun b' hb' => heap_setRow_ne (fun h => by subst h; unfold Stable at hb'; rw [hb] at hb'; cases hb'))
 have hsl : ∀ {t' es' xs v}, VRel G w (.sl t' es' xs) v → VRel G (w.setRow b (setSeg cur.toList i vs).toArray) (copyLeaf t i ys (.sl t' es' xs)) v := by
  intro t' es' xs v h
  simp only [copyLeaf]
  cases h with
  | froz h =>
   have : t' < 2 := by cases h <;> assumption
   rw [if_neg (by omega)]
   exact .froz (hF h)
  | own _ _ _ _ e' vals h2 h3 h4 h5 h0 h6 =>
   by_cases htt : t' = t
   ·subst htt
    rw [if_pos rfl]
    by_cases hes : es' = 1
    ·subst hes
     rw [if_pos rfl]
     obtain ⟨hflat, hwid⟩ := flat_setSeg ys xs i h5 hl
     have hlen : (setSeg xs i ys).length = xs.length := setSeg_length _ _ _
     rcases h3.2 with ⟨hv, hn⟩ | ⟨g, cap, cur', hv, hgb, hh', hnc, hcm, hcs, hct⟩
     ·subst hv
      obtain rfl := List.eq_nil_of_length_eq_zero hn
      have : setSeg ([] : List AV) i ys = [] := setSeg_out _ _ _ (by simp)
      rw [this]
      refine .own t' 1 [] _ e' vals h2 ⟨h3.1, .inl ⟨rfl, rfl⟩⟩ (fun b hb => by simp [Value.ownBlock] at hb) (by simp) h0 ⟨h6.1, fun j x u hx hu => hF (h6.2 j x u hx hu)⟩
     ·subst hv
      obtain rfl := hg.tags _ _ _ (h4 g rfl) hb
      rw [hh] at hh'
      simp only [Option.some.injEq, Obj.cells.injEq, and_true] at hh'
      obtain ⟨rfl, rfl⟩ := hh'
      refine .own t' 1 _ _ e (AM.setSeg vals i vs) h2 ⟨?_, .inr ⟨g, cap, _, by rw [hlen], Nat.zero_le _, hset, by rw [hlen]; exact hnc, hcm, ?_, ?_⟩⟩ (fun b' hb' => ?_) hwid (One.setSeg _ h1 h0) ?_
      ·rw [setSeg_length, hlen]; exact h3.1
      ·simp only [List.size_toArray, setSeg_length, Array.length_toList]; exact hcs
      ·rw [hlen]; simp only [setSeg_take]; rw [hct]
      ·simp only [Value.ownBlock, Option.some.injEq] at hb'; rw [← hb']; exact hb
      ·rw [hflat]
       exact (PW.setSeg _ hy h6).mono fun x y _ hr => hF hr
    ·rw [if_neg hes]; exact .froz (.any _)
   ·rw [if_neg htt]
    refine .own t' es' xs v e' vals h2 (ownsRow_congr h3 fun b' hb' => heap_setRow_ne (fun h => ?_)) h4 h5 h0 (h6.mono fun x y _ hr => hF hr)
    subst h
    have := h4 _ hb'
    rw [hb] at this; cases this; exact htt rfl
 refine h.mapTop fun x v hx h => ?_
 cases x with
 | so t' xs => exact .froz (.any _)
 | po t' xs i' => exact .froz (.any _)
 | tl t' es' xs i' => exact .froz (.any _)
 | sl t' es' xs => exact hsl h
 | pe t' es' xs i' o' =>
  obtain ⟨b', off, c, h2, h3, rfl⟩ := h.pe_inv
  have := hsl h2
  simp only [copyLeaf] at this ⊢
  by_cases htt : t' = t
  ·rw [if_pos htt]; exact .froz (.any _)
  ·rw [if_neg htt] at this ⊢
   exact .pe _ _ _ _ _ _ _ _ this h3
 | pb i o => obtain ⟨b, hb, rfl⟩ := h.pb_inv; exact .pb _ _ _ hb
 | ag cs => simp [AV.leafy] at hx
 | tup cs => simp [AV.leafy] at hx
 | any => exact .froz (.any _)
 | nil => rw [h.nil_inv]; exact .froz .nil
 | ub => obtain ⟨b, rfl⟩ := h.ub_inv; exact .froz (.ub b)
 | sc u => rw [h.sc_inv]; exact .froz (.sc _)
 | fn g caps => cases h with | froz h => exact .froz (hF h)
 | mp t' P k e' D => exact h.mpMono (fun _ hb => hb) (fun b' es cl _ hm => heap_setRow_ne (fun h => by subst h; rw [hh] at hm; cases hm))
 | cl g caps => exact h.clMono (fun _ h => h) (fun b' hb' => heap_setRow_ne (fun h => by subst h; unfold Stable at hb'; rw [hb] at hb'; cases hb')) (fun _ _ h => h)
 | fp cs o => cases h with | froz h => exact .froz (hF h)
def copyDst : AV → Option (Nat × List AV × Nat)
 | .sl t 1 xs => some (t, xs, 0)
 | .tl t 1 xs i => some (t, xs, i)
 | _ => none
theorem VRel.ownRow {xs : List AV} {v : Value} (h : VRel G w (.sl t 1 xs) v) (ht : 2 ≤ t) (hn : 0 < xs.length) :
  ∃ g c cur e, v = .slice (some ⟨g, 0, none⟩) xs.length c ∧ G g = .tag t ∧ w.heap[g]? = some (.cells cur e (0, 0)) ∧ xs.length ≤ cur.size := by
 cases h with
 | froz h => exfalso; cases h <;> omega
 | own _ _ _ _ e vals _ g2 g3 g4 g0 g5 =>
  rcases g2.2 with ⟨_, hz⟩ | ⟨g, cap, cur, hv, _, hh, hnc, hcm, hcs, hct⟩
  ·omega
  ·exact ⟨g, cap, cur, e, hv, g3 g (by rw [hv]; rfl), hh, by rw [hcs]; omega⟩
theorem copyDst_inv {x : AV} {xs : List AV} {v : Value} (hd : copyDst x = some (t, xs, i)) (h : VRel G w x v) (ht : 2 ≤ t) (hi : i < xs.length) :
  ∃ g c cur e, v = .slice (some ⟨g, i, none⟩) (xs.length - i) c ∧ G g = .tag t ∧ w.heap[g]? = some (.cells cur e (0, 0)) ∧ xs.length ≤ cur.size := by
 unfold copyDst at hd
 split at hd
 ·cases hd
  obtain ⟨g, c, cur, e, rfl, h1, h2, h3⟩ := h.ownRow ht (by omega)
  exact ⟨g, c, cur, e, rfl, h1, h2, h3⟩
 ·cases hd
  obtain ⟨b, off, off', c, h1, h2, h3, hc, rfl⟩ := h.tl_inv
  obtain ⟨g, c', cur, e, hv, k1, k2, k3⟩ := h1.ownRow ht (by omega)
  cases hv
  obtain rfl : off' = 0 + i * 1 := by rcases h3 with h3 | h3 <;> omega
  exact ⟨b, c - i, cur, e, by simp, k1, k2, k3⟩
 ·cases hd
end
section
variable {P : Program}
def evCopy (P : Program) (T : TypeId) (d : Nat) (σ : St) (x y : AV) (K : St → Prop) : Prop :=
 match copyDst x, y with
 | some (t, xs, i), .sl _ 1 ys => 2 ≤ t ∧ (∃ E q, P.underlying T = some (.slice E) ∧ tinfo P E = some q ∧ q.1 = 1) ∧ i < xs.length ∧ 0 < ys.length ∧ leafAll ys = true ∧
   K ((σ.map (copyLeaf t i (ys.take (xs.length - i)))).put (some d) (.sc (.int .i64 (min ys.length (xs.length - i) : Nat))))
 | _, _ => False
theorem evCopy_sound {T T' : TypeId} {σ : St} {K : St → Prop} {G0 w0 G a w} {d : Nat} {o : Oper} {x y : Operand} (ho : o.op = .call ⟨.builtin .copy, #[x, y], #[T, T']⟩) (hd : o.dst = some d) (hdn : d < σ.n) (h : SRel G0 w0 σ G a w)
  (hw : evCopy P T d σ (σ.ev x) (σ.ev y) K) : ∃ v w', (execOp a.eval o).run P w = .ok (.value v) w' ∧ ∃ σ' G', K σ' ∧ SRel G0 w0 σ' G' (a.put o.dst v) w' := by
 unfold evCopy at hw
 split at hw
 ·rename_i t xs i t' ys hcd hy
  obtain ⟨ht, ⟨E, ⟨sz, by_, z⟩, hT, hq, hs1⟩, hi, hyl, hla, hk⟩ := hw
  simp only at hs1; subst hs1
  obtain ⟨ti, hti, hsz, _, _⟩ := tinfo_some hq
  obtain ⟨g, c, cur, e, hxv, hgt, hh, hcs⟩ := copyDst_inv hcd (h.ev x) ht hi
  have hyv := h.ev y
  rw [hy] at hyv
  rcases hyv.news with ⟨rfl, _⟩ | ⟨ya, yc, news, hyv', h1, h2, h3, h4, h5⟩
  ·simp at hyl
  ·rw [flat_leaf hla] at h5
   have hnl : news.length = ys.length := by rw [h1]; omega
   have hkl : (news.take (xs.length - i)).length = min ys.length (xs.length - i) := by rw [List.length_take, hnl]; omega
   have hrun := run_copy_row P w T T' o.type E g i (xs.length - i) c ya ys.length yc cur e (news.take (xs.length - i)) hT (by rw [hti]; simp [hsz]) hh hkl
    (fun j v hj => by
     rw [List.getElem?_take] at hj
     split at hj
     ·exact h2 j v hj
     ·cases hj) (by rw [hkl]; have := hi; omega) (fun v hv => h3 v (List.mem_of_mem_take hv))
   have hseg : cur.toList.take i ++ news.take (xs.length - i) ++ cur.toList.drop (i + (news.take (xs.length - i)).length) = setSeg cur.toList i (news.take (xs.length - i)) := by
    rw [setSeg_eq _ _ _ (by rw [hkl]; simp; omega)]
   rw [hseg, hkl] at hrun
   have hla' : leafAll (ys.take (xs.length - i)) = true := by
    simp only [leafAll, List.all_eq_true] at hla ⊢
    exact fun z hz => hla z (List.mem_of_mem_take hz)
   have hst : ∀ {x v}, VRel G w x v → VRel G (w.setRow g (setSeg cur.toList i (news.take (xs.length - i))).toArray) (x.mapTop (copyLeaf t i (ys.take (xs.length - i)))) v := fun hr =>
    hr.copied h.good ht hgt hh hla' (h5.take _) (fun v hv => h3 v (List.mem_of_mem_take hv))
   refine ⟨goInt (min ys.length (xs.length - i) : Nat), w.setRow g (setSeg cur.toList i (news.take (xs.length - i))).toArray, ?_, (σ.map (copyLeaf t i (ys.take (xs.length - i)))).put (some d) (.sc (.int .i64 (min ys.length (xs.length - i) : Nat))), G, hk, ?_⟩
   ·simp [execOp, ho, resolve, invoke, builtin, hxv, hyv', hrun]
   ·have hmap : SRel G0 w0 (σ.map (copyLeaf t i (ys.take (xs.length - i)))) G a (w.setRow g (setSeg cur.toList i (news.take (xs.length - i))).toArray) := by
     refine { h with good := ⟨fun b hb => by simpa [World.setRow] using h.good.lt b hb, h.good.tags, h.good.boxes⟩, slots := fun s => ?_, boxes := ⟨fun i vs hv => by have := h.boxes.low i vs hv; simpa [St.map, mapB_eq] using this, fun j cs' hj => ?_⟩, blt := fun b i hb => by have := h.blt b i hb; simpa [St.map, mapB_eq] using this, hsize := by simpa [World.setRow] using h.hsize, keep := fun b' hb' hn hnt => ?_, stat := h.stat }
     ·have : (σ.map (copyLeaf t i (ys.take (xs.length - i)))).get s = (σ.get s).mapTop (copyLeaf t i (ys.take (xs.length - i))) := lookT_map rfl σ.tmps s
      rw [this]; exact hst (h.slots s)
     ·simp only [St.map, mapB_eq, List.getElem?_map] at hj
      cases hc' : σ.boxes[j]? with
      | none => simp [hc'] at hj
      | some cs'' =>
       simp [hc'] at hj; subst hj
       rw [mapTops_eq]
       exact (h.boxes.cell j cs'' hc').map (fun x v hr => hst hr) (fun b'' k1 => ⟨k1, heap_setRow_ne fun h => by subst h; rw [hgt] at k1; cases k1⟩) fun h0 => h0
     ·have hne : b' ≠ g := fun h' => by
       subst h'
       have := h.stat b' hb' hnt
       rw [hgt] at this
       exact hnt t this.symm
      rw [heap_setRow_ne hne]; exact h.keep b' hb' hn hnt
    rw [hd]
    exact hmap.add (.refl G _) hmap.good (fun _ _ h => h) (d := some d) (x := .sc (goInt (min ys.length (xs.length - i) : Nat))) (v := goInt (min ys.length (xs.length - i) : Nat)) (by simp [dstOk, St.map, hdn]) (.froz (.sc _))
 ·exact hw.elim
theorem run_clear_row {w : World} {t e ty : TypeId} {by_ : Nat} {z : Value} (ht : P.underlying t = some (.slice e)) (hq : tinfo P e = some (1, by_, some z)) (hz : z.cells = #[z]) (h1 : z.oneCell' = true) {b o n c : Nat} {cur : Array Value} {e' : TypeId} (hn : 0 < n)
  (hh : w.heap[b]? = some (.cells cur e' (0, 0))) (hfit : o + n ≤ cur.size) :
  (Builtin.clear_ #[t] ty #[.slice (some ⟨b, o, none⟩) n c]).run P w = .ok (.tuple #[]) (w.setRow b (setSeg cur.toList o (List.replicate n z)).toArray) := by
 obtain ⟨ti, hi, hsz, hby, hzz⟩ := tinfo_some hq
 have hv : ∀ w, (zeroValue e).run P w = .ok z w := fun w => by simp [zeroValue, typeInfo, hi, hzz]
 have hcl : ∀ j, j < n → (w.cell? ⟨b, o + j, none⟩).isSome = true := fun j hj => by
  simp only [World.cell?, hh]
  simp; omega
 have hfz : ∀ j, j < n → w.frozen? ⟨b, o + j, none⟩ = false := fun j _ => by simp [World.frozen?, hh]
 have hr := Go.Lib.run_clear_slice (P := P) w t e ty z ht hv hz h1 b o n c hn hcl hfz
 have s1 := run_storeCells_cells (P := P) b o (List.replicate n z) 0 w (by simpa using hcl) (by simpa using hfz) (by intro v hv'; rw [List.eq_of_mem_replicate hv']; exact h1)
 have s2 := run_storeCells_at P b o e' (List.replicate n z) 0 cur w hh (by simpa using hfit) (by intro v hv'; rw [List.eq_of_mem_replicate hv']; exact h1)
 simp only [Nat.add_zero] at s1 s2
 rw [s2] at s1
 have hseg : cur.toList.take o ++ List.replicate n z ++ cur.toList.drop (o + (List.replicate n z).length) = setSeg cur.toList o (List.replicate n z) := by
  rw [setSeg_eq _ _ _ (by simp; omega)]
 rw [hseg] at s1
 injection s1 with _ hw
 rw [hr, hw]
def evClear (P : Program) (T : TypeId) (σ : St) (x : AV) (K : St → Prop) : Prop :=
 match copyDst x with
 | some (t, xs, i) => 2 ≤ t ∧ i < xs.length ∧ ∃ E q z, P.underlying T = some (.slice E) ∧ tinfo P E = some q ∧ q.1 = 1 ∧ q.2.2 = some z ∧ z.cells = #[z] ∧ z.oneCell' = true ∧ leafAll [ofConst z] = true ∧
   K (σ.map (copyLeaf t i (List.replicate (xs.length - i) (ofConst z))))
 | none => False
theorem evClear_sound {T : TypeId} {σ : St} {K : St → Prop} {G0 w0 G a w} {o : Oper} {x : Operand} (ho : o.op = .call ⟨.builtin .clear, #[x], #[T]⟩) (hd : o.dst = none) (h : SRel G0 w0 σ G a w)
  (hw : evClear P T σ (σ.ev x) K) : ∃ v w', (execOp a.eval o).run P w = .ok (.value v) w' ∧ ∃ σ' G', K σ' ∧ SRel G0 w0 σ' G' (a.put o.dst v) w' := by
 unfold evClear at hw
 split at hw
 ·rename_i t xs i hcd
  obtain ⟨ht, hi, E, ⟨sz, by_, z0⟩, z, hT, hq, hs1, hz0, hz, h1, hla, hk⟩ := hw
  simp only at hs1 hz0; subst hs1; subst hz0
  obtain ⟨g, c, cur, e, hxv, hgt, hh, hcs⟩ := copyDst_inv hcd (h.ev x) ht hi
  have hrun := run_clear_row (P := P) (ty := o.type) (c := c) hT hq hz h1 (o := i) (n := xs.length - i) (by omega) hh (by omega)
  have hla' : leafAll (List.replicate (xs.length - i) (ofConst z)) = true := by
   simp only [leafAll, List.all_eq_true] at hla ⊢
   intro y hy
   rw [List.eq_of_mem_replicate hy]
   exact hla _ (by simp)
  have hone : One (List.replicate (xs.length - i) z) := fun u hu => by rw [List.eq_of_mem_replicate hu]; exact h1
  have hpz : PW (FRel (Stable G) w) (List.replicate (xs.length - i) (ofConst z)) (List.replicate (xs.length - i) z) := by
   refine ⟨by simp, fun j y u hy hu => ?_⟩
   have ey : y = ofConst z := List.eq_of_mem_replicate (List.mem_of_getElem? hy)
   have eu : u = z := List.eq_of_mem_replicate (List.mem_of_getElem? hu)
   subst ey; subst eu
   obtain ⟨hp, _⟩ := ofConst_cells (S := Stable G) (w := w) u (by rw [hz]; simpa using h1)
   have hc1 : (ofConst u).cells = [ofConst u] := leafy_cells (by simpa [leafAll] using hla)
   rw [hc1, hz] at hp
   exact hp.2 0 _ _ rfl rfl
  have hst : ∀ {x v}, VRel G w x v → VRel G (w.setRow g (setSeg cur.toList i (List.replicate (xs.length - i) z)).toArray) (x.mapTop (copyLeaf t i (List.replicate (xs.length - i) (ofConst z)))) v := fun hr =>
   hr.copied h.good ht hgt hh hla' hpz hone
  refine ⟨.tuple #[], w.setRow g (setSeg cur.toList i (List.replicate (xs.length - i) z)).toArray, ?_, σ.map (copyLeaf t i (List.replicate (xs.length - i) (ofConst z))), G, hk, ?_⟩
  ·simp [execOp, ho, resolve, invoke, builtin, hxv, hrun]
  ·rw [hd]
   refine { h with good := ⟨fun b hb => by simpa [World.setRow] using h.good.lt b hb, h.good.tags, h.good.boxes⟩, slots := fun s => ?_, boxes := ⟨fun i vs hv => by have := h.boxes.low i vs hv; simpa [St.map, mapB_eq] using this, fun j cs' hj => ?_⟩, blt := fun b i hb => by have := h.blt b i hb; simpa [St.map, mapB_eq] using this, hsize := by simpa [World.setRow] using h.hsize, keep := fun b' hb' hn hnt => ?_, stat := h.stat }
   ·have : (σ.map (copyLeaf t i (List.replicate (xs.length - i) (ofConst z)))).get s = (σ.get s).mapTop (copyLeaf t i (List.replicate (xs.length - i) (ofConst z))) := lookT_map rfl σ.tmps s
    rw [this]; exact hst (h.slots s)
   ·simp only [St.map, mapB_eq, List.getElem?_map] at hj
    cases hc' : σ.boxes[j]? with
    | none => simp [hc'] at hj
    | some cs'' =>
     simp [hc'] at hj; subst hj
     rw [mapTops_eq]
     exact (h.boxes.cell j cs'' hc').map (fun x v hr => hst hr) (fun b'' k1 => ⟨k1, heap_setRow_ne fun h => by subst h; rw [hgt] at k1; cases k1⟩) fun h0 => h0
   ·have hne : b' ≠ g := fun h' => by
     subst h'
     have := h.stat b' hb' hnt
     rw [hgt] at this
     exact hnt t this.symm
    rw [heap_setRow_ne hne]; exact h.keep b' hb' hn hnt
 ·exact hw.elim
end
end Go.AM
