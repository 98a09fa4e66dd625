/- AmV AmY AmM -/
import Derived.Test.YtebcmlhgfmkpnaaGreatg4
import Derived.Lib.SliceRun
import Derived.Laws.CopyRow
namespace Go.AM
open Go.RowKit
def pairN (p i : Nat) : Nat := 2 ^ i * (2 * p + 1)
theorem pairN_pos (p i : Nat) : 0 < pairN p i := Nat.mul_pos (Nat.two_pow_pos i) (by omega)
theorem pairN_inj : ∀ {p q i j : Nat}, pairN p i = pairN q j -> p = q /\ i = j
 | p, q, 0, 0, h => by simp [pairN] at h; exact ⟨by omega, rfl⟩
 | p, q, 0, j + 1, h => by
  exfalso; simp only [pairN, Nat.pow_succ, Nat.pow_zero, Nat.one_mul] at h
  rw [Nat.mul_comm (2 ^ j) 2, Nat.mul_assoc] at h; omega
 | p, q, i + 1, 0, h => by
  exfalso; simp only [pairN, Nat.pow_succ, Nat.pow_zero, Nat.one_mul] at h
  rw [Nat.mul_comm (2 ^ i) 2, Nat.mul_assoc] at h; omega
 | p, q, i + 1, j + 1, h => by
  have h' : pairN p i = pairN q j := by
   simp only [pairN, Nat.pow_succ] at h ⊢
   rw [Nat.mul_comm (2 ^ i) 2, Nat.mul_assoc, Nat.mul_comm (2 ^ j) 2, Nat.mul_assoc] at h; omega
  have := pairN_inj h'
  exact ⟨this.1, by omega⟩
def subT (t i : Nat) : Nat := t % 1048576 + 1048576 * pairN (t / 1048576) i
theorem root_sub (t i : Nat) : root (subT t i) = root t := by unfold root subT; omega
theorem sub_big (t i : Nat) : 1048576 <= subT t i := by have := pairN_pos (t / 1048576) i; unfold subT; omega
theorem sub_inj {t s i j : Nat} (h : subT t i = subT s j) : t = s /\ i = j := by
 have h1 : pairN (t / 1048576) i = pairN (s / 1048576) j := by unfold subT at h; omega
 have h2 : t % 1048576 = s % 1048576 := by unfold subT at h; omega
 have := pairN_inj h1
 exact ⟨by omega, this.2⟩
theorem pairN_gt (p i : Nat) : p < pairN p i := by
 have : 1 * (2 * p + 1) <= 2 ^ i * (2 * p + 1) := Nat.mul_le_mul_right _ (Nat.two_pow_pos i)
 unfold pairN; omega
theorem sub_ne (t i : Nat) : subT t i ≠ t := by
 have := pairN_gt (t / 1048576) i
 unfold subT; omega
def retagRow (a b : Nat) : AV -> AV
 | .sl t es xs => if t = a then (if root a = root b then .sl b es xs else .any) else if t = b then .any else .sl t es xs
 | x => x
def retagLeaf (a b : Nat) : AV -> AV
 | .sl t es xs => if t = a then .sl b es xs else if t = b then .any else .sl t es xs
 | .pe t es xs i o => if t = a then .pe b es xs i o else if t = b then .any else .pe t es xs i o
 | .so t xs => if t = a then .any else if t = b then .any else .so t (xs.map (retagRow a b))
 | .po t xs i => if t = a then .any else if t = b then .any else .po t (xs.map (retagRow a b)) i
 | .mp t P k e D => if t = a then .any else if t = b then .any else .mp t P k e D
 | .tl _ _ _ _ => .any
 | x => x
def retagG (a b : Nat) (G : Nat -> Status) (k : Nat) : Status := if G k = .tag a then .tag b else if G k = .tag b then .junk else G k
section
variable {a b : Nat} {G : Nat -> Status} {w : World}
theorem retagG_stable {k : Nat} (h : Stable G k) : Stable (retagG a b G) k := by unfold Stable at *; simp [retagG, h]
theorem retagG_tag {k t : Nat} (h : G k = .tag t) (h1 : t ≠ a) (h2 : t ≠ b) : retagG a b G k = .tag t := by simp [retagG, h, h1, h2]
theorem Good.retag (hg : Good G w) : Good (retagG a b G) w := by
 have key : ∀ k t, retagG a b G k = .tag t -> (G k = .tag a /\ t = b) \/ (G k = .tag t /\ t ≠ a /\ t ≠ b) := by
  intro k t h
  unfold retagG at h
  split at h
  ·cases h; exact .inl ⟨by assumption, rfl⟩
  ·split at h
   ·cases h
   ·rename_i h1 h2; exact .inr ⟨h, fun e => h1 (by rw [h, e]), fun e => h2 (by rw [h, e])⟩
 have keyb : ∀ k i, retagG a b G k = .box i -> G k = .box i := by
  intro k i h
  unfold retagG at h
  split at h
  ·cases h
  ·split at h
   ·cases h
   ·exact h
 refine ⟨fun k h => hg.lt k fun h' => h (by simp [retagG, h']), fun k k' t h1 h2 => ?_, fun k k' i h1 h2 => hg.boxes k k' i (keyb k i h1) (keyb k' i h2)⟩
 rcases key k t h1 with ⟨h1, e1⟩ | ⟨h1, e1, e1'⟩ <;> rcases key k' t h2 with ⟨h2, e2⟩ | ⟨h2, e2, e2'⟩
 ·exact hg.tags k k' a h1 h2
 ·exact absurd e1 e2'
 ·exact absurd e2 e1'
 ·exact hg.tags k k' t h1 h2
theorem retagRow_rel {r : Nat} {x : AV} {u : Value} (ha : 2 <= a) (hb : 2 <= b) (hx : x.rowLike = true) (hr : LRel G w r x u) : (retagRow a b x).rowLike = true /\ LRel (retagG a b G) w r (retagRow a b x) u := by
 cases hr with
 | froz hr =>
  have hr' := hr.mono (S' := Stable (retagG a b G)) (w' := w) (fun b => retagG_stable) (fun _ _ => rfl)
  cases x <;> first | exact ⟨hx, .froz hr'⟩ | skip
  rename_i t es xs
  have ht : t < 2 := by cases hr <;> assumption
  simp only [retagRow]
  rw [if_neg (by omega), if_neg (by omega)]
  exact ⟨rfl, .froz hr'⟩
 | own t es xs _ e vals h1 hrt h2 h3 h4 h0 h5 =>
  have h5' := h5.mono fun x y _ hr => hr.mono (S' := Stable (retagG a b G)) (w' := w) (fun b => retagG_stable) (fun _ _ => rfl)
  simp only [retagRow]
  split
  ·rename_i hta
   subst hta
   split
   ·rename_i hrr
    exact ⟨rfl, .own b es xs _ e vals hb (by omega) h2 (fun k hk => by simp [retagG, h3 k hk]) h4 h0 h5'⟩
   ·exact ⟨rfl, .froz (.any _)⟩
  ·split
   ·exact ⟨rfl, .froz (.any _)⟩
   ·rename_i h6 h7
    exact ⟨rfl, .own t es xs _ e vals h1 hrt h2 (fun k hk => retagG_tag (h3 k hk) h6 h7) h4 h0 h5'⟩
theorem retag_so {t : Nat} {xs : List AV} {v : Value} (ha : 2 <= a) (hb : 2 <= b) (h1 : t ≠ a) (h2 : t ≠ b) (h : VRel G w (.so t xs) v) : VRel (retagG a b G) w (.so t (xs.map (retagRow a b))) v :=
 h.so_map h.so_two (fun _ _ hx hr => retagRow_rel ha hb hx hr) (fun _k hk => ⟨retagG_tag hk h1 h2, rfl⟩)
theorem retag_sl {t es : Nat} {xs : List AV} {v : Value} (ha : 2 <= a) (hb : 2 <= b) (h : VRel G w (.sl t es xs) v) : VRel (retagG a b G) w (retagLeaf a b (.sl t es xs)) v := by
 have hF : ∀ {x v}, FRel (Stable G) w x v -> FRel (Stable (retagG a b G)) w x v := fun hr => hr.mono (fun b => retagG_stable) (fun _ _ => rfl)
 simp only [retagLeaf]
 cases h with
 | froz h =>
  have : t < 2 := by cases h <;> assumption
  rw [if_neg (by omega), if_neg (by omega)]
  exact .froz (hF h)
 | own _ _ _ _ e vals h1 h2 h3 h4 h0 h5 =>
  have h5' := h5.mono fun x y _ hr => hF hr
  split
  ·rename_i hta; subst hta
   exact .own b es xs _ e vals hb h2 (fun k hk => by simp [retagG, h3 k hk]) h4 h0 h5'
  ·split
   ·exact .froz (.any _)
   ·rename_i h6 h7
    exact .own t es xs _ e vals h1 h2 (fun k hk => retagG_tag (h3 k hk) h6 h7) h4 h0 h5'
theorem VRel.retag {x : AV} {v : Value} (ha : 2 <= a) (hb : 2 <= b) (h : VRel G w x v) : VRel (retagG a b G) w (x.mapTop (retagLeaf a b)) v := by
 have hF : ∀ {x v}, FRel (Stable G) w x v -> FRel (Stable (retagG a b G)) w x v := fun hr => hr.mono (fun b => retagG_stable) (fun _ _ => rfl)
 refine h.mapTop fun x v hx h => ?_
 cases x with
 | sl t es xs => exact retag_sl ha hb h
 | pe t es xs i o =>
  obtain ⟨b', off, c, h1, h2, rfl⟩ := h.pe_inv
  have := retag_sl (a := a) (b := b) ha hb h1
  simp only [retagLeaf] at this ⊢
  split at this
  ·rename_i hp; rw [if_pos hp]; exact .pe _ _ _ _ _ _ _ _ this h2
  ·rename_i hp; rw [if_neg hp]
   split at this
   ·rename_i hp; rw [if_pos hp]; exact .froz (.any _)
   ·rename_i hp; rw [if_neg hp]; exact .pe _ _ _ _ _ _ _ _ this h2
 | so t xs =>
  simp only [retagLeaf]
  split
  ·exact .froz (.any _)
  ·split
   ·exact .froz (.any _)
   ·rename_i h1 h2; exact retag_so ha hb h1 h2 h
 | po t xs i =>
  obtain ⟨b', off, c, h3, h4, rfl⟩ := h.po_inv
  simp only [retagLeaf]
  split
  ·exact .froz (.any _)
  ·split
   ·exact .froz (.any _)
   ·rename_i h1 h2; exact (retag_so ha hb h1 h2 h3).po_of (by simp) h4
 | pb i o => obtain ⟨k, hk, rfl⟩ := h.pb_inv; exact .pb _ _ _ (by simp [retagG, hk])
 | ag cs => simp [AV.leafy] at hx
 | tup cs => simp [AV.leafy] at hx
 | any => exact .froz (.any _)
 | nil => rw [h.nil_inv]; exact .froz .nil
 | ub => obtain ⟨b, rfl⟩ := h.ub_inv; exact .froz (.ub b)
 | sc u => rw [h.sc_inv]; exact .froz (.sc _)
 | fn g caps => cases h with | froz h => exact .froz (hF h)
 | mp t P k e D =>
  simp only [retagLeaf]; split
  ·exact .froz (.any _)
  ·split
   ·exact .froz (.any _)
   ·rename_i h1 h2; exact h.mpMono (fun k hk => retagG_tag hk h1 h2) (fun _ _ _ _ _ => rfl)
 | cl g caps => exact h.clMono (fun b => retagG_stable) (fun _ _ => rfl) (fun b i hb => by simp [retagG, hb])
 | tl t es xs i => exact .froz (.any _)
 | fp cs o => cases h with | froz h => exact .froz (hF h)
theorem SRel.retag {G0 w0 σ a'} (h : SRel G0 w0 σ G a' w) (_h0 : True) (ha : 2 <= a) (hb : 2 <= b) : SRel G0 w0 (σ.map (retagLeaf a b)) (retagG a b G) a' w :=
 { h with
  good := h.good.retag
  slots := fun s => by
   have : (σ.map (retagLeaf a b)).get s = (σ.get s).mapTop (retagLeaf a b) := lookT_map rfl σ.tmps s
   rw [this]; exact (h.slots s).retag ha hb
  boxes := ⟨fun i vs hv => by have := h.boxes.low i vs hv; simpa [St.map, mapB_eq] using this, fun i cs hi => by
   simp only [St.map, mapB_eq, List.getElem?_map] at hi
   cases hc : σ.boxes[i]? with
   | none => simp [hc] at hi
   | some cs' =>
    simp [hc] at hi; subst hi
    rw [mapTops_eq]
    refine (h.boxes.cell i cs' hc).map (fun x v hr => hr.retag ha hb) (fun k hk => ⟨by simp [retagG, hk], rfl⟩) fun h0 k hk => h0 k ?_
    unfold retagG at hk; split at hk
    ·cases hk
    ·split at hk
     ·cases hk
     ·exact hk⟩
  blt := fun k i hk => by
   have : G k = .box i := by
    unfold retagG at hk; split at hk
    ·cases hk
    ·split at hk
     ·cases hk
     ·exact hk
   have := h.blt k i this
   simpa [St.map, mapB_eq] using this
  size := h.size
  stat := fun k hk hnt => by
   have := h.stat k hk hnt
   unfold retagG
   rw [if_neg (by rw [this]; exact hnt a), if_neg (by rw [this]; exact hnt b)]
   exact this }
def mvT (_a b t : Nat) : Nat := b + 1048576 * (t / 1048576)
def mvRow (a b : Nat) : AV -> AV
 | .sl t es xs => if root t = a then .sl (mvT a b t) es xs else .sl t es xs
 | x => x
def mvLeaf (a b : Nat) : AV -> AV
 | .sl t es xs => if root t = a then .sl (mvT a b t) es xs else if root t = b then .any else .sl t es xs
 | .pe t es xs i o => if root t = a then .pe (mvT a b t) es xs i o else if root t = b then .any else .pe t es xs i o
 | .so t xs => if root t = a then .so (mvT a b t) (xs.map (mvRow a b)) else if root t = b then .any else .so t xs
 | .po t xs i => if root t = a then .po (mvT a b t) (xs.map (mvRow a b)) i else if root t = b then .any else .po t xs i
 | .mp t P k e D => if root t = a then .any else if root t = b then .any else .mp t P k e D
 | .tl _ _ _ _ => .any
 | x => x
def mvG (a b : Nat) (G : Nat -> Status) (k : Nat) : Status :=
 match G k with
 | .tag t => if root t = a then .tag (mvT a b t) else if root t = b then .junk else .tag t
 | s => s
theorem mvG_stable {k : Nat} (h : Stable G k) : Stable (mvG a b G) k := by unfold Stable at *; simp [mvG, h]
theorem mvG_box {k i : Nat} (h : mvG a b G k = .box i) : G k = .box i := by
 unfold mvG at h
 split at h
 ·split at h
  ·cases h
  ·split at h <;> cases h
 ·exact h
theorem mvT_root {t : Nat} (hb : b < 1048576) : root (mvT a b t) = b := by unfold root mvT; omega
theorem mvT_two {t : Nat} (hb : 2 <= b) : 2 <= mvT a b t := by unfold mvT; omega
theorem mvG_keep {k t : Nat} (h : G k = .tag t) (h1 : root t ≠ a) (h2 : root t ≠ b) : mvG a b G k = .tag t := by simp [mvG, h, h1, h2]
theorem mvG_move {k t : Nat} (h : G k = .tag t) (h1 : root t = a) : mvG a b G k = .tag (mvT a b t) := by simp [mvG, h, h1]
theorem Good.mv (hg : Good G w) (hb : b < 1048576) : Good (mvG a b G) w := by
 have key : ∀ k t, mvG a b G k = .tag t -> (∃ t', G k = .tag t' /\ root t' = a /\ t = mvT a b t') \/ (G k = .tag t /\ root t ≠ a /\ root t ≠ b) := by
  intro k t h
  unfold mvG at h
  split at h
  ·rename_i t' ht'
   split at h
   ·rename_i hr; cases h; exact .inl ⟨t', ht', hr, rfl⟩
   ·split at h
    ·cases h
    ·rename_i h1 h2; cases h; exact .inr ⟨ht', h1, h2⟩
  ·rename_i hn; exact absurd h (hn t)
 refine ⟨fun k h => hg.lt k fun h' => h (by simp [mvG, h']), fun k k' t h1 h2 => ?_, fun k k' i h1 h2 => hg.boxes k k' i (mvG_box h1) (mvG_box h2)⟩
 rcases key k t h1 with ⟨t1, g1, e1, rfl⟩ | ⟨g1, e1, e1'⟩ <;> rcases key k' _ h2 with ⟨t2, g2, e2, e3⟩ | ⟨g2, e2, e2'⟩
 ·have : t1 = t2 := by unfold mvT at e3; unfold root at e1 e2; omega
  subst this; exact hg.tags k k' _ g1 g2
 ·exact absurd (mvT_root hb) e2'
 ·exact absurd (by rw [e3]; exact mvT_root hb) e1'
 ·exact hg.tags k k' _ g1 g2
theorem mv_sl {t es : Nat} {xs : List AV} {v : Value} (ha : 2 <= a) (hb : 2 <= b) (h : VRel G w (.sl t es xs) v) : VRel (mvG a b G) w (mvLeaf a b (.sl t es xs)) v := by
 simp only [mvLeaf]
 cases h with
 | froz h =>
  have : t < 2 := by cases h <;> assumption
  have hr : root t = t := by unfold root; omega
  rw [if_neg (by omega), if_neg (by omega)]
  exact .froz (h.mono (fun b => mvG_stable) (fun _ _ => rfl))
 | own _ _ _ _ e vals h1 h2 h3 h4 h0 h5 =>
  have h5' := h5.mono fun x y _ hr => hr.mono (S' := Stable (mvG a b G)) (w' := w) (fun b => mvG_stable) (fun _ _ => rfl)
  split
  ·rename_i hr
   exact .own _ es xs v e vals (mvT_two hb) h2 (fun k hk => mvG_move (h3 k hk) hr) h4 h0 h5'
  ·split
   ·exact .froz (.any _)
   ·rename_i k1 k2
    exact .own t es xs v e vals h1 h2 (fun k hk => mvG_keep (h3 k hk) k1 k2) h4 h0 h5'
theorem mv_so {t : Nat} {xs : List AV} {v : Value} (ha : 2 <= a) (hb : 2 <= b) (hb2 : b < 1048576) (h1 : root t = a) (h : VRel G w (.so t xs) v) : VRel (mvG a b G) w (.so (mvT a b t) (xs.map (mvRow a b))) v := by
 refine h.so_map (mvT_two hb) (fun x u hx hr => ?_) (fun k hk => ⟨mvG_move hk h1, rfl⟩)
 cases hr with
 | froz hr =>
  have hr' := hr.mono (S' := Stable (mvG a b G)) (w' := w) (fun b => mvG_stable) (fun _ _ => rfl)
  cases x <;> first | exact ⟨hx, .froz hr'⟩ | skip
  rename_i t' es ys
  have ht : t' < 2 := by cases hr <;> assumption
  have hrt : root t' = t' := by unfold root; omega
  simp only [mvRow]; rw [if_neg (by omega)]; exact ⟨hx, .froz hr'⟩
 | own t' es ys _ e vals k1 hrt k2 k3 k4 k0 k5 =>
  simp only [mvRow]; rw [if_pos (by rw [hrt]; exact h1)]
  refine ⟨rfl, .own _ es ys _ e vals (mvT_two hb) (by rw [mvT_root hb2, mvT_root hb2]) k2 (fun k hk => mvG_move (k3 k hk) (by rw [hrt]; exact h1)) k4 k0 (k5.mono fun x y _ hr => hr.mono (fun b => mvG_stable) (fun _ _ => rfl))⟩
theorem mv_so0 {t : Nat} {xs : List AV} {v : Value} (h1 : root t ≠ a) (h2 : root t ≠ b) (h : VRel G w (.so t xs) v) : VRel (mvG a b G) w (.so t xs) v := by
 have := h.so_map (G' := mvG a b G) (w' := w) (f := id) h.so_two (fun x u hx hr => ⟨hx, by
  cases hr with
  | froz hr => exact .froz (hr.mono (fun b => mvG_stable) (fun _ _ => rfl))
  | own t' es ys _ e vals k1 hrt k2 k3 k4 k0 k5 =>
   exact .own t' es ys _ e vals k1 hrt k2 (fun k hk => mvG_keep (k3 k hk) (by rw [hrt]; exact h1) (by rw [hrt]; exact h2)) k4 k0 (k5.mono fun x y _ hr => hr.mono (fun b => mvG_stable) (fun _ _ => rfl))⟩)
  (fun k hk => ⟨mvG_keep hk h1 h2, rfl⟩)
 simpa using this
theorem VRel.mv {x : AV} {v : Value} (ha : 2 <= a) (hb : 2 <= b) (hb2 : b < 1048576) (h : VRel G w x v) : VRel (mvG a b G) w (x.mapTop (mvLeaf a b)) v := by
 have hF : ∀ {x v}, FRel (Stable G) w x v -> FRel (Stable (mvG a b G)) w x v := fun hr => hr.mono (fun b => mvG_stable) (fun _ _ => rfl)
 refine h.mapTop fun x v hx h => ?_
 cases x with
 | sl t es xs => exact mv_sl ha hb h
 | pe t es xs i o =>
  obtain ⟨b', off, c, h1, h2, rfl⟩ := h.pe_inv
  have := mv_sl (a := a) (b := b) ha hb h1
  simp only [mvLeaf] at this ⊢
  split at this
  ·rename_i hr; rw [if_pos hr]; exact .pe _ _ _ _ _ _ _ _ this h2
  ·rename_i hr; rw [if_neg hr]
   split at this
   ·rename_i hr2; rw [if_pos hr2]; exact .froz (.any _)
   ·rename_i hr2; rw [if_neg hr2]; exact .pe _ _ _ _ _ _ _ _ this h2
 | so t xs =>
  simp only [mvLeaf]; split
  ·rename_i hr; exact mv_so ha hb hb2 hr h
  ·split
   ·exact .froz (.any _)
   ·rename_i k1 k2; exact mv_so0 k1 k2 h
 | po t xs i =>
  obtain ⟨b', off, c, h1, h2, rfl⟩ := h.po_inv
  simp only [mvLeaf]; split
  ·rename_i hr; exact (mv_so ha hb hb2 hr h1).po_of (by simp) h2
  ·split
   ·exact .froz (.any _)
   ·rename_i k1 k2; exact (mv_so0 k1 k2 h1).po_of rfl h2
 | tl t es xs i => exact .froz (.any _)
 | pb i o => obtain ⟨b, hb, rfl⟩ := h.pb_inv; exact .pb _ _ _ (by simp [mvG, hb])
 | ag cs => simp [AV.leafy] at hx
 | tup cs => simp [AV.leafy] at hx
 | any => exact .froz (.any _)
 | nil => rw [h.nil_inv]; exact .froz .nil
 | ub => obtain ⟨b, rfl⟩ := h.ub_inv; exact .froz (.ub b)
 | sc u => rw [h.sc_inv]; exact .froz (.sc _)
 | fn g caps => cases h with | froz h => exact .froz (hF h)
 | mp t P k e D =>
  simp only [mvLeaf]; split
  ·exact .froz (.any _)
  ·split
   ·exact .froz (.any _)
   ·rename_i h1 h2; exact h.mpMono (fun k hk => mvG_keep hk h1 h2) (fun _ _ _ _ _ => rfl)
 | cl g caps => exact h.clMono (fun b => mvG_stable) (fun _ _ => rfl) (fun b i hb => by simp [mvG, hb])
 | fp cs o => cases h with | froz h => exact .froz (hF h)
theorem SRel.mv {G0 w0 σ a'} (h : SRel G0 w0 σ G a' w) (_h0 : True) (ha : 2 <= a) (hb : 2 <= b) (hb2 : b < 1048576) : SRel G0 w0 (σ.map (mvLeaf a b)) (mvG a b G) a' w :=
 { h with
  good := h.good.mv hb2
  slots := fun s => by
   have : (σ.map (mvLeaf a b)).get s = (σ.get s).mapTop (mvLeaf a b) := lookT_map rfl σ.tmps s
   rw [this]; exact (h.slots s).mv ha hb hb2
  boxes := ⟨fun i vs hv => by have := h.boxes.low i vs hv; simpa [St.map, mapB_eq] using this, fun i cs hi => by
   simp only [St.map, mapB_eq, List.getElem?_map] at hi
   cases hc : σ.boxes[i]? with
   | none => simp [hc] at hi
   | some cs' =>
    simp [hc] at hi; subst hi
    rw [mapTops_eq]
    exact (h.boxes.cell i cs' hc).map (fun x v hr => hr.mv ha hb hb2) (fun k hk => ⟨by simp [mvG, hk], rfl⟩) fun h0 k hk => h0 k (mvG_box hk)⟩
  blt := fun k i hk => by
   have := h.blt k i (mvG_box hk)
   simpa [St.map, mapB_eq] using this
  size := h.size
  stat := fun k hk hnt => by
   have := h.stat k hk hnt
   cases hs : G k with
   | tag t => exact absurd (by rw [<- this]; exact hs) (hnt t)
   | _ => simp only [mvG, hs]; rw [<- hs]; exact this }
def exact (vals : List Value) : List AV := vals.map .sc
theorem exact_rel {S : Nat -> Prop} {vals : List Value} : PW (FRel S w) (flat (exact vals)) vals := by
 have : flat (exact vals) = exact vals := by
  unfold exact
  induction vals with
  | nil => rfl
  | cons v vals ih => simp only [flat, List.map_cons, List.flatMap_cons, AV.cells] at ih ⊢; rw [ih]; rfl
 rw [this]
 refine ⟨by simp [exact], fun j x u hx hu => ?_⟩
 simp only [exact, List.getElem?_map, hu, Option.map_some, Option.some.injEq] at hx
 subst hx; exact .sc _
theorem exact_wide (vals : List Value) : ∀ x ∈ exact vals, x.cells.length = 1 := fun x hx => by
 obtain ⟨v, _, rfl⟩ := List.mem_map.1 hx; rfl
theorem exact_len (vals : List Value) : (exact vals).length = vals.length := by simp [exact]
theorem exact_app (l l' : List Value) : exact l ++ exact l' = exact (l ++ l') := by simp [exact]
theorem FRel.sc_val {S : Nat -> Prop} {u v : Value} (h : FRel S w (.sc u) v) : v = u := by cases h; rfl
theorem FRel.sl_lt {S : Nat -> Prop} {t es : Nat} {xs : List AV} {v : Value} (h : FRel S w (.sl t es xs) v) : t < 2 := by cases h <;> assumption
theorem exact_inv {S : Nat -> Prop} {l l' : List Value} (h : PW (FRel S w) (flat (exact l)) l') : l' = l := by
 have h2 := exact_rel (w := w) (S := S) (vals := l)
 have hl : l.length = l'.length := by rw [<- h.1, h2.1]
 apply List.ext_getElem? 
 intro j
 by_cases hj : j < l.length
 ·have hfl : j < (flat (exact l)).length := by rw [h2.1]; exact hj
  have g1 := h2.2 j _ _ (List.getElem?_eq_getElem hfl) (List.getElem?_eq_getElem hj)
  have g2 := h.2 j _ _ (List.getElem?_eq_getElem hfl) (List.getElem?_eq_getElem (by omega : j < l'.length))
  have hx : (flat (exact l))[j] = .sc l[j] := by
   have : flat (exact l) = exact l := by
    unfold exact
    clear h h2 hl g1 g2 hfl hj
    induction l with
    | nil => rfl
    | cons v vals ih => simp only [flat, List.map_cons, List.flatMap_cons, AV.cells] at ih ⊢; rw [ih]; rfl
   simp only [this]; simp [exact]
  rw [hx] at g2
  have g3 := g2.sc_val
  simp only [List.getElem?_eq_getElem hj, List.getElem?_eq_getElem (by omega : j < l'.length), g3]
 ·simp [hj, show ¬ j < l'.length by omega]
theorem VRel.so_exact {t : Nat} {xs : List AV} {v : Value} (h : VRel G w (.so t xs) v) : ∃ vals, VRel G w (.sl t 1 (exact vals)) v /\ PW (LRel G w (root t)) xs vals /\ One vals /\ ∀ x ∈ xs, x.rowLike = true := by
 cases h with
 | froz h => cases h
 | so _ _ _ e vals h1 h2 h3 h4 h0 h5 =>
  exact ⟨vals, .own t 1 (exact vals) v e vals h1 (by rw [exact_len, <- h5.1]; exact h2) h3 (exact_wide vals) h0 exact_rel, h5, h0, h4⟩
theorem VRel.so_of {t : Nat} {xs : List AV} {v : Value} {vals : List Value} (ht : 2 <= t) (h : VRel G w (.sl t 1 (exact vals)) v) (hx : PW (LRel G w (root t)) xs vals) (hr : ∀ x ∈ xs, x.rowLike = true) : VRel G w (.so t xs) v := by
 generalize hE : exact vals = E at h
 cases h with
 | froz h => have := h.sl_lt; omega
 | own _ _ _ _ e vals' h1 h2 h3 h4 h0 h5 =>
  subst hE
  have := exact_inv h5
  subst this
  exact .so t xs v e vals' h1 (by rw [hx.1, <- exact_len vals']; exact h2) h3 hr h0 hx
def putLeaf (t i : Nat) (y : AV) : AV -> AV
 | .so t' xs => if t' = t then .so t ((xs.map (killRow t)).set i y) else .so t' (xs.map (killRow t))
 | .po t' xs j => if t' = t then .po t ((xs.map (killRow t)).set i y) j else .po t' (xs.map (killRow t)) j
 | .sl t' es xs => if t' = t then .any else .sl t' es xs
 | .pe t' es xs j o => if t' = t then .any else .pe t' es xs j o
 | .tl _ _ _ _ => .any
 | x => x
theorem VRel.put {t i b : Nat} {y : AV} {u : Value} {cur : Array Value} {e : TypeId} (hg : Good G w) (ht : 2 <= t) (hb : G b = .tag t) (hh : w.heap[b]? = some (.cells cur e (0, 0))) (h1 : u.oneCell' = true)
  (hy : y.rowLike = true) (hL : LRel G w (root t) y u) (hyt : ∀ es xs, y ≠ .sl t es xs) {x : AV} {v : Value} (h : VRel G w x v) :
  VRel G (w.setRow b (cur.toList.set i u).toArray) (x.mapTop (putLeaf t i y)) v := by
 have hset := setRow_heap w b cur (cur.toList.set i u).toArray e (0, 0) hh
 have hne : ∀ {k t'}, G k = .tag t' -> t' ≠ t -> k ≠ b := fun hk htt e => by subst e; rw [hb] at hk; cases hk; exact htt rfl
 have hF : ∀ {x v}, FRel (Stable G) w x v -> FRel (Stable G) (w.setRow b (cur.toList.set i u).toArray) x v := fun hr =>
  hr.mono (fun _ h => h) (fun b' hb' => heap_setRow_ne (fun h => by subst h; unfold Stable at hb'; rw [hb] at hb'; cases hb'))
 have hsl : ∀ {t' es xs v}, t' ≠ t -> VRel G w (.sl t' es xs) v -> VRel G (w.setRow b (cur.toList.set i u).toArray) (.sl t' es xs) v := by
  intro t' es xs v htt h
  cases h with
  | froz h => exact .froz (hF h)
  | own _ _ _ _ e' vals h2 h3 h4 h5 h0 h6 =>
   exact .own t' es xs v e' vals h2 (ownsRow_congr h3 fun k hk => heap_setRow_ne (hne (h4 k hk) htt)) h4 h5 h0 (h6.mono fun x y _ hr => hF hr)
 have hrow : ∀ {r x u'}, (∀ es xs, x ≠ .sl t es xs) -> LRel G w r x u' -> LRel G (w.setRow b (cur.toList.set i u).toArray) r x u' := by
  intro r x u' hx hr
  cases hr with
  | froz hr => exact .froz (hF hr)
  | own t' es xs _ e' vals h2 hrt h3 h4 h5 h0 h6 =>
   exact .own t' es xs _ e' vals h2 hrt (ownsRow_congr h3 fun k hk => heap_setRow_ne (hne (h4 k hk) (fun e => hx es xs (by rw [e])))) h4 h5 h0 (h6.mono fun x y _ hr => hF hr)
 have hkr : ∀ {r x u'}, x.rowLike = true -> LRel G w r x u' -> (killRow t x).rowLike = true /\ LRel G (w.setRow b (cur.toList.set i u).toArray) r (killRow t x) u' := by
  intro r x u' hx hr
  by_cases hs : ∃ es xs, x = .sl t es xs
  ·obtain ⟨es, xs, rfl⟩ := hs
   simp only [killRow, if_true]
   exact ⟨rfl, .froz (.any _)⟩
  ·have hx' : ∀ es xs, x ≠ .sl t es xs := fun es xs e => hs ⟨es, xs, e⟩
   have e : killRow t x = x := by
    cases x <;> first | rfl | skip
    simp only [killRow]; split
    ·rename_i htt; subst htt; exact absurd rfl (hx' _ _)
    ·rfl
   rw [e]; exact ⟨hx, hrow hx' hr⟩
 have hso : ∀ {t' xs v}, VRel G w (.so t' xs) v -> VRel G (w.setRow b (cur.toList.set i u).toArray) (if t' = t then .so t ((xs.map (killRow t)).set i y) else .so t' (xs.map (killRow t))) v := by
  intro t' xs v h
  by_cases htt : t' = t
  ·subst htt
   rw [if_pos rfl]
   cases h with
   | froz h => cases h
   | so _ _ _ e' vals g1 g2 g3 g4 g0 g5 =>
   have hlen : ((xs.map (killRow t')).set i y).length = xs.length := by simp
   have hlk : ∀ z ∈ xs.map (killRow t'), z.rowLike = true := fun z hz => by
    obtain ⟨x, hx, rfl⟩ := List.mem_map.1 hz
    obtain ⟨j, hj⟩ := List.getElem?_of_mem hx
    have hjl : j < vals.length := by rw [<- g5.1]; exact (List.getElem?_eq_some_iff.1 hj).1
    exact (hkr (g4 x hx) (g5.2 j x _ hj (List.getElem?_eq_getElem hjl))).1
   have hpw : PW (LRel G (w.setRow b (cur.toList.set i u).toArray) (root t')) ((xs.map (killRow t')).set i y) (vals.set i u) := by
    refine PW.set ⟨by simpa using g5.1, fun j z u' hz hu' => ?_⟩ i (hrow hyt hL)
    rw [List.getElem?_map] at hz
    cases hx : xs[j]? with
    | none => simp [hx] at hz
    | some x => simp [hx] at hz; subst hz; exact (hkr (g4 x (List.mem_of_getElem? hx)) (g5.2 j x u' hx hu')).2
   refine .so t' _ v e (vals.set i u) g1 ?_ g3 (fun z hz => ?_) (fun z hz => ?_) hpw
   ·rcases g2.2 with ⟨hv, hn⟩ | ⟨g, cap, cur', hv, hgb, hh', hnc, hcm, hcs, hct⟩
    ·exact ⟨by rw [List.length_set, hlen]; exact g2.1, .inl ⟨hv, by rw [hlen]; exact hn⟩⟩
    ·subst hv
     obtain rfl := hg.tags _ _ _ (g3 g rfl) hb
     rw [hh] at hh'
     simp only [Option.some.injEq, Obj.cells.injEq, and_true] at hh'
     obtain ⟨rfl, rfl⟩ := hh'
     refine ⟨by rw [List.length_set, hlen]; exact g2.1, .inr ⟨g, cap, _, by rw [hlen], Nat.zero_le _, hset, by rw [hlen]; exact hnc, hcm, by simpa using hcs, ?_⟩⟩
     rw [hlen]; simp only [List.take_set]; rw [hct]
   ·rcases List.mem_or_eq_of_mem_set hz with h' | h'
    ·exact hlk z h'
    ·rw [h']; exact hy
   ·rcases List.mem_or_eq_of_mem_set hz with h' | h'
    ·exact g0 z h'
    ·rw [h']; exact h1
  ·rw [if_neg htt]
   exact h.so_map h.so_two (fun x u' hx hr => hkr hx hr) (fun k hk => ⟨hk, heap_setRow_ne (hne hk htt)⟩)
 refine h.mapTop fun x v hx h => ?_
 cases x with
 | sl t' es xs =>
  simp only [putLeaf]; split
  ·exact .froz (.any _)
  ·rename_i htt; exact hsl htt h
 | pe t' es xs j o =>
  obtain ⟨b', off, c, h2, h3, rfl⟩ := h.pe_inv
  simp only [putLeaf]; split
  ·exact .froz (.any _)
  ·rename_i htt; exact .pe _ _ _ _ _ _ _ _ (hsl htt h2) h3
 | so t' xs => simp only [putLeaf]; exact hso h
 | po t' xs j =>
  obtain ⟨b', off, c, h2, h3, rfl⟩ := h.po_inv
  have := hso h2
  simp only [putLeaf]
  split at this
  ·rename_i htt; rw [if_pos htt]; exact this.po_of (by simp) h3
  ·rename_i htt; rw [if_neg htt]; exact this.po_of (by simp) h3
 | pb j o => obtain ⟨k, hk, rfl⟩ := h.pb_inv; exact .pb _ _ _ hk
 | ag cs => simp [AV.leafy] at hx
 | tup cs => simp [AV.leafy] at hx
 | any => exact .froz (.any _)
 | nil => rw [h.nil_inv]; exact .froz .nil
 | ub => obtain ⟨b, rfl⟩ := h.ub_inv; exact .froz (.ub b)
 | sc u => rw [h.sc_inv]; exact .froz (.sc _)
 | fn g caps => cases h with | froz h => exact .froz (hF h)
 | mp t' P k e' D => exact h.mpMono (fun _ hb => hb) (fun b' es cl _ hm => heap_setRow_ne (fun h => by subst h; rw [hh] at hm; cases hm))
 | cl g caps => exact h.clMono (fun _ h => h) (fun b' hb' => heap_setRow_ne (fun h => by subst h; unfold Stable at hb'; rw [hb] at hb'; cases hb')) (fun _ _ h => h)
 | tl t es xs i => exact .froz (.any _)
 | fp cs o => cases h with | froz h => exact .froz (hF h)
end
theorem flat_set {y : AV} (hy : y.cells = [y]) : ∀ (xs : List AV) (i : Nat), (∀ x ∈ xs, x.cells.length = 1) -> flat (xs.set i y) = (flat xs).set i y
 | [], i, _ => by simp [flat]
 | x :: xs, 0, h => by
  obtain ⟨c, hc⟩ : ∃ c, x.cells = [c] := by
   have := h x (by simp)
   cases hx : x.cells with
   | nil => simp [hx] at this
   | cons c r => cases r with
    | nil => exact ⟨c, rfl⟩
    | cons _ _ => simp [hx] at this
  simp [flat, hy, hc]
 | x :: xs, i + 1, h => by
  obtain ⟨c, hc⟩ : ∃ c, x.cells = [c] := by
   have := h x (by simp)
   cases hx : x.cells with
   | nil => simp [hx] at this
   | cons c r => cases r with
    | nil => exact ⟨c, rfl⟩
    | cons _ _ => simp [hx] at this
  have ih := flat_set hy xs i fun z hz => h z (by simp [hz])
  simp only [flat] at ih
  simp [flat, hc, ih]
theorem leafy_cells {y : AV} (h : y.leafy = true) : y.cells = [y] := by cases y <;> first | rfl | (simp [AV.leafy] at h)
theorem flat_leaf : ∀ {ys : List AV}, leafAll ys = true -> flat ys = ys
 | [], _ => rfl
 | y :: ys, h => by
  simp only [leafAll, List.all_cons, Bool.and_eq_true] at h
  have := flat_leaf (ys := ys) h.2
  simp only [flat] at this
  simp [flat, leafy_cells h.1, this]
theorem flat_setSeg : ∀ (ys xs : List AV) (i : Nat), (∀ x ∈ xs, x.cells.length = 1) -> leafAll ys = true -> flat (setSeg xs i ys) = setSeg (flat xs) i ys /\ ∀ x ∈ setSeg xs i ys, x.cells.length = 1
 | [], xs, i, h, _ => ⟨rfl, h⟩
 | y :: ys, xs, i, h, hl => by
  simp only [leafAll, List.all_cons, Bool.and_eq_true] at hl
  have hy := leafy_cells hl.1
  have h' : ∀ x ∈ xs.set i y, x.cells.length = 1 := fun x hx => by
   rcases List.mem_or_eq_of_mem_set hx with hx | rfl
   ·exact h x hx
   ·rw [hy]; rfl
  have ih := flat_setSeg ys (xs.set i y) (i + 1) h' hl.2
  simp only [setSeg]
  rw [<- flat_set hy xs i h]
  exact ih
def copyLeaf (t i : Nat) (ys : List AV) : AV -> AV
 | .so _ _ => .any
 | .po _ _ _ => .any
 | .sl t' es' xs => if t' = t then (if es' = 1 then .sl t 1 (setSeg xs i ys) else .any) else .sl t' es' xs
 | .pe t' es' xs i' o' => if t' = t then .any else .pe t' es' xs i' o'
 | .tl _ _ _ _ => .any
 | x => x
section
variable {G : Nat -> Status} {w : World} {t i b : Nat} {ys : List AV} {vs : List Value} {cur : Array Value} {e : TypeId}
theorem VRel.copied (hg : Good G w) (ht : 2 <= t) (hb : G b = .tag t) (hh : w.heap[b]? = some (.cells cur e (0, 0))) (hl : leafAll ys = true)
  (hy : PW (FRel (Stable G) w) ys vs) (h1 : One vs) {x : AV} {v : Value} (h : VRel G w x v) :
  VRel G (w.setRow b (setSeg cur.toList i vs).toArray) (x.mapTop (copyLeaf t i ys)) v := by
 have hset := setRow_heap w b cur (setSeg cur.toList i vs).toArray e (0, 0) hh
 have hF : ∀ {x v}, FRel (Stable G) w x v -> FRel (Stable G) (w.setRow b (setSeg cur.toList i vs).toArray) x v := fun hr =>
  hr.mono (fun _ h => h) (fun b' hb' => heap_setRow_ne (fun h => by subst h; unfold Stable at hb'; rw [hb] at hb'; cases hb'))
 have hsl : ∀ {t' es' xs v}, VRel G w (.sl t' es' xs) v -> VRel G (w.setRow b (setSeg cur.toList i vs).toArray) (copyLeaf t i ys (.sl t' es' xs)) v := by
  intro t' es' xs v h
  simp only [copyLeaf]
  cases h with
  | froz h =>
   have : t' < 2 := by cases h <;> assumption
   rw [if_neg (by omega)]
   exact .froz (hF h)
  | own _ _ _ _ e' vals h2 h3 h4 h5 h0 h6 =>
   by_cases htt : t' = t
   ·subst htt
    rw [if_pos rfl]
    by_cases hes : es' = 1
    ·subst hes
     rw [if_pos rfl]
     obtain ⟨hflat, hwid⟩ := flat_setSeg ys xs i h5 hl
     have hlen : (setSeg xs i ys).length = xs.length := setSeg_length _ _ _
     rcases h3.2 with ⟨hv, hn⟩ | ⟨g, cap, cur', hv, hgb, hh', hnc, hcm, hcs, hct⟩
     ·subst hv
      obtain rfl := List.eq_nil_of_length_eq_zero hn
      have : setSeg ([] : List AV) i ys = [] := setSeg_out _ _ _ (by simp)
      rw [this]
      refine .own t' 1 [] _ e' vals h2 ⟨h3.1, .inl ⟨rfl, rfl⟩⟩ (fun b hb => by simp [Value.ownBlock] at hb) (by simp) h0 ⟨h6.1, fun j x u hx hu => hF (h6.2 j x u hx hu)⟩
     ·subst hv
      obtain rfl := hg.tags _ _ _ (h4 g rfl) hb
      rw [hh] at hh'
      simp only [Option.some.injEq, Obj.cells.injEq, and_true] at hh'
      obtain ⟨rfl, rfl⟩ := hh'
      refine .own t' 1 _ _ e (AM.setSeg vals i vs) h2 ⟨?_, .inr ⟨g, cap, _, by rw [hlen], Nat.zero_le _, hset, by rw [hlen]; exact hnc, hcm, ?_, ?_⟩⟩ (fun b' hb' => ?_) hwid (One.setSeg _ h1 h0) ?_
      ·rw [setSeg_length, hlen]; exact h3.1
      ·simp only [List.size_toArray, setSeg_length, Array.length_toList]; exact hcs
      ·rw [hlen]; simp only [setSeg_take]; rw [hct]
      ·simp only [Value.ownBlock, Option.some.injEq] at hb'; rw [<- hb']; exact hb
      ·rw [hflat]
       exact (PW.setSeg _ hy h6).mono fun x y _ hr => hF hr
    ·rw [if_neg hes]; exact .froz (.any _)
   ·rw [if_neg htt]
    refine .own t' es' xs v e' vals h2 (ownsRow_congr h3 fun b' hb' => heap_setRow_ne (fun h => ?_)) h4 h5 h0 (h6.mono fun x y _ hr => hF hr)
    subst h
    have := h4 _ hb'
    rw [hb] at this; cases this; exact htt rfl
 refine h.mapTop fun x v hx h => ?_
 cases x with
 | so t' xs => exact .froz (.any _)
 | po t' xs i' => exact .froz (.any _)
 | tl t' es' xs i' => exact .froz (.any _)
 | sl t' es' xs => exact hsl h
 | pe t' es' xs i' o' =>
  obtain ⟨b', off, c, h2, h3, rfl⟩ := h.pe_inv
  have := hsl h2
  simp only [copyLeaf] at this ⊢
  by_cases htt : t' = t
  ·rw [if_pos htt]; exact .froz (.any _)
  ·rw [if_neg htt] at this ⊢
   exact .pe _ _ _ _ _ _ _ _ this h3
 | pb i o => obtain ⟨b, hb, rfl⟩ := h.pb_inv; exact .pb _ _ _ hb
 | ag cs => simp [AV.leafy] at hx
 | tup cs => simp [AV.leafy] at hx
 | any => exact .froz (.any _)
 | nil => rw [h.nil_inv]; exact .froz .nil
 | ub => obtain ⟨b, rfl⟩ := h.ub_inv; exact .froz (.ub b)
 | sc u => rw [h.sc_inv]; exact .froz (.sc _)
 | fn g caps => cases h with | froz h => exact .froz (hF h)
 | mp t' P k e' D => exact h.mpMono (fun _ hb => hb) (fun b' es cl _ hm => heap_setRow_ne (fun h => by subst h; rw [hh] at hm; cases hm))
 | cl g caps => exact h.clMono (fun _ h => h) (fun b' hb' => heap_setRow_ne (fun h => by subst h; unfold Stable at hb'; rw [hb] at hb'; cases hb')) (fun _ _ h => h)
 | fp cs o => cases h with | froz h => exact .froz (hF h)
def copyDst : AV -> Option (Nat × List AV × Nat)
 | .sl t 1 xs => some (t, xs, 0)
 | .tl t 1 xs i => some (t, xs, i)
 | _ => none
theorem VRel.ownRow {xs : List AV} {v : Value} (h : VRel G w (.sl t 1 xs) v) (ht : 2 <= t) (hn : 0 < xs.length) :
  ∃ g c cur e, v = .slice (some ⟨g, 0, none⟩) xs.length c /\ G g = .tag t /\ w.heap[g]? = some (.cells cur e (0, 0)) /\ xs.length <= cur.size := by
 cases h with
 | froz h => exfalso; cases h <;> omega
 | own _ _ _ _ e vals _ g2 g3 g4 g0 g5 =>
  rcases g2.2 with ⟨_, hz⟩ | ⟨g, cap, cur, hv, _, hh, hnc, hcm, hcs, hct⟩
  ·omega
  ·exact ⟨g, cap, cur, e, hv, g3 g (by rw [hv]; rfl), hh, by rw [hcs]; omega⟩
theorem copyDst_inv {x : AV} {xs : List AV} {v : Value} (hd : copyDst x = some (t, xs, i)) (h : VRel G w x v) (ht : 2 <= t) (hi : i < xs.length) :
  ∃ g c cur e, v = .slice (some ⟨g, i, none⟩) (xs.length - i) c /\ G g = .tag t /\ w.heap[g]? = some (.cells cur e (0, 0)) /\ xs.length <= cur.size := by
 unfold copyDst at hd
 split at hd
 ·cases hd
  obtain ⟨g, c, cur, e, rfl, h1, h2, h3⟩ := h.ownRow ht (by omega)
  exact ⟨g, c, cur, e, rfl, h1, h2, h3⟩
 ·cases hd
  obtain ⟨b, off, off', c, h1, h2, h3, hc, rfl⟩ := h.tl_inv
  obtain ⟨g, c', cur, e, hv, k1, k2, k3⟩ := h1.ownRow ht (by omega)
  cases hv
  obtain rfl : off' = 0 + i * 1 := by rcases h3 with h3 | h3 <;> omega
  exact ⟨b, c - i, cur, e, by simp, k1, k2, k3⟩
 ·cases hd
end
section
variable {P : Program}
def evCopy (P : Program) (T : TypeId) (d : Nat) (σ : St) (x y : AV) (K : St -> Prop) : Prop :=
 match copyDst x, y with
 | some (t, xs, i), .sl _ 1 ys => 2 <= t /\ (∃ E q, P.underlying T = some (.slice E) /\ tinfo P E = some q /\ q.1 = 1) /\ i < xs.length /\ 0 < ys.length /\ leafAll ys = true /\
   K ((σ.map (copyLeaf t i (ys.take (xs.length - i)))).put (some d) (.sc (.int .i64 (min ys.length (xs.length - i) : Nat))))
 | _, _ => False
theorem evCopy_sound {T T' : TypeId} {σ : St} {K : St -> Prop} {G0 w0 G a w} {d : Nat} {o : Oper} {x y : Operand} (ho : o.op = .call ⟨.builtin .copy, #[x, y], #[T, T']⟩) (hd : o.dst = some d) (hdn : d < σ.n) (h : SRel G0 w0 σ G a w)
  (hw : evCopy P T d σ (σ.ev x) (σ.ev y) K) : ∃ v w', (execOp a.eval o).run P w = .ok (.value v) w' /\ ∃ σ' G', K σ' /\ SRel G0 w0 σ' G' (a.put o.dst v) w' := by
 unfold evCopy at hw
 split at hw
 ·rename_i t xs i t' ys hcd hy
  obtain ⟨ht, ⟨E, ⟨sz, by_, z⟩, hT, hq, hs1⟩, hi, hyl, hla, hk⟩ := hw
  simp only at hs1; subst hs1
  obtain ⟨ti, hti, hsz, _, _⟩ := tinfo_some hq
  obtain ⟨g, c, cur, e, hxv, hgt, hh, hcs⟩ := copyDst_inv hcd (h.ev x) ht hi
  have hyv := h.ev y
  rw [hy] at hyv
  rcases hyv.news with ⟨rfl, _⟩ | ⟨ya, yc, news, hyv', h1, h2, h3, h4, h5⟩
  ·simp at hyl
  ·rw [flat_leaf hla] at h5
   have hnl : news.length = ys.length := by rw [h1]; omega
   have hkl : (news.take (xs.length - i)).length = min ys.length (xs.length - i) := by rw [List.length_take, hnl]; omega
   have hrun := run_copy_row P w T T' o.type E g i (xs.length - i) c ya ys.length yc cur e (news.take (xs.length - i)) hT (by rw [hti]; simp [hsz]) hh hkl
    (fun j v hj => by
     rw [List.getElem?_take] at hj
     split at hj
     ·exact h2 j v hj
     ·cases hj) (by rw [hkl]; have := hi; omega) (fun v hv => h3 v (List.mem_of_mem_take hv))
   have hseg : cur.toList.take i ++ news.take (xs.length - i) ++ cur.toList.drop (i + (news.take (xs.length - i)).length) = setSeg cur.toList i (news.take (xs.length - i)) := by
    rw [setSeg_eq _ _ _ (by rw [hkl]; simp; omega)]
   rw [hseg, hkl] at hrun
   have hla' : leafAll (ys.take (xs.length - i)) = true := by
    simp only [leafAll, List.all_eq_true] at hla ⊢
    exact fun z hz => hla z (List.mem_of_mem_take hz)
   have hst : ∀ {x v}, VRel G w x v -> VRel G (w.setRow g (setSeg cur.toList i (news.take (xs.length - i))).toArray) (x.mapTop (copyLeaf t i (ys.take (xs.length - i)))) v := fun hr =>
    hr.copied h.good ht hgt hh hla' (h5.take _) (fun v hv => h3 v (List.mem_of_mem_take hv))
   refine ⟨goInt (min ys.length (xs.length - i) : Nat), w.setRow g (setSeg cur.toList i (news.take (xs.length - i))).toArray, ?_, (σ.map (copyLeaf t i (ys.take (xs.length - i)))).put (some d) (.sc (.int .i64 (min ys.length (xs.length - i) : Nat))), G, hk, ?_⟩
   ·simp [execOp, ho, resolve, invoke, builtin, hxv, hyv', hrun]
   ·have hmap : SRel G0 w0 (σ.map (copyLeaf t i (ys.take (xs.length - i)))) G a (w.setRow g (setSeg cur.toList i (news.take (xs.length - i))).toArray) := by
     refine { h with good := ⟨fun b hb => by simpa [World.setRow] using h.good.lt b hb, h.good.tags, h.good.boxes⟩, slots := fun s => ?_, boxes := ⟨fun i vs hv => by have := h.boxes.low i vs hv; simpa [St.map, mapB_eq] using this, fun j cs' hj => ?_⟩, blt := fun b i hb => by have := h.blt b i hb; simpa [St.map, mapB_eq] using this, hsize := by simpa [World.setRow] using h.hsize, keep := fun b' hb' hn hnt => ?_, stat := h.stat }
     ·have : (σ.map (copyLeaf t i (ys.take (xs.length - i)))).get s = (σ.get s).mapTop (copyLeaf t i (ys.take (xs.length - i))) := lookT_map rfl σ.tmps s
      rw [this]; exact hst (h.slots s)
     ·simp only [St.map, mapB_eq, List.getElem?_map] at hj
      cases hc' : σ.boxes[j]? with
      | none => simp [hc'] at hj
      | some cs'' =>
       simp [hc'] at hj; subst hj
       rw [mapTops_eq]
       exact (h.boxes.cell j cs'' hc').map (fun x v hr => hst hr) (fun b'' k1 => ⟨k1, heap_setRow_ne fun h => by subst h; rw [hgt] at k1; cases k1⟩) fun h0 => h0
     ·have hne : b' ≠ g := fun h' => by
       subst h'
       have := h.stat b' hb' hnt
       rw [hgt] at this
       exact hnt t this.symm
      rw [heap_setRow_ne hne]; exact h.keep b' hb' hn hnt
    rw [hd]
    exact hmap.add (.refl G _) hmap.good (fun _ _ h => h) (d := some d) (x := .sc (goInt (min ys.length (xs.length - i) : Nat))) (v := goInt (min ys.length (xs.length - i) : Nat)) (by simp [dstOk, St.map, hdn]) (.froz (.sc _))
 ·exact hw.elim
theorem run_clear_row {w : World} {t e ty : TypeId} {by_ : Nat} {z : Value} (ht : P.underlying t = some (.slice e)) (hq : tinfo P e = some (1, by_, some z)) (hz : z.cells = #[z]) (h1 : z.oneCell' = true) {b o n c : Nat} {cur : Array Value} {e' : TypeId} (hn : 0 < n)
  (hh : w.heap[b]? = some (.cells cur e' (0, 0))) (hfit : o + n <= cur.size) :
  (Builtin.clear_ #[t] ty #[.slice (some ⟨b, o, none⟩) n c]).run P w = .ok (.tuple #[]) (w.setRow b (setSeg cur.toList o (List.replicate n z)).toArray) := by
 obtain ⟨ti, hi, hsz, hby, hzz⟩ := tinfo_some hq
 have hv : ∀ w, (zeroValue e).run P w = .ok z w := fun w => by simp [zeroValue, typeInfo, hi, hzz]
 have hcl : ∀ j, j < n -> (w.cell? ⟨b, o + j, none⟩).isSome = true := fun j hj => by
  simp only [World.cell?, hh]
  simp; omega
 have hfz : ∀ j, j < n -> w.frozen? ⟨b, o + j, none⟩ = false := fun j _ => by simp [World.frozen?, hh]
 have hr := Go.Lib.run_clear_slice (P := P) w t e ty z ht hv hz h1 b o n c hn hcl hfz
 have s1 := run_storeCells_cells (P := P) b o (List.replicate n z) 0 w (by simpa using hcl) (by simpa using hfz) (by intro v hv'; rw [List.eq_of_mem_replicate hv']; exact h1)
 have s2 := run_storeCells_at P b o e' (List.replicate n z) 0 cur w hh (by simpa using hfit) (by intro v hv'; rw [List.eq_of_mem_replicate hv']; exact h1)
 simp only [Nat.add_zero] at s1 s2
 rw [s2] at s1
 have hseg : cur.toList.take o ++ List.replicate n z ++ cur.toList.drop (o + (List.replicate n z).length) = setSeg cur.toList o (List.replicate n z) := by
  rw [setSeg_eq _ _ _ (by simp; omega)]
 rw [hseg] at s1
 injection s1 with _ hw
 rw [hr, hw]
theorem run_clear_wide {w : World} {t e ty : TypeId} {sz by_ : Nat} {z : Value} (ht : P.underlying t = some (.slice e)) (hq : tinfo P e = some (sz, by_, some z)) (hz : 0 < z.cells.size) (h1 : ∀ v ∈ z.cells.toList, v.oneCell' = true) {b o n c : Nat} {cur : Array Value} {e' : TypeId} (hn : 0 < n)
  (hh : w.heap[b]? = some (.cells cur e' (0, 0))) (hfit : o + n * z.cells.size <= cur.size) : ∃ L : List Value, L.length = n * z.cells.size /\ One L /\
  (Builtin.clear_ #[t] ty #[.slice (some ⟨b, o, none⟩) n c]).run P w = .ok (.tuple #[]) (w.setRow b (setSeg cur.toList o L).toArray) := by
 obtain ⟨ti, hi, hsz, hby, hzz⟩ := tinfo_some hq
 have hv : ∀ w, (zeroValue e).run P w = .ok z w := fun w => by simp [zeroValue, typeInfo, hi, hzz]
 have hlen : (Builtin.zeroCells z.cells n).toList.length = n * z.cells.size := by simp [Builtin.zeroCells]
 have hone : One (Builtin.zeroCells z.cells n).toList := fun u hu => by
  simp only [Builtin.zeroCells, Array.toList_map, List.mem_map] at hu
  obtain ⟨j, _, rfl⟩ := hu
  have hj : j % z.cells.size < z.cells.size := Nat.mod_lt _ hz
  rw [getElem!_pos z.cells _ hj]
  exact h1 _ (by rw [Array.mem_toList_iff]; exact Array.getElem_mem hj)
 refine ⟨_, hlen, hone, ?_⟩
 have s2 := run_storeCells_at P b o e' (Builtin.zeroCells z.cells n).toList 0 cur w hh (by rw [hlen]; simpa using hfit) hone
 simp only [Nat.add_zero] at s2
 have hseg : cur.toList.take o ++ (Builtin.zeroCells z.cells n).toList ++ cur.toList.drop (o + (Builtin.zeroCells z.cells n).toList.length) = setSeg cur.toList o (Builtin.zeroCells z.cells n).toList := by
  rw [setSeg_eq _ _ _ (by rw [hlen]; simpa using hfit)]
 rw [hseg] at s2
 obtain ⟨m, rfl⟩ : ∃ m, n = m + 1 := ⟨n - 1, by omega⟩
 simp [Builtin.clear_, run_underlying ht, hv, s2]
def clrLeaf (t es i : Nat) : AV -> AV
 | .so _ _ => .any
 | .po _ _ _ => .any
 | .sl t' es' xs => if t' = t then (if es' = es then .sl t' es' (xs.take i ++ List.replicate (xs.length - i) (.ag (List.replicate es' .any))) else .any) else .sl t' es' xs
 | .pe t' es' xs i' o' => if t' = t then .any else .pe t' es' xs i' o'
 | .tl _ _ _ _ => .any
 | x => x
theorem clr_flat {es i : Nat} {xs : List AV} (hw : ∀ x ∈ xs, x.cells.length = es) (hes : 0 < es) {j : Nat} {y : AV} (h : (flat (xs.take i ++ List.replicate (xs.length - i) (.ag (List.replicate es .any))))[j]? = some y) : y = .any \/ (j < i * es /\ (flat xs)[j]? = some y) := by
 have e : flat (xs.take i ++ List.replicate (xs.length - i) (.ag (List.replicate es .any))) = (flat xs).take (i * es) ++ flat (List.replicate (xs.length - i) (AV.ag (List.replicate es .any))) := by
  rw [<- flat_take i hw]; simp [flat]
 rw [e, List.getElem?_append] at h
 have hc : (AV.ag (List.replicate es .any)).cells = List.replicate es .any := rfl
 split at h
 ·rw [List.getElem?_take] at h
  split at h
  ·rename_i h2; exact .inr ⟨h2, h⟩
  ·cases h
 ·generalize j - ((flat xs).take (i * es)).length = q at h
  by_cases hq : q < (xs.length - i) * es
  ·rw [flat_replicate (x := AV.ag (List.replicate es .any)) _ q (by rw [hc]; simpa using hes) (by rw [hc]; simpa using hq), hc] at h
   exact .inl (List.eq_of_mem_replicate (List.mem_of_getElem? h))
  ·have hl : (flat (List.replicate (xs.length - i) (AV.ag (List.replicate es .any)))).length = (xs.length - i) * es := by
    rw [flat_length (es := es) (fun x hx => by rw [List.eq_of_mem_replicate hx, hc]; simp)]; simp
   rw [List.getElem?_eq_none (by omega)] at h
   cases h
theorem clr_wide {es i : Nat} {xs : List AV} (hw : ∀ x ∈ xs, x.cells.length = es) : ∀ x ∈ xs.take i ++ List.replicate (xs.length - i) (AV.ag (List.replicate es .any)), x.cells.length = es := fun x hx => by
 rcases List.mem_append.1 hx with hx | hx
 ·exact hw x (List.mem_of_mem_take hx)
 ·rw [List.eq_of_mem_replicate hx]
  show (List.replicate es AV.any).length = es
  simp
theorem VRel.cleared {G : Nat -> Status} {w : World} {t es i b : Nat} {L : List Value} {cur : Array Value} {e : TypeId} (hg : Good G w) (ht : 2 <= t) (hb : G b = .tag t) (hh : w.heap[b]? = some (.cells cur e (0, 0))) (hes : 0 < es)
  (h1 : One L) {x : AV} {v : Value} (h : VRel G w x v) :
  VRel G (w.setRow b (setSeg cur.toList (i * es) L).toArray) (x.mapTop (clrLeaf t es i)) v := by
 have hset := setRow_heap w b cur (setSeg cur.toList (i * es) L).toArray e (0, 0) hh
 have hF : ∀ {x v}, FRel (Stable G) w x v -> FRel (Stable G) (w.setRow b (setSeg cur.toList (i * es) L).toArray) x v := fun hr =>
  hr.mono (fun _ h => h) (fun b' hb' => heap_setRow_ne (fun h => by subst h; unfold Stable at hb'; rw [hb] at hb'; cases hb'))
 have hsl : ∀ {t' es' xs v}, VRel G w (.sl t' es' xs) v -> VRel G (w.setRow b (setSeg cur.toList (i * es) L).toArray) (clrLeaf t es i (.sl t' es' xs)) v := by
  intro t' es' xs v h
  simp only [clrLeaf]
  cases h with
  | froz h =>
   have : t' < 2 := by cases h <;> assumption
   rw [if_neg (by omega)]
   exact .froz (hF h)
  | own _ _ _ _ e' vals h2 h3 h4 h5 h0 h6 =>
   by_cases htt : t' = t
   ·subst htt
    rw [if_pos rfl]
    by_cases hee : es' = es
    ·subst hee
     rw [if_pos rfl]
     have hlen : (xs.take i ++ List.replicate (xs.length - i) (AV.ag (List.replicate es' .any))).length = xs.length := by
      rw [List.length_append, List.length_take, List.length_replicate]; omega
     have hfl : (flat (xs.take i ++ List.replicate (xs.length - i) (AV.ag (List.replicate es' .any)))).length = (flat xs).length := by
      rw [flat_length (clr_wide h5), flat_length h5, hlen]
     have hpw : PW (FRel (Stable G) (w.setRow b (setSeg cur.toList (i * es') L).toArray)) (flat (xs.take i ++ List.replicate (xs.length - i) (AV.ag (List.replicate es' .any)))) (setSeg vals (i * es') L) := by
      refine ⟨by rw [hfl, setSeg_length]; exact h6.1, fun j y u hy hu => ?_⟩
      rcases clr_flat h5 hes hy with rfl | ⟨hj, hy'⟩
      ·exact .any _
      ·have e1 : (setSeg vals (i * es') L).take (i * es') = vals.take (i * es') := by
        rw [setSeg_take, setSeg_out _ _ _ (by rw [List.length_take]; omega)]
       have e2 := congrArg (fun l : List Value => l[j]?) e1
       simp only [List.getElem?_take, if_pos hj] at e2
       rw [e2] at hu
       exact hF (h6.2 j y u hy' hu)
     rcases h3.2 with ⟨hv, hn⟩ | ⟨g, cap, cur', hv, hgb, hh', hnc, hcm, hcs, hct⟩
     ·subst hv
      obtain rfl := List.eq_nil_of_length_eq_zero hn
      have hvl : vals = [] := by
       have := h6.1
       simp [flat] at this
       exact List.eq_nil_of_length_eq_zero this.symm
      subst hvl
      have e0 : setSeg ([] : List Value) (i * es') L = [] := setSeg_out _ _ _ (by simp)
      rw [e0] at hpw
      refine .own t' es' _ _ e' [] h2 (by simpa using ⟨h3.1, .inl ⟨rfl, rfl⟩⟩) (fun b hb => by simp [Value.ownBlock] at hb) (clr_wide h5) h0 hpw
     ·subst hv
      obtain rfl := hg.tags _ _ _ (h4 g rfl) hb
      rw [hh] at hh'
      simp only [Option.some.injEq, Obj.cells.injEq, and_true] at hh'
      obtain ⟨rfl, rfl⟩ := hh'
      refine .own t' es' _ _ e (AM.setSeg vals (i * es') L) h2 ⟨?_, .inr ⟨g, cap, _, by rw [hlen], Nat.zero_le _, hset, by rw [hlen]; exact hnc, hcm, ?_, ?_⟩⟩ (fun b' hb' => ?_) (clr_wide h5) (One.setSeg _ h1 h0) hpw
      ·rw [setSeg_length, hlen]; exact h3.1
      ·simp only [List.size_toArray, setSeg_length, Array.length_toList]; exact hcs
      ·rw [hlen]; simp only [setSeg_take]; rw [hct]
      ·simp only [Value.ownBlock, Option.some.injEq] at hb'; rw [<- hb']; exact hb
    ·rw [if_neg hee]; exact .froz (.any _)
   ·rw [if_neg htt]
    refine .own t' es' xs v e' vals h2 (ownsRow_congr h3 fun b' hb' => heap_setRow_ne (fun h => ?_)) h4 h5 h0 (h6.mono fun x y _ hr => hF hr)
    subst h
    have := h4 _ hb'
    rw [hb] at this; cases this; exact htt rfl
 refine h.mapTop fun x v hx h => ?_
 cases x with
 | so t' xs => exact .froz (.any _)
 | po t' xs i' => exact .froz (.any _)
 | tl t' es' xs i' => exact .froz (.any _)
 | sl t' es' xs => exact hsl h
 | pe t' es' xs i' o' =>
  obtain ⟨b', off, c, h2, h3, rfl⟩ := h.pe_inv
  have := hsl h2
  simp only [clrLeaf] at this ⊢
  by_cases htt : t' = t
  ·rw [if_pos htt]; exact .froz (.any _)
  ·rw [if_neg htt] at this ⊢
   exact .pe _ _ _ _ _ _ _ _ this h3
 | pb i o => obtain ⟨b, hb, rfl⟩ := h.pb_inv; exact .pb _ _ _ hb
 | ag cs => simp [AV.leafy] at hx
 | tup cs => simp [AV.leafy] at hx
 | any => exact .froz (.any _)
 | nil => rw [h.nil_inv]; exact .froz .nil
 | ub => obtain ⟨b, rfl⟩ := h.ub_inv; exact .froz (.ub b)
 | sc u => rw [h.sc_inv]; exact .froz (.sc _)
 | fn g caps => cases h with | froz h => exact .froz (hF h)
 | mp t' P k e' D => exact h.mpMono (fun _ hb => hb) (fun b' es cl _ hm => heap_setRow_ne (fun h => by subst h; rw [hh] at hm; cases hm))
 | cl g caps => exact h.clMono (fun _ h => h) (fun b' hb' => heap_setRow_ne (fun h => by subst h; unfold Stable at hb'; rw [hb] at hb'; cases hb')) (fun _ _ h => h)
 | fp cs o => cases h with | froz h => exact .froz (hF h)
theorem VRel.ownTail {G : Nat -> Status} {w : World} {t es i : Nat} {xs : List AV} {v : Value} (h : VRel G w (.tl t es xs i) v) (ht : 2 <= t) (hi : i < xs.length) :
  ∃ g c cur e, v = .slice (some ⟨g, i * es, none⟩) (xs.length - i) c /\ G g = .tag t /\ w.heap[g]? = some (.cells cur e (0, 0)) /\ xs.length * es <= cur.size := by
 obtain ⟨b, off, off', c, h1, h2, h3, hc, rfl⟩ := h.tl_inv
 cases h1 with
 | froz h => exfalso; cases h <;> omega
 | own _ _ _ _ e vals _ g2 g3 g4 g0 g5 =>
  rcases g2.2 with ⟨_, hz⟩ | ⟨g, cap, cur, hv, _, hh, hnc, hcm, hcs, hct⟩
  ·omega
  ·cases hv
   have ho : off' = i * es := by rcases h3 with h3 | h3 <;> omega
   refine ⟨b, c - i, cur, e, by rw [ho], g3 b rfl, hh, ?_⟩
   rw [hcs]; exact Nat.mul_le_mul_right _ hnc
def evClear (P : Program) (T : TypeId) (σ : St) (x : AV) (K : St -> Prop) : Prop :=
 match copyDst x with
 | some (t, xs, i) => 2 <= t /\ i < xs.length /\ ∃ E q z, P.underlying T = some (.slice E) /\ tinfo P E = some q /\ q.1 = 1 /\ q.2.2 = some z /\ z.cells = #[z] /\ z.oneCell' = true /\ leafAll [ofConst z] = true /\
   K (σ.map (copyLeaf t i (List.replicate (xs.length - i) (ofConst z))))
 | none => match x with
  | .tl t es xs i => 2 <= t /\ i < xs.length /\ ∃ E q z, P.underlying T = some (.slice E) /\ tinfo P E = some q /\ q.1 = es /\ q.2.2 = some z /\ z.cells.size = es /\ 0 < es /\ (z.cells.toList.all Value.oneCell') = true /\ K (σ.map (clrLeaf t es i))
  | _ => False
theorem evClear_sound {T : TypeId} {σ : St} {K : St -> Prop} {G0 w0 G a w} {o : Oper} {x : Operand} (ho : o.op = .call ⟨.builtin .clear, #[x], #[T]⟩) (hd : o.dst = none) (h : SRel G0 w0 σ G a w)
  (hw : evClear P T σ (σ.ev x) K) : ∃ v w', (execOp a.eval o).run P w = .ok (.value v) w' /\ ∃ σ' G', K σ' /\ SRel G0 w0 σ' G' (a.put o.dst v) w' := by
 unfold evClear at hw
 split at hw
 ·rename_i t xs i hcd
  obtain ⟨ht, hi, E, ⟨sz, by_, z0⟩, z, hT, hq, hs1, hz0, hz, h1, hla, hk⟩ := hw
  simp only at hs1 hz0; subst hs1; subst hz0
  obtain ⟨g, c, cur, e, hxv, hgt, hh, hcs⟩ := copyDst_inv hcd (h.ev x) ht hi
  have hrun := run_clear_row (P := P) (ty := o.type) (c := c) hT hq hz h1 (o := i) (n := xs.length - i) (by omega) hh (by omega)
  have hla' : leafAll (List.replicate (xs.length - i) (ofConst z)) = true := by
   simp only [leafAll, List.all_eq_true] at hla ⊢
   intro y hy
   rw [List.eq_of_mem_replicate hy]
   exact hla _ (by simp)
  have hone : One (List.replicate (xs.length - i) z) := fun u hu => by rw [List.eq_of_mem_replicate hu]; exact h1
  have hpz : PW (FRel (Stable G) w) (List.replicate (xs.length - i) (ofConst z)) (List.replicate (xs.length - i) z) := by
   refine ⟨by simp, fun j y u hy hu => ?_⟩
   have ey : y = ofConst z := List.eq_of_mem_replicate (List.mem_of_getElem? hy)
   have eu : u = z := List.eq_of_mem_replicate (List.mem_of_getElem? hu)
   subst ey; subst eu
   obtain ⟨hp, _⟩ := ofConst_cells (S := Stable G) (w := w) u (by rw [hz]; simpa using h1)
   have hc1 : (ofConst u).cells = [ofConst u] := leafy_cells (by simpa [leafAll] using hla)
   rw [hc1, hz] at hp
   exact hp.2 0 _ _ rfl rfl
  have hst : ∀ {x v}, VRel G w x v -> VRel G (w.setRow g (setSeg cur.toList i (List.replicate (xs.length - i) z)).toArray) (x.mapTop (copyLeaf t i (List.replicate (xs.length - i) (ofConst z)))) v := fun hr =>
   hr.copied h.good ht hgt hh hla' hpz hone
  refine ⟨.tuple #[], w.setRow g (setSeg cur.toList i (List.replicate (xs.length - i) z)).toArray, ?_, σ.map (copyLeaf t i (List.replicate (xs.length - i) (ofConst z))), G, hk, ?_⟩
  ·simp [execOp, ho, resolve, invoke, builtin, hxv, hrun]
  ·rw [hd]
   refine { h with good := ⟨fun b hb => by simpa [World.setRow] using h.good.lt b hb, h.good.tags, h.good.boxes⟩, slots := fun s => ?_, boxes := ⟨fun i vs hv => by have := h.boxes.low i vs hv; simpa [St.map, mapB_eq] using this, fun j cs' hj => ?_⟩, blt := fun b i hb => by have := h.blt b i hb; simpa [St.map, mapB_eq] using this, hsize := by simpa [World.setRow] using h.hsize, keep := fun b' hb' hn hnt => ?_, stat := h.stat }
   ·have : (σ.map (copyLeaf t i (List.replicate (xs.length - i) (ofConst z)))).get s = (σ.get s).mapTop (copyLeaf t i (List.replicate (xs.length - i) (ofConst z))) := lookT_map rfl σ.tmps s
    rw [this]; exact hst (h.slots s)
   ·simp only [St.map, mapB_eq, List.getElem?_map] at hj
    cases hc' : σ.boxes[j]? with
    | none => simp [hc'] at hj
    | some cs'' =>
     simp [hc'] at hj; subst hj
     rw [mapTops_eq]
     exact (h.boxes.cell j cs'' hc').map (fun x v hr => hst hr) (fun b'' k1 => ⟨k1, heap_setRow_ne fun h => by subst h; rw [hgt] at k1; cases k1⟩) fun h0 => h0
   ·have hne : b' ≠ g := fun h' => by
     subst h'
     have := h.stat b' hb' hnt
     rw [hgt] at this
     exact hnt t this.symm
    rw [heap_setRow_ne hne]; exact h.keep b' hb' hn hnt
 ·split at hw
  ·rename_i t es xs i hx
   obtain ⟨ht, hi, E, ⟨sz, by_, z0⟩, z, hT, hq, hs1, hz0, hz, hes, hall, hk⟩ := hw
   simp only at hs1 hz0; subst hs1; subst hz0
   have hxr := h.ev x
   rw [hx] at hxr
   obtain ⟨g, c, cur, e, hxv, hgt, hh, hcs⟩ := hxr.ownTail ht hi
   have hfit : i * sz + (xs.length - i) * z.cells.size <= cur.size := by
    rw [hz, <- Nat.add_mul]
    exact Nat.le_trans (Nat.mul_le_mul_right _ (by omega)) hcs
   obtain ⟨L, hL, hone, hrun⟩ := run_clear_wide (P := P) (ty := o.type) (c := c) hT hq (by omega) (fun v hv => List.all_eq_true.1 hall v hv) (o := i * sz) (n := xs.length - i) (by omega) hh hfit
   have hst : ∀ {x v}, VRel G w x v -> VRel G (w.setRow g (setSeg cur.toList (i * sz) L).toArray) (x.mapTop (clrLeaf t sz i)) v := fun hr =>
    hr.cleared h.good ht hgt hh hes hone
   refine ⟨.tuple #[], w.setRow g (setSeg cur.toList (i * sz) L).toArray, ?_, σ.map (clrLeaf t sz i), G, hk, ?_⟩
   ·simp [execOp, ho, resolve, invoke, builtin, hxv, hrun]
   ·rw [hd]
    refine { h with good := ⟨fun b hb => by simpa [World.setRow] using h.good.lt b hb, h.good.tags, h.good.boxes⟩, slots := fun s => ?_, boxes := ⟨fun i vs hv => by have := h.boxes.low i vs hv; simpa [St.map, mapB_eq] using this, fun j cs' hj => ?_⟩, blt := fun b i hb => by have := h.blt b i hb; simpa [St.map, mapB_eq] using this, hsize := by simpa [World.setRow] using h.hsize, keep := fun b' hb' hn hnt => ?_, stat := h.stat }
    ·have : (σ.map (clrLeaf t sz i)).get s = (σ.get s).mapTop (clrLeaf t sz i) := lookT_map rfl σ.tmps s
     rw [this]; exact hst (h.slots s)
    ·simp only [St.map, mapB_eq, List.getElem?_map] at hj
     cases hc' : σ.boxes[j]? with
     | none => simp [hc'] at hj
     | some cs'' =>
      simp [hc'] at hj; subst hj
      rw [mapTops_eq]
      exact (h.boxes.cell j cs'' hc').map (fun x v hr => hst hr) (fun b'' k1 => ⟨k1, heap_setRow_ne fun h => by subst h; rw [hgt] at k1; cases k1⟩) fun h0 => h0
    ·have hne : b' ≠ g := fun h' => by
      subst h'
      have := h.stat b' hb' hnt
      rw [hgt] at this
      exact hnt t this.symm
     rw [heap_setRow_ne hne]; exact h.keep b' hb' hn hnt
  ·exact hw.elim
end
section
variable {P : Program}
def rowOk (t : Nat) : AV -> Bool
 | .sl t' _ _ => decide (t' < 2) || (decide (root t' = root t) && decide (t' ≠ t))
 | x => x.rowLike
def evStore (P : Program) (T : TypeId) (σ : St) (ax vx : AV) (K : St -> Prop) : Prop :=
 match ax with
 | .pb i o => ∃ cs q, σ.boxes[i]? = some cs /\ tinfo P T = some q /\ vx.cells.length = q.1 /\ vx.one = true /\ o + q.1 <= cs.length /\ K { σ with boxes := σ.boxes.set i (setSeg cs o vx.cells) }
 | .pe t es _ i o => 2 <= t /\ ∃ q, tinfo P T = some q /\ vx.cells.length = q.1 /\ 0 < q.1 /\ o + q.1 <= es /\ vx.fz = true /\ vx.one = true /\ leafAll vx.cells = true /\ K (σ.map (storeLeaf t es i o vx.cells))
 | .po t _ i => ∃ q, tinfo P T = some q /\ q.1 = 1 /\ vx.one = true /\ rowOk t vx = true /\ K (σ.map (putLeaf t i vx))
 | _ => False
def St.frz (σ : St) (ts : List Nat) : St :=
 match ts with
 | [] => σ
 | t :: ts => σ.map (freezeLeaf fun u => (t :: ts).contains u)
theorem SRel.frz {G0 w0 σ G a w} (h : SRel G0 w0 σ G a w) (h0 : True) (ts : List Nat) : ∃ G', SRel G0 w0 (σ.frz ts) G' a w := by
 cases ts with
 | nil => exact ⟨G, h⟩
 | cons t ts => exact ⟨_, h.freeze h0 _⟩
theorem frz_n (σ : St) (ts : List Nat) : (σ.frz ts).n = σ.n := by cases ts <;> rfl
def stFrz (σ : St) (a x : AV) : St :=
 match a with
 | .pe _ _ _ _ _ => σ.frz x.tags
 | .po t _ i => match x with
  | .sl t' _ _ => if 2 <= t' /\ root t' ≠ root t then σ.map (retagLeaf t' (subT t i)) else σ
  | _ => σ
 | _ => σ
def soApp (P : Program) (T T' : TypeId) (n : Nat) : Prop :=
 match P.underlying T with
 | some (.slice E) => T' = T /\ ∃ q, tinfo P E = some q /\ q.1 = 1 /\ (∃ z, q.2.2 = some z /\ z.cells.size = 1) /\ roomFor (n + 1) q.2.1
 | _ => False
def evAppSo (P : Program) (T T' : TypeId) (d : Nat) (σ : St) (t : Nat) (xs : List AV) (y : AV) (K : St -> Prop) : Prop :=
 match y with
 | .so t2 [.sl t0 es zs] => soApp P T T' xs.length /\ 2 <= t /\ 2 <= t0 /\ t0 ≠ t /\ t2 ≠ t /\ t2 ≠ t0 /\ t2 ≠ subT t xs.length /\
   K (((σ.map (retagLeaf t0 (subT t xs.length))).map (killLeaf t)).put (some d) (.so t (((xs.map (retagRow t0 (subT t xs.length))).map (killRow t)) ++ [.sl (subT t xs.length) es zs])))
 | .sl t2 1 [z] => soApp P T T' xs.length /\ 2 <= t /\ t2 ≠ t /\ z.rowLike = true /\ K ((σ.map (killLeaf t)).put (some d) (.so t ((xs.map (killRow t)) ++ [z])))
 | _ => False
def evAppend (P : Program) (T T' : TypeId) (d : Nat) (σ : St) (x y : AV) (K : St -> Prop) : Prop :=
 match x with
 | .sl t es xs => if 2 <= t then evAppendOwn P T T' (.sl t es xs) y (fun t r => K ((σ.map (killLeaf t)).put (some d) r))
   else σ.free d = true /\ evAppendX P d T T' (.sl t es xs) y fun r => K (σ.put (some d) r)
 | .so t xs => evAppSo P T T' d σ t xs y K
 | .tl t es xs i => evAppendTl P T T' (.tl t es xs i) y fun t r1 r2 => K ((σ.map (killLeaf t)).put (some d) r1) /\ K ((σ.map (killLeaf t)).put (some d) r2)
 | x => σ.free d = true /\ evAppendX P d T T' x y fun r => K (σ.put (some d) r)
def keepHints : List Nat := []
def keepTag (t0 : Nat) : Bool := decide (1048576 <= t0) || decide (2 <= t0) && keepHints.contains t0
theorem keepTag_two {t0 : Nat} (h : keepTag t0 = true) : 2 <= t0 := by
 unfold keepTag at h
 simp only [Bool.or_eq_true, Bool.and_eq_true, decide_eq_true_eq] at h
 omega
def keepSel (l : List AV) (k1 : Nat -> Nat -> List AV -> Prop) (k2 : Prop) : Prop :=
 match l with
 | [.sl t0 es zs] => if keepTag t0 = true then k1 t0 es zs else k2
 | _ => k2
def keepK (P : Program) (d : Nat) (T : TypeId) (len : Nat) (ps : List (Nat × Operand)) (σ : St) (K : St -> Prop) (t0 es : Nat) (zs : List AV) : Prop :=
 σ.free d = true /\ (match P.underlying T with | some (.slice E) => (∃ q, tinfo P E = some q /\ q.1 = 1 /\ q.2.2.isSome = true) | _ => False) /\ len = 1 /\ (ps.map (·.1)) = [0] /\
  K ((σ.map (retagLeaf t0 (subT (64 * (d + 1)) 0))).put (some d) (.so (64 * (d + 1)) [.sl (subT (64 * (d + 1)) 0) es zs]))
def wpAt (P : Program) (o : Oper) (d : Nat) (σ : St) (K : St -> Prop) : Prop :=
 match o.op with
 | .box _ x => (σ.ev x).one = true /\ K (St.put { σ with boxes := σ.boxes ++ [(σ.ev x).cells] } (some d) (.pb σ.boxes.length 0))
 | .alloc T => ∃ q z, tinfo P T = some q /\ q.2.2 = some z /\ (z.cells.toList.all fun u => u.oneCell') = true /\ K (St.put { σ with boxes := σ.boxes ++ [(ofConst z).cells] } (some d) (.pb σ.boxes.length 0))
 | .buildSlice T n ps => keepSel (ps.toList.map fun p => σ.ev p.2) (keepK P d T n ps.toList σ K) <| (σ.frz (tagss (ps.toList.map fun p => σ.ev p.2))).free d = true /\
   evBuildSlice P d T n (ps.toList.map fun p => (p.1, (σ.frz (tagss (ps.toList.map fun p => σ.ev p.2))).ev p.2)) fun r => K ((σ.frz (tagss (ps.toList.map fun p => σ.ev p.2))).put (some d) r)
 | .call { callee := .value f, args, argTypes := _ } => match σ.ev f with
  | .fn fid caps => CallU P fid (args.toList.map σ.ev ++ caps) d σ K
  | .cl fid caps => CallU P fid (args.toList.map σ.ev ++ caps) d σ K
  | _ => False
 | .call { callee := .builtin .append, args, argTypes } => match args.toList, argTypes.toList with
  | [x, y], [T, T'] => evAppend P T T' d σ (σ.ev x) (σ.ev y) K
  | _, _ => False
 | .call { callee := .builtin .copy, args, argTypes } => match args.toList, argTypes.toList with
  | [x, y], [T, _] => evCopy P T d σ (σ.ev x) (σ.ev y) K
  | _, _ => False
 | op => (needsFresh op = true -> σ.free d = true) /\ evOp P d σ.ev σ.boxes o.type op fun r => K (σ.put (some d) r)
def evMapPut (P : Program) (T : TypeId) (σ : St) (m x y : AV) (K : St -> Prop) : Prop :=
 match m, x, y with
 | .mp t P' k e D, .sc kv, .sc yv => P' = P /\ P.underlying T = some (.map k e) /\ keyKind (P.underlying k) = true /\ mapLen D < 9223372036854775807 /\
   ∃ kl dv, keyOf P k kv = some kl /\ plainElem (H := Unit) P e yv = some (dv, []) /\ K (σ.map (putMap t P k e (D.put kl dv)))
 | _, _, _ => False
def wpOp (P : Program) (o : Oper) (σ : St) (K : St -> Prop) : Prop :=
 match o.dst with
 | some d => d < σ.n /\ wpAt P o d σ K
 | none => match o.op with
  | .store T a x => evStore P T (stFrz σ (σ.ev a) (σ.ev x)) ((stFrz σ (σ.ev a) (σ.ev x)).ev a) ((stFrz σ (σ.ev a) (σ.ev x)).ev x) K
  | .mapUpdate T m x y => evMapPut P T σ (σ.ev m) (σ.ev x) (σ.ev y) K
  | .insert T m x y => evMapPut P T σ (σ.ev m) (σ.ev x) (σ.ev y) K
  | .call { callee := .builtin .clear, args, argTypes } => match args.toList, argTypes.toList with
   | [x], [T] => evClear P T σ (σ.ev x) K
   | _, _ => False
  | _ => False
theorem SRel.kill {G0 w0 σ G a w} {t d : Nat} {G' : Nat -> Status} {w' : World} (h : SRel G0 w0 σ G a w) (_h0 : True) (he : ExtBut t G w G' w') (hG : Good G' w') {r : AV} {v : Value} (hd : d < σ.n) (hr : VRel G' w' r v) :
  SRel G0 w0 ((σ.map (killLeaf t)).put (some d) r) G' (a.put (some d) v) w' where
 good := hG
 slots := slots_put (fun s => by
  have : (σ.map (killLeaf t)).get s = (σ.get s).kill t := lookT_map rfl σ.tmps s
  rw [this]; exact (h.slots s).but h.good he) h.size (decide_eq_true hd) hr
 boxes := ⟨fun i vs hv => by rw [put_boxes]; have := h.boxes.low i vs hv; simpa [St.map, mapB_eq] using this, fun i cs hi => by
  rw [put_boxes] at hi
  simp only [St.map, mapB_eq, List.getElem?_map] at hi
  cases hc : σ.boxes[i]? with
  | none => simp [hc] at hi
  | some cs' =>
   simp [hc] at hi; subst hi
   rw [mapTops_eq]
   refine (h.boxes.cell i cs' hc).map (fun x v hr => hr.but h.good he) (fun b h1 => ?_) fun h0 b hb => ?_
   ·have hb := h.good.lt b (by rw [h1]; simp)
    exact ⟨by rw [he.stat b hb (by rw [h1]; simp)]; exact h1, he.keep b hb (by rw [h1]; simp)⟩
   ·by_cases hlt : b < w.heap.size
    ·by_cases ht : G b = .tag t
     ·rcases he.old b ht with h' | h' <;> rw [h'] at hb <;> cases hb
     ·exact h0 b (by rw [<- he.stat b hlt ht]; exact hb)
    ·rcases he.new b (by omega) with h' | h' <;> rw [h'] at hb <;> cases hb⟩
 blt := fun b i hb => by
  rw [put_boxes]
  have : G b = .box i := by
   by_cases hlt : b < w.heap.size
   ·by_cases ht : G b = .tag t
    ·rcases he.old b ht with h' | h' <;> rw [h'] at hb <;> cases hb
    ·rw [<- he.stat b hlt ht]; exact hb
   ·rcases he.new b (by omega) with h' | h' <;> rw [h'] at hb <;> cases hb
  have := h.blt b i this
  simpa [St.map, mapB_eq] using this
 size := by rw [put_size, put_n]; exact h.size
 defs := by rw [put_defers]; exact h.defs
 os := he.os.trans h.os
 tape := he.tape.trans h.tape
 output := he.output.trans h.output
 hsize := Nat.le_trans h.hsize he.size
 stat := fun b hb hnt => by
  have := h.stat b hb hnt
  rw [he.stat b (Nat.lt_of_lt_of_le hb h.hsize) (by rw [this]; exact hnt t)]; exact this
 keep := fun b hb hn hnt => by
  have := h.stat b hb hnt
  rw [he.keep b (Nat.lt_of_lt_of_le hb h.hsize) (by rw [this]; exact hnt t)]; exact h.keep b hb hn hnt
theorem SRel.newBox {G0 w0 σ G a w} {d : Nat} {cs : List AV} {vals : Array Value} {T : TypeId} (h : SRel G0 w0 σ G a w) (hp : PW (VRel G w) cs vals.toList) (h1 : One vals.toList) (hd : d < σ.n) :
  ∃ G', SRel G0 w0 (St.put { σ with boxes := σ.boxes ++ [cs] } (some d) (.pb σ.boxes.length 0)) G' (a.put (some d) (.pointer (some ⟨w.heap.size, 0, none⟩))) (w.alloc (.cells vals T)) := by
 obtain ⟨k1, k2, k3, k4, k5⟩ := AM.newBox (T := T) h.good h.boxes h.blt hp h1
 refine ⟨_, { good := k3, slots := ?_, boxes := k4, blt := k5, size := ?_, defs := ?_, os := k2.os.trans h.os, tape := k2.tape.trans h.tape, output := k2.output.trans h.output, hsize := Nat.le_trans h.hsize k2.size, stat := ?_, keep := ?_ }⟩
 ·exact slots_put (σ := { σ with boxes := σ.boxes ++ [cs] }) (fun s => (h.slots s).ext h.good k2) h.size (by simpa [dstOk] using hd) k1
 ·rw [put_size, put_n]; exact h.size
 ·rw [put_defers]; exact h.defs
 ·exact fun b hb hnt => (k2.stat b (Nat.lt_of_lt_of_le hb h.hsize)).trans (h.stat b hb hnt)
 ·exact fun b hb hn hnt => (k2.keep b (Nat.lt_of_lt_of_le hb h.hsize)).trans (h.keep b hb hn hnt)
def OpOk (P : Program) (G0 : Orig) (w0 : World) (o : Oper) (a : Act) (w : World) (K : St -> Prop) : Prop :=
 ∀ (K' : Act -> World -> Prop) (Q : Exit -> Act -> World -> Prop), (∀ σ' G' a' w', K σ' -> SRel G0 w0 σ' G' a' w' -> K' a' w') -> o.wp P a w K' Q
theorem OpOk.value {G0 w0 a w} {o : Oper} {K : St -> Prop} {v : Value} {w' : World} (hr : (execOp a.eval o).run P w = .ok (.value v) w') (h : ∃ σ' G', K σ' /\ SRel G0 w0 σ' G' (a.put o.dst v) w') : OpOk P G0 w0 o a w K := by
 intro K' Q hK
 obtain ⟨σ', G', h1, h2⟩ := h
 unfold Oper.wp
 rw [hr, Oper.upon_value]
 exact hK σ' G' _ _ h1 h2
theorem evMapPut_sound {T : TypeId} {σ : St} {K : St -> Prop} {G0 w0 G a w} {o : Oper} {xm xk xv : Operand} (ho : o.op = .mapUpdate T xm xk xv \/ o.op = .insert T xm xk xv) (hd : o.dst = none) (h : SRel G0 w0 σ G a w)
  (hs : evMapPut P T σ (σ.ev xm) (σ.ev xk) (σ.ev xv) K) : OpOk P G0 w0 o a w K := by
 have hm := h.ev xm
 have hk := h.ev xk
 have hv := h.ev xv
 intro K' Q hK
 unfold evMapPut at hs
 split at hs
 ·rename_i t P' k e D kv yv e1 e2 e3
  obtain ⟨rfl, hT, hkk, hlen, kl, dv, hkl, hpl, hKK⟩ := hs
  rw [e1] at hm; rw [e2] at hk; rw [e3] at hv
  have hk := hk.sc_inv
  have hv := hv.sc_inv
  generalize hmv : a.eval xm = mv at hm
  cases hm with
  | froz h => cases h
  | mp _ _ _ _ _ b n h1 h2 h3 =>
   obtain ⟨w', hrun, hown, hgr⟩ := (ownsMap_len h3).1.update (keyKind_keyed hkk) hT (by unfold maxLen; omega) hkl hpl
   have hblt := h3.lt
   have hne : ∀ b', b' < w.heap.size -> G b' ≠ .tag t -> w'.heap[b']? = w.heap[b']? := fun b' hb hn => hgr.block b' hb (fun he => by cases he; exact hn h2)
   have he : ExtBut t G w G w' := ⟨hgr.os, hgr.tape, hgr.output, hgr.size, fun _ _ _ => rfl, hne, fun b' hb => .inl hb, fun b' hb => .inr (by
    cases hg : G b' with
    | junk => rfl
    | _ => have := h.good.lt b' (by rw [hg]; simp); omega)⟩
   have hG : Good G w' := ⟨fun b hb => Nat.lt_of_lt_of_le (h.good.lt b hb) hgr.size, h.good.tags, h.good.boxes⟩
   have hput : ∀ {x v}, VRel G w x v -> VRel G w' (x.mapTop (putMap t P' k e (D.put kl dv))) v := by
    intro x v hx
    refine hx.mapTop fun x v hl hx => ?_
    have hb := hx.but h.good he
    rw [show x.kill t = killLeaf t x from AV.mapTop_leaf _ hl] at hb
    cases x with
    | mp t' P2 k2 e2 D2 =>
     simp only [putMap]
     split
     ·rename_i htt
      subst htt
      cases hx with
      | froz h => cases h
      | mp _ _ _ _ _ b' n' g1 g2 g3 =>
       have := h.good.tags b' b _ g2 h2
       subst this
       exact .mp _ _ _ _ _ _ _ h1 h2 hown
     ·rename_i htt
      simp only [killLeaf, htt, if_false] at hb
      exact hb
    | _ => exact hb
   have hr : (execOp a.eval o).run P' w = .ok .skip w' := by rcases ho with ho | ho <;> simp only [execOp, ho, hmv, hk, hv, Sem.run_bind, hrun, Result.andThen_ok, Sem.run_pure]
   unfold Oper.wp
   rw [hr, Oper.upon_skip, hd]
   refine hK _ G _ _ hKK { h with good := hG, slots := fun s => ?_, boxes := ⟨fun i vs hv => by have := h.boxes.low i vs hv; simpa [St.map, mapB_eq] using this, fun j cs' hj => ?_⟩, blt := fun b i hb => by have := h.blt b i hb; simpa [St.map, mapB_eq] using this, os := hgr.os.trans h.os, tape := hgr.tape.trans h.tape, output := hgr.output.trans h.output, hsize := Nat.le_trans h.hsize hgr.size, keep := fun b' hb' hn hnt => ?_ }
   ·have : (σ.map (putMap t P' k e (D.put kl dv))).get s = (σ.get s).mapTop (putMap t P' k e (D.put kl dv)) := lookT_map rfl σ.tmps s
    rw [this]; exact hput (h.slots s)
   ·simp only [St.map, mapB_eq, List.getElem?_map] at hj
    cases hc' : σ.boxes[j]? with
    | none => simp [hc'] at hj
    | some cs'' =>
     simp [hc'] at hj; subst hj
     rw [mapTops_eq]
     exact (h.boxes.cell j cs'' hc').map (fun x v hr => hput hr) (fun b'' k1 => ⟨k1, hne b'' (h.good.lt b'' (by rw [k1]; simp)) (by rw [k1]; simp)⟩) fun h0 => h0
   ·have h6 := h.stat b' hb' hnt
    rw [hne b' (Nat.lt_of_lt_of_le hb' h.hsize) (by rw [h6]; exact hnt t)]
    exact h.keep b' hb' hn hnt
 ·exact hs.elim
theorem evStore_sound {T : TypeId} {σ : St} {K : St -> Prop} {G0 w0 G a w} {o : Oper} {xa xv : Operand} (ho : o.op = .store T xa xv) (hd : o.dst = none) (h : SRel G0 w0 σ G a w) (_h0 : True)
  (hs : evStore P T σ (σ.ev xa) (σ.ev xv) K) : OpOk P G0 w0 o a w K := by
 have hva := h.ev xa
 have hvx := h.ev xv
 intro K' Q hK
 unfold evStore at hs
 split at hs
 ·rename_i i o' he
  obtain ⟨cs, ⟨sz, by_, z⟩, hcs, hq, hlen, hone, hfit, hk⟩ := hs
  rw [he] at hva
  obtain ⟨b, hb, hav⟩ := hva.pb_inv
  obtain ⟨b', vals, ty, g1, g2, g3, g4⟩ := BRel.real h.boxes hcs hb
  obtain rfl := h.good.boxes _ _ _ hb g1
  obtain ⟨hc, h1⟩ := hvx.cellsV hone
  simp only at hlen hfit
  have hsz : (a.eval xv).cells.size = sz := by have := hc.1; rw [hlen] at this; simpa using this.symm
  have hcl : cs.length = vals.size := by have := g4.1; simpa using this
  have hrun := store_run (P := P) (T := T) hq (o := o') g2 hsz h1 (by omega)
  have hrun' : (execOp a.eval o).run P w = .ok .skip (w.setRow b (vals.toList.take o' ++ (a.eval xv).cells.toList ++ vals.toList.drop (o' + sz)).toArray) := by
   simp only [execOp, ho, hav, Sem.run_bind, hrun, Result.andThen_ok, Sem.run_pure]
  have hseg : vals.toList.take o' ++ (a.eval xv).cells.toList ++ vals.toList.drop (o' + sz) = setSeg vals.toList o' (a.eval xv).cells.toList := by
   rw [setSeg_eq _ _ _ (by simp [hsz]; omega)]; simp [hsz]
  rw [hseg] at hrun'
  unfold Oper.wp
  rw [hrun', Oper.upon_skip, hd]
  have hset := setRow_heap w b vals (setSeg vals.toList o' (a.eval xv).cells.toList).toArray ty (0, 0) g2
  have hm : ∀ {x v}, VRel G w x v -> VRel G (w.setRow b (setSeg vals.toList o' (a.eval xv).cells.toList).toArray) x v := fun hr =>
   hr.mono (fun _ _ => rfl) (fun b' _ hn => heap_setRow_ne (fun h => hn i (by rw [h]; exact hb)))
  refine hK _ G _ _ hk { h with good := ⟨fun b hb => by simpa [World.setRow] using h.good.lt b hb, h.good.tags, h.good.boxes⟩, slots := fun s => hm (h.slots s), boxes := ⟨fun i vs hv => by have := h.boxes.low i vs hv; simpa using this, fun j cs' hj => ?_⟩, blt := fun b i hb => by simpa using h.blt b i hb, hsize := by simpa [World.setRow] using h.hsize, keep := fun b' hb' hn hnt => ?_ }
  ·rw [List.getElem?_set] at hj
   by_cases hji : i = j
   ·subst hji
    have hil : i < σ.boxes.length := (List.getElem?_eq_some_iff.1 hcs).1
    simp only [if_true] at hj
    rw [if_pos hil] at hj
    cases hj
    refine .inl ⟨by rcases h.boxes.cell i cs hcs with h1 | h1 | h1; exact h1.1; exact absurd hb (h1.1 b); exact h1.1, b, _, ty, hb, hset, ?_, ?_⟩
    ·simp only; exact One.setSeg _ h1 g3
    ·simp only; exact (PW.setSeg _ hc g4).mono fun x y _ hr => hm hr
   ·rw [if_neg hji] at hj
    exact (h.boxes.cell j cs' hj).same (fun x v hr => hm hr) (fun b'' k1 => ⟨k1, heap_setRow_ne fun h => by subst h; rw [hb] at k1; cases k1; exact hji rfl⟩) fun h0 => h0
  ·have hne : b' ≠ b := fun h' => by subst h'; exact hn i (by rw [<- h.stat b' hb' hnt]; exact hb)
   rw [heap_setRow_ne hne]; exact h.keep b' hb' hn hnt
 ·rename_i t es xs i o' he
  obtain ⟨ht, ⟨sz, by_, z⟩, hq, hlen, hpos, hfit, hfz, hone, hla, hk⟩ := hs
  rw [he] at hva
  obtain ⟨b, off, c, hsl, hil, hav⟩ := hva.pe_inv
  simp only at hlen hpos hfit
  cases hsl with
  | froz h' => exfalso; cases h' <;> omega
  | own _ _ _ _ e vals _ g2 g3 g4 g0 g5 =>
  rcases g2.2 with ⟨hv, _⟩ | ⟨g, cap, cur, hv, _, hh, hnc, hcm, hcs, hct⟩
  ·cases hv
  ·simp only [Value.slice.injEq, Option.some.injEq, Addr.mk.injEq, true_and, and_true] at hv
   obtain ⟨⟨rfl, rfl⟩, rfl⟩ := hv
   have hb : G b = .tag t := g3 b rfl
   obtain ⟨hc, h1⟩ := (hvx.fz hfz).cells hone
   have hsz : (a.eval xv).cells.size = sz := by have := hc.1; rw [hlen] at this; simpa using this.symm
   have hbound : i * es + o' + sz <= cur.size := by
    rw [hcs]
    have : (i + 1) * es <= c * es := Nat.mul_le_mul_right _ (by omega)
    rw [Nat.succ_mul] at this; omega
   have hrun := store_run (P := P) (T := T) hq (o := 0 + i * es + o') hh hsz h1 (by omega)
   have hrun' : (execOp a.eval o).run P w = .ok .skip (w.setRow b (cur.toList.take (0 + i * es + o') ++ (a.eval xv).cells.toList ++ cur.toList.drop (0 + i * es + o' + sz)).toArray) := by
    simp only [execOp, ho, hav, Sem.run_bind, hrun, Result.andThen_ok, Sem.run_pure]
   have hseg : cur.toList.take (0 + i * es + o') ++ (a.eval xv).cells.toList ++ cur.toList.drop (0 + i * es + o' + sz) = setSeg cur.toList (i * es + o') (a.eval xv).cells.toList := by
    rw [setSeg_eq _ _ _ (by simp [hsz]; omega)]; simp [hsz]
   rw [hseg] at hrun'
   unfold Oper.wp
   rw [hrun', Oper.upon_skip, hd]
   have hst : ∀ {x v}, VRel G w x v -> VRel G (w.setRow b (setSeg cur.toList (i * es + o') (a.eval xv).cells.toList).toArray) (x.storeAt t es i o' (σ.ev xv).cells) v := fun hr =>
    hr.stored h.good ht hb hh (by omega) (by intro h; rw [h] at hlen; simp at hlen; omega) hla hc h1
   refine hK _ G _ _ hk { h with good := ⟨fun b hb => by simpa [World.setRow] using h.good.lt b hb, h.good.tags, h.good.boxes⟩, slots := fun s => ?_, boxes := ⟨fun i vs hv => by have := h.boxes.low i vs hv; simpa [St.map, mapB_eq] using this, fun j cs' hj => ?_⟩, blt := fun b i hb => by have := h.blt b i hb; simpa [St.map, mapB_eq] using this, hsize := by simpa [World.setRow] using h.hsize, keep := fun b' hb' hn hnt => ?_, stat := h.stat }
   ·have : (σ.map (storeLeaf t es i o' (σ.ev xv).cells)).get s = (σ.get s).storeAt t es i o' (σ.ev xv).cells := lookT_map rfl σ.tmps s
    rw [this]; exact hst (h.slots s)
   ·simp only [St.map, mapB_eq, List.getElem?_map] at hj
    cases hc' : σ.boxes[j]? with
    | none => simp [hc'] at hj
    | some cs'' =>
     simp [hc'] at hj; subst hj
     rw [mapTops_eq]
     exact (h.boxes.cell j cs'' hc').map (fun x v hr => hst hr) (fun b'' k1 => ⟨k1, heap_setRow_ne fun h => by subst h; rw [hb] at k1; cases k1⟩) fun h0 => h0
   ·have hne : b' ≠ b := fun h' => by
     subst h'
     have := h.stat b' hb' hnt
     rw [hb] at this
     exact hnt t this.symm
    rw [heap_setRow_ne hne]; exact h.keep b' hb' hn hnt
 ·rename_i t xs i he
  obtain ⟨⟨sz, by_, z⟩, hq, hsz1, hone, hrok, hk⟩ := hs
  simp only at hsz1; subst hsz1
  rw [he] at hva
  obtain ⟨b, off, c, hso, hil, hav⟩ := hva.po_inv
  have ht := hso.so_two
  have hrl : (σ.ev xv).rowLike = true := by
   cases hx : σ.ev xv <;> rw [hx] at hrok <;> first | rfl | (simp only [rowOk, AV.rowLike] at hrok; first | exact hrok | (cases hrok))
  have hroot : ∀ t' es ys, σ.ev xv = .sl t' es ys -> 2 <= t' -> root t' = root t /\ t' ≠ t := fun t' es ys e h2 => by
   rw [e] at hrok
   simp only [rowOk, Bool.or_eq_true, decide_eq_true_eq, Bool.and_eq_true] at hrok
   rcases hrok with h | h
   ·omega
   ·exact h
  have hL : LRel G w (root t) (σ.ev xv) (a.eval xv) := hvx.toL hrl (fun t' es ys e h2 => (hroot t' es ys e h2).1)
  have hyt : ∀ es ys, σ.ev xv ≠ .sl t es ys := fun es ys e => (hroot t es ys e ht).2 rfl
  obtain ⟨hcv, h1v⟩ := hvx.cellsV hone
  have hcells : (a.eval xv).cells.toList = [a.eval xv] := by
   have hc1 : (σ.ev xv).cells = [σ.ev xv] := rowLike_cells hrl
   rw [hc1] at hcv
   have hlen : (a.eval xv).cells.toList.length = 1 := by rw [<- hcv.1]; rfl
   cases hv : a.eval xv with
   | agg cs =>
    have h2 := hvx
    rw [hv] at h2
    exfalso
    generalize hX : σ.ev xv = X at h2 hrl
    cases h2 with
    | froz h2 => cases h2 <;> first | (simp [AV.rowLike] at hrl; done) | (rw [hX] at hone; simp [AV.one, Value.oneCell'] at hone)
    | own _ _ _ _ _ _ _ g => rcases g.2 with ⟨g, _⟩ | ⟨_, _, _, g, _⟩ <;> cases g
    | _ => simp [AV.rowLike] at hrl
   | _ => rfl
  have hone1 : (a.eval xv).oneCell' = true := h1v _ (by rw [hcells]; simp)
  cases hso with
  | froz h' => cases h'
  | so _ _ _ e vals _ g2 g3 g4 g0 g5 =>
  rcases g2.2 with ⟨hv, _⟩ | ⟨g, cap, cur, hv, _, hh, hnc, hcm, hcs, hct⟩
  ·cases hv
  ·simp only [Value.slice.injEq, Option.some.injEq, Addr.mk.injEq, true_and, and_true] at hv
   obtain ⟨⟨rfl, rfl⟩, rfl⟩ := hv
   have hb : G b = .tag t := g3 b rfl
   have hbound : i < cur.size := by rw [hcs]; omega
   have hsz : (a.eval xv).cells.size = 1 := by
    have : (a.eval xv).cells.toList.length = 1 := by rw [hcells]; rfl
    simpa using this
   have hrun := store_run (P := P) (T := T) hq (o := 0 + i) hh hsz h1v (by omega)
   have hrun' : (execOp a.eval o).run P w = .ok .skip (w.setRow b (cur.toList.take (0 + i) ++ (a.eval xv).cells.toList ++ cur.toList.drop (0 + i + 1)).toArray) := by
    simp only [execOp, ho, hav, Sem.run_bind, hrun, Result.andThen_ok, Sem.run_pure]
   have hseg : cur.toList.take (0 + i) ++ (a.eval xv).cells.toList ++ cur.toList.drop (0 + i + 1) = cur.toList.set i (a.eval xv) := by
    rw [hcells, Nat.zero_add, List.set_eq_take_append_cons_drop, if_pos (by simpa using hbound)]; simp
   rw [hseg] at hrun'
   unfold Oper.wp
   rw [hrun', Oper.upon_skip, hd]
   have hst : ∀ {x v}, VRel G w x v -> VRel G (w.setRow b (cur.toList.set i (a.eval xv)).toArray) (x.mapTop (putLeaf t i (σ.ev xv))) v := fun hr =>
    hr.put h.good ht hb hh hone1 hrl hL hyt
   refine hK _ G _ _ hk { h with good := ⟨fun b hb => by simpa [World.setRow] using h.good.lt b hb, h.good.tags, h.good.boxes⟩, slots := fun s => ?_, boxes := ⟨fun i vs hv => by have := h.boxes.low i vs hv; simpa [St.map, mapB_eq] using this, fun j cs' hj => ?_⟩, blt := fun b i hb => by have := h.blt b i hb; simpa [St.map, mapB_eq] using this, hsize := by simpa [World.setRow] using h.hsize, keep := fun b' hb' hn hnt => ?_, stat := h.stat }
   ·have : (σ.map (putLeaf t i (σ.ev xv))).get s = (σ.get s).mapTop (putLeaf t i (σ.ev xv)) := lookT_map rfl σ.tmps s
    rw [this]; exact hst (h.slots s)
   ·simp only [St.map, mapB_eq, List.getElem?_map] at hj
    cases hc' : σ.boxes[j]? with
    | none => simp [hc'] at hj
    | some cs'' =>
     simp [hc'] at hj; subst hj
     rw [mapTops_eq]
     exact (h.boxes.cell j cs'' hc').map (fun x v hr => hst hr) (fun b'' k1 => ⟨k1, heap_setRow_ne fun h => by subst h; rw [hb] at k1; cases k1⟩) fun h0 => h0
   ·have hne : b' ≠ b := fun h' => by
     subst h'
     have := h.stat b' hb' hnt
     rw [hb] at this
     exact hnt t this.symm
    rw [heap_setRow_ne hne]; exact h.keep b' hb' hn hnt
 ·exact hs.elim
theorem LRel.but {t r : Nat} {G G' : Nat -> Status} {w w' : World} {x : AV} {u : Value} (hx : x.rowLike = true) (hr : LRel G w r x u) (hg : Good G w) (he : ExtBut t G w G' w') : (killRow t x).rowLike = true /\ LRel G' w' r (killRow t x) u := by
 have h1 := hr.val.but hg he
 have h2 : (killRow t x).rowLike = true := by cases x <;> first | exact hx | (simp only [killRow]; split <;> rfl)
 have h3 : x.kill t = killRow t x := by cases x <;> first | rfl | (simp [AV.rowLike] at hx)
 rw [h3] at h1
 refine ⟨h2, h1.toL h2 fun t' es xs e h4 => ?_⟩
 cases x <;> simp only [killRow] at e <;> first | (cases e; done) | skip
 split at e
 ·cases e
 ·cases e; exact hr.rootOf h4
theorem soApp_run {T T' ty : TypeId} {t t2 : Nat} {vals : List Value} {hv : Value} {xs : List AV} {n : Nat} (hap : soApp P T T' n) (hn : n = vals.length) (ht : 2 <= t) (h2 : t2 ≠ t) {G : Nat -> Status} {w : World} {v u : Value} (hg : Good G w)
  (hx : VRel G w (.sl t 1 (exact vals)) v) (hy : VRel G w (.sl t2 1 (exact [hv])) u) (hrows : PW (LRel G w (root t)) xs vals) (hrl : ∀ x ∈ xs, x.rowLike = true) {z : AV} (hz : z.rowLike = true) (hL : ∀ G' w', ExtBut t G w G' w' -> LRel G' w' (root t) z hv) :
  ∃ v' w' G', (Builtin.append_ #[T, T'] ty #[v, u]).run P w = .ok v' w' /\ VRel G' w' (.so t (xs.map (killRow t) ++ [z])) v' /\ ExtBut t G w G' w' /\ Good G' w' := by
 unfold soApp at hap
 split at hap
 ·rename_i E hT
  obtain ⟨rfl, ⟨sz, by_, z0⟩, hq, hs1, ⟨z', hz', hzs⟩, hroom⟩ := hap
  simp only at hs1; subst hs1
  have hev : evAppendOwn P T' T' (.sl t 1 (exact vals)) (.sl t2 1 (exact [hv])) (fun t' r => t' = t /\ r = .sl t 1 (exact vals ++ exact [hv])) := by
   unfold evAppendOwn
   rw [hT]
   refine ⟨rfl, (1, by_, z0), hq, by simp, ⟨z', hz', hzs⟩, ht, h2, rfl, rfl, ?_, rfl, rfl⟩
   simpa [exact_len, hn] using hroom
  obtain ⟨t', r, ⟨rfl, rfl⟩, _, hr⟩ := evAppendOwn_sound hev
  obtain ⟨v', w', G', g1, g2, g3, g4⟩ := hr ty G w v u hg hx hy
  rw [exact_app] at g2
  refine ⟨v', w', G', g1, g2.so_of ht ?_ ?_, g3, g4⟩
  ·refine PW.append ⟨by simpa using hrows.1, fun j y u' hy' hu' => ?_⟩ (.cons (hL G' w' g3) (.nil _))
   rw [List.getElem?_map] at hy'
   cases hj : xs[j]? with
   | none => simp [hj] at hy'
   | some x => simp [hj] at hy'; subst hy'; exact ((hrows.2 j x u' hj hu').but (hrl x (List.mem_of_getElem? hj)) hg g3).2
  ·intro y hy'
   rcases List.mem_append.1 hy' with h | h
   ·obtain ⟨x, hx', rfl⟩ := List.mem_map.1 h
    obtain ⟨j, hj⟩ := List.getElem?_of_mem hx'
    have hjl : j < vals.length := by rw [<- hrows.1]; exact (List.getElem?_eq_some_iff.1 hj).1
    exact ((hrows.2 j x _ hj (List.getElem?_eq_getElem hjl)).but (hrl x hx') hg g3).1
   ·simp at h; subst h; exact hz
 ·exact hap.elim
theorem putT_map (f : AV -> AV) (d : Nat) (x y : AV) : ∀ l : List (Nat × AV), putT (mapT f (putT l d y)) d x = putT (mapT f l) d x
 | [] => by simp [putT, mapT]
 | (k, v) :: r => by
  simp only [putT, mapT]
  by_cases h : k = d
  ·simp [h, mapT, putT]
  ·simp [h, mapT, putT, putT_map f d x y r]
theorem SRel.reput {G0 w0 σ G a w} (h : SRel G0 w0 σ G a w) {d : Nat} {x : AV} (hx : VRel G w x (a.tmps.getD d undef)) : SRel G0 w0 (σ.put (some d) x) G a w :=
 { h with
  slots := fun s => by
   simp only [St.get, St.put, lookT_put]
   split
   ·rename_i e; subst e; exact hx
   ·exact h.slots s }
theorem wpOp_sound {o : Oper} {σ : St} {K : St -> Prop} {G0 w0 G a w} (hw : wpOp P o σ K) (h : SRel G0 w0 σ G a w) (h0 : True) : OpOk P G0 w0 o a w K := by
  unfold wpOp at hw
  split at hw
  · rename_i d hd
    obtain ⟨hdn, hw⟩ := hw
    unfold wpAt at hw
    split at hw
    · rename_i T x ho
      obtain ⟨hone, hk⟩ := hw
      obtain ⟨hp, h1⟩ := (h.ev x).cellsV hone
      obtain ⟨G', hs⟩ := h.newBox (T := T) hp h1 hdn
      exact .value (v := .pointer (some ⟨w.heap.size, 0, none⟩)) (w' := w.alloc (.cells (a.eval x).cells T)) (by simp [execOp, ho, Instr.box, newVar, newRow]) ⟨_, G', hk, by rw [hd]; exact hs⟩
    · rename_i T ho
      obtain ⟨⟨sz, by_, z0⟩, z, hq, hz, hz1, hk⟩ := hw
      simp only at hz; subst hz
      obtain ⟨i, hi, hsz, hby, hzz⟩ := tinfo_some hq
      obtain ⟨hp, h1⟩ := ofConst_cells (S := Stable G) (w := w) z hz1
      obtain ⟨G', hs⟩ := h.newBox (T := T) (hp.mono fun x y _ hr => VRel.froz hr) h1 hdn
      exact .value (v := .pointer (some ⟨w.heap.size, 0, none⟩)) (w' := w.alloc (.cells z.cells T)) (by simp [execOp, ho, Instr.alloc, newVar, newRow, zeroValue, typeInfo, hi, hzz]) ⟨_, G', hk, by rw [hd]; exact hs⟩
    · rename_i T n ps ho
      have hold : ((σ.frz (tagss (ps.toList.map fun p => σ.ev p.2))).free d = true /\
          evBuildSlice P d T n (ps.toList.map fun p => (p.1, (σ.frz (tagss (ps.toList.map fun p => σ.ev p.2))).ev p.2)) fun r => K ((σ.frz (tagss (ps.toList.map fun p => σ.ev p.2))).put (some d) r)) -> OpOk P G0 w0 o a w K := fun hw => by
       obtain ⟨hfree, hop⟩ := hw
       obtain ⟨G1, h1⟩ := h.frz h0 (tagss (ps.toList.map fun p => σ.ev p.2))
       have hdn : d < (σ.frz (tagss (ps.toList.map fun p => σ.ev p.2))).n := by rw [frz_n]; exact hdn
       generalize σ.frz (tagss (ps.toList.map fun p => σ.ev p.2)) = τ at *
       have hop' : evOp P d τ.ev τ.boxes o.type (.buildSlice T n ps) fun r => K (τ.put (some d) r) := hop
       obtain ⟨r, hk, hr⟩ := evOp_sound hop'
       obtain ⟨hs, hfr⟩ := h1.fresh hfree h0
       obtain ⟨v, w', G', g1, g2, g3, g4, g5⟩ := hr o _ _ w a.eval ho hs.good (fun _ => hfr) hs.boxes (fun x _ => hs.ev x)
       exact .value g1 ⟨_, G', hk, by rw [hd]; exact hs.add g3 g4 g5.boxes (by simpa [dstOk] using hdn) g2⟩
      unfold keepSel at hw
      split at hw
      · rename_i t0 es zs hps
        split at hw
        · rename_i hbig
          have hbig := keepTag_two hbig
          obtain ⟨hfree, hT, hlen, hidx, hk⟩ := hw
          obtain ⟨x, hpx⟩ : ∃ x, ps.toList = [(0, x)] := by
            cases hl : ps.toList with
            | nil => rw [hl] at hidx; simp at hidx
            | cons p r =>
              rw [hl] at hidx
              simp only [List.map_cons, List.cons.injEq, List.map_eq_nil_iff] at hidx
              obtain ⟨i, x⟩ := p
              obtain ⟨h1, h2⟩ := hidx
              simp only at h1; subst h1; subst h2
              exact ⟨x, rfl⟩
          have hpa := arr_eq hpx
          subst hpa
          simp only [List.map_cons, List.map_nil, List.cons.injEq, and_true] at hps
          subst hlen
          have hne : t0 ≠ 64 * (d + 1) := by
            intro e
            cases x with
            | tmp s =>
              simp only [St.free, Bool.and_eq_true, decide_eq_true_eq] at hfree
              have hl := freeT_look hfree.2.1 s
              have hps' : lookT σ.tmps s = .sl t0 es zs := hps
              rw [hps'] at hl
              simp only [AV.allLeaf, freeLeaf, root] at hl
              have hl := of_decide_eq_true hl
              have h1 := hfree.1
              omega
            | const v =>
              simp only [St.ev, ofLit] at hps
              split at hps
              · split at hps <;> cases hps
              · unfold leafConst at hps; split at hps <;> cases hps
            | global g => cases hps
            | func f => cases hps
          obtain ⟨hs, hfr⟩ := h.fresh hfree h0
          have hxv := hs.ev x
          rw [hps] at hxv
          split at hT
          · rename_i E hTE
            obtain ⟨⟨sz, by_, z⟩, hq, hs1, hz⟩ := hT
            simp only at hs1; subst hs1
            have hone : (a.eval x).oneCell' = true := by obtain ⟨ao, c, e, _⟩ := hxv.sl_inv; rw [e]; rfl
            have hev : evBuildSlice P d T 1 [(0, .sc (a.eval x))] (fun r => r = .sl (64 * (d + 1)) 1 [.sc (a.eval x)]) := by
              unfold evBuildSlice
              rw [hTE]
              refine ⟨(1, by_, z), hq, by simp, hz, by simp, rfl, rfl, ?_, rfl⟩
              simp [partOk, AV.cells, AV.fz, fzLeaf, AV.one, hone]
            obtain ⟨r, rfl, hr⟩ := evBuildSlice_sound hev
            obtain ⟨v', w', G', g1, g2, g3, g4, g5⟩ := hr (killR d G) w #[(0, a.eval x)] hs.good hfr (.cons ⟨rfl, .froz (.sc _)⟩ (.nil _))
            have hadd := hs.add (d := some d) g3 g4 g5.boxes (by simpa [dstOk] using hdn) g2
            have hsub := sub_big (64 * (d + 1)) 0
            have hret := hadd.retag (a := t0) (b := subT (64 * (d + 1)) 0) h0 (by omega) (by omega)
            have hdl := hfr.1
            have hrow : VRel (retagG t0 (subT (64 * (d + 1)) 0) G') w' (.sl (subT (64 * (d + 1)) 0) es zs) (a.eval x) := by
              have := retag_sl (a := t0) (b := subT (64 * (d + 1)) 0) (by omega) (by omega) (hxv.ext hs.good g3)
              simpa [retagLeaf] using this
            have hnew : VRel (retagG t0 (subT (64 * (d + 1)) 0) G') w' (.sl (64 * (d + 1)) 1 (exact [a.eval x])) v' := by
              have := retag_sl (a := t0) (b := subT (64 * (d + 1)) 0) (by omega) (by omega) g2
              simp only [retagLeaf] at this
              rw [if_neg (by omega), if_neg (by omega)] at this
              exact this
            have hso := hnew.so_of (xs := [.sl (subT (64 * (d + 1)) 0) es zs]) (by omega) (.cons (hrow.toL rfl (fun _ _ _ e _ => by cases e; exact root_sub _ _)) (.nil _)) (by simp [AV.rowLike])
            have hval : ((a.put (some d) v').tmps.getD d undef) = v' := by rw [put_getD, if_pos ⟨rfl, by rw [h.size]; exact hdn⟩]
            have hfin := hret.reput (d := d) (by rw [hval]; exact hso)
            refine .value (v := v') (w' := w') (by simp [execOp, ho, g1]) ⟨_, retagG t0 (subT (64 * (d + 1)) 0) G', hk, ?_⟩
            rw [hd]
            have e : St.put ((σ.put (some d) (.sl (64 * (d + 1)) 1 [.sc (a.eval x)])).map (retagLeaf t0 (subT (64 * (d + 1)) 0))) (some d) (.so (64 * (d + 1)) [.sl (subT (64 * (d + 1)) 0) es zs]) = St.put (σ.map (retagLeaf t0 (subT (64 * (d + 1)) 0))) (some d) (.so (64 * (d + 1)) [.sl (subT (64 * (d + 1)) 0) es zs]) := by
              simp only [St.put, St.map, putT_map]
            rw [<- e]; exact hfin
          · exact hT.elim
        · exact hold hw
      · exact hold hw
    · rename_i f args As ho
      split at hw
      · rename_i fid caps hf
        have hff := h.ev f
        rw [hf] at hff
        obtain ⟨vs, hfe, hcaps⟩ := hff.fn_inv
        obtain ⟨⟨fn, hfn, hname, hbody⟩, hcalls⟩ := CallU.sound (vs := args.map a.eval ++ vs) hw h h0 (fun G' hs => by
          have hff := hs.ev f
          rw [hf] at hff
          obtain ⟨vs', hfe', hcaps'⟩ := hff.fn_inv
          rw [hfe] at hfe'; cases hfe'
          rw [Array.toList_append, Array.toList_map]
          refine PW.append ⟨by simp, fun j x u hx hu => ?_⟩ (hcaps'.mono fun x y _ hr => .froz hr)
          simp only [List.getElem?_map] at hx hu
          cases hj : args.toList[j]? with
          | none => simp [hj] at hx
          | some c => simp [hj] at hx hu; subst hx; subst hu; exact hs.ev c)
        have hrun : (execOp a.eval o).run P w = .ok (.enter fid (args.map a.eval ++ vs)) w := by
          have hname' : ¬ fn.name = "runtime.NumGoroutine" := by simpa using hname
          have hbody' : ¬ fn.body = none := by intro h; rw [h] at hbody; simp at hbody
          simp [execOp, ho, resolve, hfe, Deferred.ofValue, invoke, callFunc, hfn, hname', hbody']
        intro K' Q hK
        unfold Oper.wp
        rw [hrun, Oper.upon_enter]
        refine hcalls.mono ?_
        rintro e w' ⟨v, σ', G', rfl, hk, hs⟩
        exact hK σ' G' _ _ hk (by rw [hd]; exact hs)
      · rename_i fid caps hf
        have hff := h.ev f
        rw [hf] at hff
        obtain ⟨vs, hfe, hcaps⟩ := hff.cl_inv
        obtain ⟨⟨fn, hfn, hname, hbody⟩, hcalls⟩ := CallU.sound (vs := args.map a.eval ++ vs) hw h h0 (fun G' hs => by
          have hff := hs.ev f
          rw [hf] at hff
          obtain ⟨vs', hfe', hcaps'⟩ := hff.cl_inv
          rw [hfe] at hfe'; cases hfe'
          rw [Array.toList_append, Array.toList_map]
          refine PW.append ⟨by simp, fun j x u hx hu => ?_⟩ (hcaps'.mono fun x y _ hr => hr.rel)
          simp only [List.getElem?_map] at hx hu
          cases hj : args.toList[j]? with
          | none => simp [hj] at hx
          | some c => simp [hj] at hx hu; subst hx; subst hu; exact hs.ev c)
        have hrun : (execOp a.eval o).run P w = .ok (.enter fid (args.map a.eval ++ vs)) w := by
          have hname' : ¬ fn.name = "runtime.NumGoroutine" := by simpa using hname
          have hbody' : ¬ fn.body = none := by intro h; rw [h] at hbody; simp at hbody
          simp [execOp, ho, resolve, hfe, Deferred.ofValue, invoke, callFunc, hfn, hname', hbody']
        intro K' Q hK
        unfold Oper.wp
        rw [hrun, Oper.upon_enter]
        refine hcalls.mono ?_
        rintro e w' ⟨v, σ', G', rfl, hk, hs⟩
        exact hK σ' G' _ _ hk (by rw [hd]; exact hs)
      · exact hw.elim
    · rename_i args As ho
      split at hw
      · rename_i x y T T' h1 h2
        have h1 := arr_eq h1; have h2 := arr_eq h2; subst h1; subst h2
        have hnew : σ.free d = true /\ (evAppendX P d T T' (σ.ev x) (σ.ev y) fun r => K (σ.put (some d) r)) -> OpOk P G0 w0 o a w K := by
          rintro ⟨hfree, hap⟩
          obtain ⟨hs, hfr⟩ := h.fresh hfree h0
          obtain ⟨r, hk, hr⟩ := evAppendX_sound hap
          obtain ⟨v, w', G', g1, g2, g3, g4, g5⟩ := hr o.type _ w _ _ hs.good hfr (hs.ev x) (hs.ev y)
          exact .value (v := v) (w' := w') (by simpa [execOp, ho, resolve, invoke, builtin] using (show _ = _ from by simp [g1])) ⟨_, G', hk, by rw [hd]; exact hs.add g3 g4 g5.boxes (by simpa [dstOk] using hdn) g2⟩
        unfold evAppend at hw
        split at hw
        · rename_i t es xs hx
          split at hw
          · rename_i ht
            obtain ⟨t', r, hk, _, hr⟩ := evAppendOwn_sound hw
            obtain ⟨v, w', G', g1, g2, g3, g4⟩ := hr o.type G w _ _ h.good (by rw [<- hx]; exact h.ev x) (h.ev y)
            exact .value (v := v) (w' := w') (by simpa [execOp, ho, resolve, invoke, builtin] using (show _ = _ from by simp [g1])) ⟨_, G', hk, by rw [hd]; exact h.kill h0 g3 g4 hdn g2⟩
          · exact hnew (by rw [hx]; exact hw)
        · rename_i t xs hx
          have hxv := h.ev x
          rw [hx] at hxv
          obtain ⟨vals, hex, hrows, hone, hrl⟩ := hxv.so_exact
          unfold evAppSo at hw
          split at hw
          · rename_i t2 t0 es zs hy
            obtain ⟨hap, ht, ht0, h1, h2, h3, h4, hk⟩ := hw
            have hyv := h.ev y
            rw [hy] at hyv
            obtain ⟨yvals, hey, hyrows, hyone, _⟩ := hyv.so_exact
            obtain ⟨hv, rfl⟩ : ∃ hv, yvals = [hv] := by
              have := hyrows.1
              cases yvals with
              | nil => simp at this
              | cons q r => cases r with
                | nil => exact ⟨q, rfl⟩
                | cons _ _ => simp at this
            have hb2 : 2 <= subT t xs.length := by have := sub_big t xs.length; omega
            have hret := h.retag (a := t0) (b := subT t xs.length) h0 ht0 hb2
            have hL0 := hyrows.2 0 _ _ rfl rfl
            have hrow : VRel (retagG t0 (subT t xs.length) G) w (.sl (subT t xs.length) es zs) hv := by
              have := retag_sl (a := t0) (b := subT t xs.length) ht0 hb2 hL0.val
              simpa [retagLeaf] using this
            have hrowL := hrow.toL (r := root t) rfl (fun _ _ _ e _ => by cases e; exact root_sub _ _)
            have hex' : VRel (retagG t0 (subT t xs.length) G) w (.sl t 1 (exact vals)) (a.eval x) := by
              have := retag_sl (a := t0) (b := subT t xs.length) ht0 hb2 hex
              simp only [retagLeaf] at this
              rw [if_neg (fun e => h1 e.symm), if_neg (fun e => sub_ne t xs.length e.symm)] at this
              exact this
            have hey' : VRel (retagG t0 (subT t xs.length) G) w (.sl t2 1 (exact [hv])) (a.eval y) := by
              have := retag_sl (a := t0) (b := subT t xs.length) ht0 hb2 hey
              simp only [retagLeaf] at this
              rw [if_neg h3, if_neg h4] at this
              exact this
            have hrows' : PW (LRel (retagG t0 (subT t xs.length) G) w (root t)) (xs.map (retagRow t0 (subT t xs.length))) vals := ⟨by simpa using hrows.1, fun j q u hq hu => by
              rw [List.getElem?_map] at hq
              cases hj : xs[j]? with
              | none => simp [hj] at hq
              | some q' => simp [hj] at hq; subst hq; exact (retagRow_rel ht0 hb2 (hrl q' (List.mem_of_getElem? hj)) (hrows.2 j q' u hj hu)).2⟩
            have hrl' : ∀ q ∈ xs.map (retagRow t0 (subT t xs.length)), q.rowLike = true := fun q hq => by
              obtain ⟨q', hq', rfl⟩ := List.mem_map.1 hq
              have := hrl q' hq'
              cases q' <;> first | exact this | (simp only [retagRow]; split <;> first | rfl | (split <;> rfl))
            obtain ⟨v', w', G', g1, g2, g3, g4⟩ := soApp_run (ty := o.type) (t2 := t2) hap hrows.1 ht h2 hret.good hex' hey' hrows' hrl' (z := .sl (subT t xs.length) es zs) rfl (fun G' w' he => by
              have := hrowL.but rfl hret.good he
              simp only [killRow] at this
              rw [if_neg (sub_ne t xs.length)] at this
              exact this.2)
            exact .value (v := v') (w' := w') (by simpa [execOp, ho, resolve, invoke, builtin] using (show _ = _ from by simp [g1])) ⟨_, G', hk, by rw [hd]; exact hret.kill h0 g3 g4 (by simpa [St.map] using hdn) g2⟩
          · rename_i t2 z hy
            obtain ⟨hap, ht, h2, hz, hk⟩ := hw
            have hyv := h.ev y
            rw [hy] at hyv
            have hz1 : z.cells = [z] := rowLike_cells hz
            have key : ∀ u, VRel G w (.sl t2 1 [z]) u -> ∃ hv, VRel G w (.sl t2 1 (exact [hv])) u /\ FRel (Stable G) w z hv := by
              intro u hyv
              cases hyv with
              | froz hyv =>
                cases hyv with
                | sl _ _ _ b off c vals' k1 k2 k3 kc k4 k5 k0 k6 k7 =>
                  obtain ⟨hv, rfl⟩ : ∃ hv, vals' = [hv] := by
                    simp only [flat, List.flatMap_cons, List.flatMap_nil, List.append_nil, hz1] at k5
                    cases vals' with
                    | nil => simp at k5
                    | cons q r => cases r with
                      | nil => exact ⟨q, rfl⟩
                      | cons _ _ => simp at k5
                  refine ⟨hv, .froz (.sl _ _ _ b off c [hv] k1 k2 k3 kc (exact_wide _) (by rw [exact_rel (S := Stable G) (w := w).1]) k0 k6 (fun j q u hq hu => (exact_rel (S := Stable G) (w := w)).2 j q u hq hu)), ?_⟩
                  exact k7 0 z hv (by simp [flat, hz1]) rfl
              | own _ _ _ _ e vals' k1 k2 k3 k4 k0 k5 =>
                obtain ⟨hv, rfl⟩ : ∃ hv, vals' = [hv] := by
                  have k6 := k5.1
                  simp only [flat, List.flatMap_cons, List.flatMap_nil, List.append_nil, hz1] at k6
                  cases vals' with
                  | nil => simp at k6
                  | cons q r => cases r with
                    | nil => exact ⟨q, rfl⟩
                    | cons _ _ => simp at k6
                exact ⟨hv, .own _ _ _ _ e [hv] k1 k2 k3 (exact_wide _) k0 exact_rel, k5.2 0 z hv (by simp [flat, hz1]) rfl⟩
            obtain ⟨hv, hey, hfz⟩ := key _ hyv
            obtain ⟨v', w', G', g1, g2, g3, g4⟩ := soApp_run (ty := o.type) (t2 := t2) hap hrows.1 ht h2 h.good hex hey hrows hrl (z := z) hz (fun G' w' he => .froz (hfz.mono (fun b hb => by
              unfold Stable at *
              rw [he.stat b (h.good.lt b (by rw [hb]; simp)) (by rw [hb]; simp)]; exact hb) (fun b hb => he.keep b (h.good.lt b (by unfold Stable at hb; rw [hb]; simp)) (by unfold Stable at hb; rw [hb]; simp))))
            exact .value (v := v') (w' := w') (by simpa [execOp, ho, resolve, invoke, builtin] using (show _ = _ from by simp [g1])) ⟨_, G', hk, by rw [hd]; exact h.kill h0 g3 g4 hdn g2⟩
          · exact hw.elim
        · rename_i t es xs i hx
          obtain ⟨t', r1, r2, ⟨hk1, hk2⟩, _, hr⟩ := evAppendTl_sound hw
          obtain ⟨v, w', G', g1, g2, g3, g4⟩ := hr o.type G w _ _ h.good (by rw [<- hx]; exact h.ev x) (h.ev y)
          rcases g2 with g2 | g2
          · exact .value (v := v) (w' := w') (by simpa [execOp, ho, resolve, invoke, builtin] using (show _ = _ from by simp [g1])) ⟨_, G', hk1, by rw [hd]; exact h.kill h0 g3 g4 hdn g2⟩
          · exact .value (v := v) (w' := w') (by simpa [execOp, ho, resolve, invoke, builtin] using (show _ = _ from by simp [g1])) ⟨_, G', hk2, by rw [hd]; exact h.kill h0 g3 g4 hdn g2⟩
        · exact hnew hw
      · exact hw.elim
    · rename_i args As ho
      split at hw
      · rename_i x y T T' h1 h2
        have h1 := arr_eq h1; have h2 := arr_eq h2; subst h1; subst h2
        obtain ⟨v, w', hr, σ', G', hk, hs⟩ := evCopy_sound ho hd hdn h hw
        exact .value hr ⟨σ', G', hk, hs⟩
      · exact hw.elim
    · obtain ⟨hfree, hop⟩ := hw
      obtain ⟨r, hk, hr⟩ := evOp_sound hop
      by_cases hnf : needsFresh o.op = true
      · obtain ⟨hs, hfr⟩ := h.fresh (hfree hnf) h0
        obtain ⟨v, w', G', g1, g2, g3, g4, g5⟩ := hr o _ _ w a.eval rfl hs.good (fun _ => hfr) hs.boxes (fun x _ => hs.ev x)
        exact .value g1 ⟨_, G', hk, by rw [hd]; exact hs.add g3 g4 g5.boxes (by simpa [dstOk] using hdn) g2⟩
      · obtain ⟨v, w', G', g1, g2, g3, g4, g5⟩ := hr o _ _ w a.eval rfl h.good (fun h => absurd h hnf) h.boxes (fun x _ => h.ev x)
        exact .value g1 ⟨_, G', hk, by rw [hd]; exact h.add g3 g4 g5.boxes (by simpa [dstOk] using hdn) g2⟩
  · rename_i hd
    split at hw
    · rename_i T xa xv ho
      have : ∃ G', SRel G0 w0 (stFrz σ (σ.ev xa) (σ.ev xv)) G' a w := by
        unfold stFrz
        split
        · exact h.frz h0 _
        · split
          · split
            · rename_i hc
              exact ⟨_, h.retag h0 hc.1 (Nat.le_trans (by decide : 2 <= 1048576) (sub_big _ _))⟩
            · exact ⟨G, h⟩
          · exact ⟨G, h⟩
        · exact ⟨G, h⟩
      obtain ⟨G1, h1⟩ := this
      exact evStore_sound ho hd h1 h0 hw
    · rename_i T m x y ho
      exact evMapPut_sound (.inl ho) hd h hw
    · rename_i T m x y ho
      exact evMapPut_sound (.inr ho) hd h hw
    · rename_i args As ho
      split at hw
      · rename_i x T h1 h2
        have h1 := arr_eq h1; have h2 := arr_eq h2; subst h1; subst h2
        obtain ⟨v, w', hr, σ', G', hk, hs⟩ := evClear_sound ho hd h hw
        exact .value hr ⟨σ', G', hk, hs⟩
      · exact hw.elim
    · exact hw.elim
def guardSlot (ops : Array Oper) (j : Nat) : Option Nat := (ops[j]?).bind (·.dst)
def opsA (P : Program) (ops : Array Oper) : List Oper -> St -> (St -> Prop) -> Prop
 | [], σ, K => K σ
 | o :: r, σ, K =>
  match o.guard with
  | none => wpOp P o σ fun σ' => opsA P ops r σ' K
  | some (j, want) =>
   match guardSlot ops j with
   | none => False
   | some g =>
    match σ.get g with
    | .sc (.bool b) => (b = want -> wpOp P o (σ.put (some g) (.sc (.bool want))) fun σ' => opsA P ops r σ' K) /\
      (b = !want -> dstOk σ.n o.dst = true /\ opsA P ops r ((σ.put (some g) (.sc (.bool (!want)))).put o.dst (.sc undef)) K)
    | .sc (.tuple _) => dstOk σ.n o.dst = true /\ opsA P ops r (σ.put o.dst (.sc undef)) K
    | _ => False
theorem SRel.same {G0 w0 σ G a w} (h : SRel G0 w0 σ G a w) {g : Nat} {x : AV} (hx : σ.get g = x) : SRel G0 w0 (σ.put (some g) x) G a w :=
 { h with
  slots := fun s => by
   have : (σ.put (some g) x).get s = σ.get s := by
    simp only [St.put, St.get, lookT_put]
    split
    ·rename_i hs; subst hs; exact hx.symm
    ·rfl
   rw [this]; exact h.slots s
  boxes := by rw [put_boxes]; exact h.boxes
  blt := by rw [put_boxes]; exact h.blt
  size := by rw [put_n]; exact h.size }
theorem yielded_bool {ops : Array Oper} {tmps : Array Value} {j g : Nat} {b : Bool} (hg : guardSlot ops j = some g) (hb : tmps.getD g undef = .bool b) : yielded ops tmps j = some b := by
 unfold yielded
 have hlt : tmps[g]? = some (.bool b) := by
  rw [Array.getD_eq_getD_getElem?] at hb
  cases h : tmps[g]? with
  | none => rw [h] at hb; simp [undef] at hb
  | some v => rw [h] at hb; simp at hb; rw [hb]
 simp only [guardSlot] at hg
 simp [hg, hlt]
theorem yielded_none {ops : Array Oper} {tmps : Array Value} {j g : Nat} {vs : Array Value} (hg : guardSlot ops j = some g) (hb : tmps.getD g undef = .tuple vs) : yielded ops tmps j = none := by
 unfold yielded
 simp only [guardSlot] at hg
 rw [hg]
 rw [Array.getD_eq_getD_getElem?] at hb
 cases h : tmps[g]? with
 | none => simp [h]
 | some v => rw [h] at hb; simp at hb; simp [h, hb]
theorem opsA_sound {ops : Array Oper} {Q : Exit -> Act -> World -> Prop} {K : St -> Prop} {G0 w0} (h0 : True) (hQ : ∀ σ' G' a' w', K σ' -> SRel G0 w0 σ' G' a' w' -> Q .normal a' w') :
  ∀ (l : List Oper) (k : Nat) (σ : St) (G : Nat -> Status) (a : Act) (w : World), (∀ j, l[j]? = ops[k + j]?) -> opsA P ops l σ K -> SRel G0 w0 σ G a w -> Go.wpOps P ops Q ((List.range l.length).map (k + ·)) a w
 | [], k, σ, G, a, w, _, hw, h => by simpa [Go.wpOps] using hQ σ G a w hw h
 | o :: r, k, σ, G, a, w, hl, hw, h => by
  have ho : ops[k]? = some o := by simpa using (hl 0).symm
  have hl' : ∀ j, r[j]? = ops[k + 1 + j]? := fun j => by have := hl (j + 1); simpa [Nat.add_assoc, Nat.add_comm 1 j] using this
  have hrange : (List.range (o :: r).length).map (k + ·) = k :: (List.range r.length).map (k + 1 + ·) := by
   rw [List.length_cons, List.range_succ_eq_map]
   simp [Function.comp_def, Nat.add_assoc, Nat.add_comm 1]
  rw [hrange]
  simp only [Go.wpOps, ho]
  have run : ∀ {σ}, wpOp P o σ (fun σ' => opsA P ops r σ' K) -> SRel G0 w0 σ G a w -> o.wp P a w (Go.wpOps P ops Q ((List.range r.length).map (k + 1 + ·))) Q := fun hw h =>
   wpOp_sound hw h h0 _ _ fun σ' G' a' w' hk hs => opsA_sound h0 hQ r (k + 1) σ' G' a' w' hl' hk hs
  simp only [opsA] at hw
  cases hg : o.guard with
  | none =>
   simp only [hg] at hw
   rw [if_pos (by simp [Region.wanted, hg])]
   exact .inl (run hw h)
  | some p =>
   obtain ⟨j, want⟩ := p
   simp only [hg] at hw
   cases hgs : guardSlot ops j with
   | none => simp [hgs] at hw
   | some g =>
    simp only [hgs] at hw
    split at hw
    ·rename_i b hb
     have hv := h.slots g
     rw [hb] at hv
     have hy := yielded_bool hgs hv.sc_inv
     by_cases hbw : b = want
     ·subst hbw
      rw [if_pos (by simp [Region.wanted, hg, hy])]
      exact .inl (run (hw.1 rfl) (h.same hb))
     ·rw [if_neg (by simp [Region.wanted, hg, hy, hbw])]
      have hbn : b = !want := by cases b <;> cases want <;> simp_all
      obtain ⟨hdst, hw⟩ := hw.2 hbn
      have hs := (h.same (g := g) (x := .sc (.bool (!want))) (by rw [hb, hbn])).add (.refl G w) h.good (fun _ _ h => h) (d := o.dst) (x := .sc undef) (v := undef) (by rw [put_n]; exact hdst) (.froz (.sc _))
      exact opsA_sound h0 hQ r (k + 1) _ G _ w hl' hw hs
    ·rename_i vs hb
     have hv := h.slots g
     rw [hb] at hv
     have hy := yielded_none hgs hv.sc_inv
     rw [if_neg (by simp [Region.wanted, hg, hy])]
     obtain ⟨hdst, hw⟩ := hw
     have hs := h.add (.refl G w) h.good (fun _ _ h => h) (d := o.dst) (x := .sc undef) (v := undef) hdst (.froz (.sc _))
     exact opsA_sound h0 hQ r (k + 1) _ G _ w hl' hw hs
    ·exact hw.elim
end
end Go.AM
