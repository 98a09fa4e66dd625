/-
  The abstract machine: code, and from code to a contract.
-/
import Derived.Test.YtpmodjodfimejaaGreatg8
import Derived.Deep.LoopGhost
/-! ## AmN -/
namespace Go.AM
open Go.RowKit
def leRow (r : Nat) (x y : AV) : Prop := x.rowLike = true ∧ (y = x ∨ y = .any ∨ (x = .nil ∧ ∃ t es, 2 ≤ t ∧ root t = r ∧ y = .sl t es []))
def rowsLe (r : Nat) (xs ys : List AV) : Prop := xs.length = ys.length ∧ ∀ (j : Nat) x y, xs[j]? = some x → ys[j]? = some y → leRow r x y
def leV (x y : AV) : Prop := y = x ∨ y = .any ∨ (x = .nil ∧ ∃ t es, y = .sl t es []) ∨ (∃ t xs ys, 2 ≤ t ∧ x = .sl t 1 xs ∧ y = .so t ys ∧ rowsLe (root t) xs ys) ∨ (∃ t xs ys, x = .so t xs ∧ y = .so t ys ∧ rowsLe (root t) xs ys) ∨ (x = .nil ∧ ∃ t, 2 ≤ t ∧ y = .so t []) ∨ (∃ t es xs, 0 < xs.length ∧ x = .sl t es xs ∧ y = .tl t es xs 0) ∨ ∀ (G : Nat → Status) (w : World) (v : Value), VRel G w x v → VRel G w y v
theorem leV_refl (x : AV) : leV x x := .inl rfl
theorem leV_any (x : AV) : leV x .any := .inr (.inl rfl)
theorem leV_nil (t es : Nat) : leV .nil (.sl t es []) := .inr (.inr (.inl ⟨rfl, t, es, rfl⟩))
theorem leV_slso {t : Nat} {xs ys : List AV} (ht : 2 ≤ t) (h : rowsLe (root t) xs ys) : leV (.sl t 1 xs) (.so t ys) := .inr (.inr (.inr (.inl ⟨t, xs, ys, ht, rfl, rfl, h⟩)))
theorem leV_sem {x y : AV} (h : ∀ (G : Nat → Status) (w : World) (v : Value), VRel G w x v → VRel G w y v) : leV x y := .inr (.inr (.inr (.inr (.inr (.inr (.inr h))))))
theorem own_nil {G : Nat → Status} {w : World} {t es : Nat} (ht : 2 ≤ t) : VRel G w (.sl t es []) (.slice none 0 0) :=
 .own t es [] _ 0 [] ht (World.ownsRow_nil _ _ _ _) (fun b hb => by simp [Value.ownBlock] at hb) (by simp) (fun _ h => by simp at h) (.nil _)
theorem LRel.le {G : Nat → Status} {w : World} {r : Nat} {x y : AV} {v : Value} (h : LRel G w r x v) (hl : leRow r x y) : LRel G w r y v ∧ y.rowLike = true := by
 obtain ⟨hx, rfl | rfl | ⟨rfl, t, es, ht, hr, rfl⟩⟩ := hl
 ·exact ⟨h, hx⟩
 ·exact ⟨.froz (.any _), rfl⟩
 ·have := h.val.nil_inv; subst this
  exact ⟨(own_nil ht).toL rfl (fun _ _ _ e _ => by cases e; exact hr), rfl⟩
theorem rows_le {G : Nat → Status} {w : World} {r : Nat} {xs ys : List AV} {vals : List Value} (h : PW (LRel G w r) xs vals) (hl : rowsLe r xs ys) : PW (LRel G w r) ys vals ∧ ∀ y ∈ ys, y.rowLike = true := by
 have key : ∀ (j : Nat) y u, ys[j]? = some y → vals[j]? = some u → LRel G w r y u ∧ y.rowLike = true := fun j y u hy hu => by
  have hjl : j < xs.length := by rw [hl.1]; exact (List.getElem?_eq_some_iff.1 hy).1
  have hx := List.getElem?_eq_getElem hjl
  exact (h.2 j _ u hx hu).le (hl.2 j _ y hx hy)
 refine ⟨⟨by rw [← hl.1]; exact h.1, fun j y u hy hu => (key j y u hy hu).1⟩, fun y hy => ?_⟩
 obtain ⟨j, hj⟩ := List.getElem?_of_mem hy
 have hjl : j < vals.length := by rw [← h.1, hl.1]; exact (List.getElem?_eq_some_iff.1 hj).1
 exact (key j y _ hj (List.getElem?_eq_getElem hjl)).2
theorem VRel.le {G : Nat → Status} {w : World} {x y : AV} {v : Value} (h : VRel G w x v) (hl : leV x y) : VRel G w y v := by
 rcases hl with rfl | rfl | ⟨rfl, t, es, rfl⟩ | ⟨t, xs, ys, ht, rfl, rfl, hr⟩ | ⟨t, xs, ys, rfl, rfl, hr⟩ | ⟨rfl, t, ht, rfl⟩ | ⟨t, es, xs, hx, rfl, rfl⟩ | hsem
 ·exact h
 ·exact .froz (.any _)
 ·have := h.nil_inv; subst this
  by_cases ht : t < 2
  ·exact .froz (.slNil t es none 0 ht (by simp) (by simp))
  ·exact own_nil (by omega)
 ·cases h with
  | froz h => have := h.sl_lt; omega
  | own _ _ _ _ e vals h1 h2 h3 h4 h0 h5 =>
   have hxr : ∀ x ∈ xs, x.rowLike = true := by
    intro x hx
    obtain ⟨j, hj⟩ := List.getElem?_of_mem hx
    have hjl : j < ys.length := by rw [← hr.1]; exact (List.getElem?_eq_some_iff.1 hj).1
    exact (hr.2 j x _ hj (List.getElem?_eq_getElem hjl)).1
   rw [rowLike_flat hxr] at h5
   obtain ⟨k1, k2⟩ := rows_le (r := root t) (h5.mono fun _ _ _ hr => LRel.froz hr) hr
   exact .so t ys v e vals h1 (by rw [← hr.1]; exact h2) h3 k2 h0 k1
 ·cases h with
  | froz h => cases h
  | so _ _ _ e vals h1 h2 h3 h4 h0 h5 =>
   obtain ⟨k1, k2⟩ := rows_le h5 hr
   exact .so t ys v e vals h1 (by rw [← hr.1]; exact h2) h3 k2 h0 k1
 ·have := h.nil_inv; subst this
  exact .so t [] _ 0 [] ht (World.ownsRow_nil _ _ _ _) (fun b hb => by simp [Value.ownBlock] at hb) (by simp) (fun _ h => by simp at h) (.nil _)
 ·obtain ⟨ao, c, rfl, _, h2, h3, _⟩ := h.sl_inv
  cases ao with
  | none => have := (h2 rfl).2; subst this; simp at hx
  | some a =>
   have h' := h
   rcases h.sl_inv with ⟨ao', c', hv, _, _, _, h4 | ⟨b, off, vals, hv2, _⟩⟩
   ·subst h4; simp at hx
   ·cases hv; cases hv2
    have := VRel.tl t es xs 0 b off off c h' (Nat.zero_le _) (.inl (by omega))
    simpa using this
 ·exact hsem G w v h
def leT (l : List (Nat × AV)) : List (Nat × AV) → Prop
 | [] => True
 | (k, y) :: r => leV (lookT l k) y ∧ leT l r
def leC : List AV → List AV → Prop
 | [], [] => True
 | x :: xs, y :: ys => leV x y ∧ leC xs ys
 | _, _ => False
def leB : List (List AV) → List (List AV) → Prop
 | [], [] => True
 | x :: xs, y :: ys => leC x y ∧ leB xs ys
 | _, _ => False
def St.le (σ τ : St) : Prop := τ.n = σ.n ∧ leT σ.tmps τ.tmps ∧ leB σ.boxes τ.boxes
theorem leT_look {l : List (Nat × AV)} : ∀ {m : List (Nat × AV)}, leT l m → ∀ s, leV (lookT l s) (lookT m s)
 | [], _, s => leV_any _
 | (k, y) :: r, h, s => by
  simp only [lookT]
  by_cases hk : k = s
  ·subst hk; rw [if_pos rfl]; exact h.1
  ·rw [if_neg hk]; exact leT_look h.2 s
theorem leC_pw {G : Nat → Status} {w : World} : ∀ {xs ys : List AV} {vs : List Value}, leC xs ys → PW (VRel G w) xs vs → PW (VRel G w) ys vs
 | [], [], vs, _, h => h
 | x :: xs, y :: ys, vs, hl, h => by
  obtain ⟨v, vs', rfl, h1, h2⟩ := h.cons_inv
  exact .cons (h1.le hl.1) (leC_pw hl.2 h2)
 | [], _ :: _, _, hl, _ => hl.elim
 | _ :: _, [], _, hl, _ => hl.elim
theorem leB_get : ∀ {xs ys : List (List AV)}, leB xs ys → ∀ (i : Nat) cs, ys[i]? = some cs → ∃ cs', xs[i]? = some cs' ∧ leC cs' cs
 | [], [], _, i, cs, h => by simp at h
 | x :: xs, y :: ys, hl, i, cs, h => by
  cases i with
  | zero => simp at h; subst h; exact ⟨x, rfl, hl.1⟩
  | succ i => obtain ⟨cs', h1, h2⟩ := leB_get hl.2 i cs (by simpa using h); exact ⟨cs', by simpa using h1, h2⟩
 | [], _ :: _, hl, _, _, _ => hl.elim
 | _ :: _, [], hl, _, _, _ => hl.elim
theorem leB_length : ∀ {xs ys : List (List AV)}, leB xs ys → ys.length = xs.length
 | [], [], _ => rfl
 | x :: xs, y :: ys, hl => by simp [leB_length hl.2]
 | [], _ :: _, hl => hl.elim
 | _ :: _, [], hl => hl.elim
theorem leC_all {G : Nat → Status} {w : World} : ∀ {xs ys : List AV}, leC xs ys → (∀ x ∈ xs, ∀ v, VRel G w x v) → ∀ y ∈ ys, ∀ v, VRel G w y v
 | [], [], _, _, y, hy, _ => by simp at hy
 | [], _ :: _, h, _, _, _, _ => by simp [leC] at h
 | _ :: _, [], _, _, y, hy, _ => by simp at hy
 | x :: xs, y :: ys, h, hx, z, hz, v => by
  simp only [leC] at h
  rcases List.mem_cons.1 hz with rfl | hz
  ·exact (hx x (by simp) v).le h.1
  ·exact leC_all h.2 (fun x' h' => hx x' (by simp [h'])) z hz v
theorem SRel.le {G0 w0 σ τ G a w} (h : SRel G0 w0 σ G a w) (hl : σ.le τ) : SRel G0 w0 τ G a w :=
 { h with
  slots := fun s => (h.slots s).le (leT_look hl.2.1 s)
  boxes := ⟨fun i vs hv => by rw [leB_length hl.2.2]; exact h.boxes.low i vs hv, fun i cs hi => by
   obtain ⟨cs', h1, h2⟩ := leB_get hl.2.2 i cs hi
   rcases h.boxes.cell i cs' h1 with ⟨g0, b, vals, ty, g1, g2, g3, g4⟩ | ⟨g1, vs, g2, g3⟩ | ⟨g0, g1, g2⟩
   ·exact .inl ⟨g0, b, vals, ty, g1, g2, g3, leC_pw h2 g4⟩
   ·exact .inr (.inl ⟨g1, vs, g2, leC_pw h2 g3⟩)
   ·exact .inr (.inr ⟨g0, g1, leC_all h2 g2⟩)⟩
  blt := fun b i hb => by rw [leB_length hl.2.2]; exact h.blt b i hb
  size := by rw [hl.1]; exact h.size }
section
variable {P : Program}
def thenA (next : St → Prop) (Q : Exit → St → Prop) : Exit → St → Prop
 | .normal, σ => next σ
 | e, σ => Q e σ
def blockA (id : Nat) (Q : Exit → St → Prop) : Exit → St → Prop
 | .exit id', σ => if id' = id then Q .normal σ else Q (.exit id') σ
 | e, σ => Q e σ
def DrawK (P : Program) (ops : Array Oper) (σ : St) (K : St → Prop) : Prop :=
 ∀ (G0 : Orig) (w0 : World) (G : Nat → Status) (a : Act) (w : World) (id : Nat) (Q : Exit → Act → World → Prop), True → SRel G0 w0 σ G a w → (∀ σ' G' a' w', K σ' → SRel G0 w0 σ' G' a' w' → Q .normal a' w') → (Code.region id ops true).wp P Q a w
def roundK {α : Type} (st : α → St) (m : α → Nat) (inv : α → Prop) (x : α) (σ : St) : Prop :=
 ∃ x', inv x' ∧ m x' < m x ∧ (σ.le (st x') ∨ (∃ p, (σ.map (freezeLeaf p)).le (st x')) ∨ (∃ a b, 2 ≤ a ∧ 2 ≤ b ∧ (σ.map (retagLeaf a b)).le (st x')) ∨ ∃ a b, 2 ≤ a ∧ 2 ≤ b ∧ b < 1048576 ∧ (σ.map (mvLeaf a b)).le (st x'))
def LoopK (body : (Exit → St → Prop) → St → Prop) (Q : Exit → St → Prop) (σ : St) : Prop :=
 ∃ (α : Type) (st : α → St) (m : α → Nat) (inv : α → Prop) (x0 : α), inv x0 ∧ (σ.le (st x0) ∨ (∃ p, (σ.map (freezeLeaf p)).le (st x0)) ∨ ∃ a b, 2 ≤ a ∧ 2 ≤ b ∧ (σ.map (retagLeaf a b)).le (st x0)) ∧
  ∀ x, inv x → body (thenA (roundK st m inv x) Q) (st x)
theorem LoopK.intro {α : Type} {body : (Exit → St → Prop) → St → Prop} {Q : Exit → St → Prop} {σ : St} (st : α → St) (m : α → Nat) (inv : α → Prop) (x0 : α) (h0 : inv x0) (hle : σ.le (st x0))
  (round : ∀ x, inv x → body (thenA (roundK st m inv x) Q) (st x)) : LoopK body Q σ :=
 ⟨α, st, m, inv, x0, h0, .inl hle, round⟩
theorem roundK.intro {α : Type} {st : α → St} {m : α → Nat} {inv : α → Prop} {x : α} {σ : St} (x' : α) (h1 : inv x') (h2 : m x' < m x) (h3 : σ.le (st x')) : roundK st m inv x σ := ⟨x', h1, h2, .inl h3⟩
theorem roundK.freeze {α : Type} {st : α → St} {m : α → Nat} {inv : α → Prop} {x : α} {σ : St} (p : Nat → Bool) (x' : α) (h1 : inv x') (h2 : m x' < m x) (h3 : (σ.map (freezeLeaf p)).le (st x')) : roundK st m inv x σ := ⟨x', h1, h2, .inr (.inl ⟨p, h3⟩)⟩
def wpA (P : Program) : Code → (Exit → St → Prop) → St → Prop
 | .skip, Q, σ => Q .normal σ
 | .label _, Q, σ => Q .normal σ
 | .region _ ops draw, Q, σ => if draw = true then DrawK P ops σ (Q .normal) else opsA P ops ops.toList σ (Q .normal)
 | .seq x y, Q, σ => wpA P x (thenA (wpA P y Q) Q) σ
 | .cond c x y, Q, σ => match σ.ev c with
  | .sc (.bool b) => (b = true → wpA P x Q σ) ∧ (b = false → wpA P y Q σ)
  | .ub => wpA P x Q σ ∧ wpA P y Q σ
  | _ => False
 | .block id c, Q, σ => wpA P c (blockA id Q) σ
 | .loop c, Q, σ => LoopK (wpA P c) Q σ
 | .exit id, Q, σ => Q (.exit id) σ
 | .ret, Q, σ => Q .ret σ
 | _, _, _ => False
theorem wpA_sound {G0 : Orig} {w0 : World} (h0 : True) : ∀ (c : Code) (Q : Exit → St → Prop) (σ : St) (G : Nat → Status) (a : Act) (w : World), wpA P c Q σ → SRel G0 w0 σ G a w →
  c.wp P (fun e a' w' => ∃ σ' G', Q e σ' ∧ SRel G0 w0 σ' G' a' w') a w
 | .skip, Q, σ, G, a, w, hw, h => wp_skip ⟨σ, G, hw, h⟩
 | .label _, Q, σ, G, a, w, hw, h => wp_label ⟨σ, G, hw, h⟩
 | .region id ops draw, Q, σ, G, a, w, hw, h => by
  simp only [wpA] at hw
  cases draw with
  | false =>
   simp only [Bool.false_eq_true, if_false] at hw
   refine wp_region ?_
   have := opsA_sound (Q := fun e a' w' => ∃ σ' G', Q e σ' ∧ SRel G0 w0 σ' G' a' w') h0 (fun σ' G' a' w' hk hs => ⟨σ', G', hk, hs⟩) ops.toList 0 σ G a w (by simp) hw h
   simpa using this
  | true =>
   simp only [if_true] at hw
   exact hw G0 w0 G a w id _ h0 h fun σ' G' a' w' hk hs => ⟨σ', G', hk, hs⟩
 | .seq x y, Q, σ, G, a, w, hw, h => by
  refine wp_seq (wp_mono (wpA_sound h0 x _ σ G a w hw h) ?_)
  rintro e a' w' ⟨σ', G', hk, hs⟩
  cases e with
  | normal => exact wpA_sound h0 y Q σ' G' a' w' hk hs
  | _ => exact ⟨σ', G', hk, hs⟩
 | .cond c x y, Q, σ, G, a, w, hw, h => by
  simp only [wpA] at hw
  have hc := h.ev c
  split at hw
  ·rename_i b hb
   rw [hb] at hc
   exact wp_cond_split hc.sc_inv (fun hb => wpA_sound h0 x Q σ G a w (hw.1 hb) h) (fun hb => wpA_sound h0 y Q σ G a w (hw.2 hb) h)
  ·rename_i hb
   rw [hb] at hc
   obtain ⟨b, hb⟩ := hc.ub_inv
   exact wp_cond_split hb (fun _ => wpA_sound h0 x Q σ G a w hw.1 h) (fun _ => wpA_sound h0 y Q σ G a w hw.2 h)
  ·exact hw.elim
 | .block id c, Q, σ, G, a, w, hw, h => by
  refine wp_block (wp_mono (wpA_sound h0 c _ σ G a w hw h) ?_)
  rintro e a' w' ⟨σ', G', hk, hs⟩
  cases e with
  | exit id' =>
   simp only [blockA] at hk
   simp only [Exit.inBlock]
   split
   ·rename_i hid; rw [if_pos hid] at hk; exact ⟨σ', G', hk, hs⟩
   ·rename_i hid; rw [if_neg hid] at hk; exact ⟨σ', G', hk, hs⟩
  | _ => exact ⟨σ', G', hk, hs⟩
 | .loop c, Q, σ, G, a, w, hw, h => by
  obtain ⟨α, st, m, inv, x0, hI, hle, hround⟩ := hw
  refine wp_loop_ghost (fun k a w => ∃ x G, inv x ∧ m x = k ∧ SRel G0 w0 (st x) G a w) (m x0) (by rcases hle with hle | ⟨p, hle⟩ | ⟨a, b, ha, hb, hle⟩; exact ⟨x0, G, hI, rfl, h.le hle⟩; exact ⟨x0, _, hI, rfl, (h.freeze h0 p).le hle⟩; exact ⟨x0, _, hI, rfl, (h.retag h0 ha hb).le hle⟩) ?_
  rintro k a w ⟨x, G1, hI1, rfl, h1⟩
  refine wp_mono (wpA_sound h0 c _ (st x) G1 a w (hround x hI1) h1) ?_
  rintro e a' w' ⟨σ', G', hk, hs⟩
  cases e with
  | normal =>
   obtain ⟨x', hI3, hlt, hle⟩ := hk
   rcases hle with hle | ⟨p, hle⟩ | ⟨a, b, ha, hb, hle⟩ | ⟨a, b, ha, hb, hb2, hle⟩
   ·exact ⟨_, hlt, x', G', hI3, rfl, hs.le hle⟩
   ·exact ⟨_, hlt, x', _, hI3, rfl, (hs.freeze h0 p).le hle⟩
   ·exact ⟨_, hlt, x', _, hI3, rfl, (hs.retag h0 ha hb).le hle⟩
   ·exact ⟨_, hlt, x', _, hI3, rfl, (hs.mv h0 ha hb hb2).le hle⟩
  | _ => exact ⟨σ', G', hk, hs⟩
 | .exit id, Q, σ, G, a, w, hw, h => wp_exit ⟨σ, G, hw, h⟩
 | .ret, Q, σ, G, a, w, hw, h => wp_ret ⟨σ, G, hw, h⟩
 | .rangeFunc .., Q, σ, G, a, w, hw, h => hw.elim
 | .scope _, Q, σ, G, a, w, hw, h => hw.elim
 | .goto _, Q, σ, G, a, w, hw, h => hw.elim
 | .refuse _, Q, σ, G, a, w, hw, h => hw.elim
def argT : Nat → List AV → List (Nat × AV)
 | _, [] => []
 | k, x :: r => (k, x) :: argT (k + 1) r
theorem argT_look : ∀ (l : List AV) (k s : Nat), lookT (argT k l) s = if k ≤ s then (l[s - k]?).getD .any else .any
 | [], k, s => by simp [argT, lookT]
 | x :: r, k, s => by
  simp only [argT, lookT]
  by_cases hk : k = s
  ·subst hk; simp
  ·rw [if_neg hk, argT_look r (k + 1) s]
   by_cases hks : k ≤ s
   ·rw [if_pos hks, if_pos (by omega), show s - k = (s - (k + 1)) + 1 by omega]; simp
   ·rw [if_neg hks, if_neg (by omega)]
def resK (P : Program) (σ : St) : List ResultVar → (List AV → Prop) → Prop
 | [], K => K []
 | .tmp t :: r, K => resK P σ r fun l => K (σ.get t :: l)
 | .cell a T :: r, K => evLoad P σ.boxes T (σ.get a) fun x => resK P σ r fun l => K (x :: l)
def tupA : List AV → AV
 | [x] => x
 | l => .tup l
def endK (P : Program) (rs : List ResultVar) (m : Nat) (post : AV → List (List AV) → Prop) (σ : St) : Prop :=
 resK P σ rs fun l => m ≤ σ.boxes.length ∧ (tupA l).allLeaf (pbLt m) = true ∧ (tupA l).tags.length < 1000 ∧ ((σ.boxes.take m).all fun cs => cs.all fun x => x.allLeaf fun y => noTag y && pbLt m y) = true ∧ post (tupA l).canon (σ.boxes.take m)
def endQ (P : Program) (rs : List ResultVar) (m : Nat) (post : AV → List (List AV) → Prop) : Exit → St → Prop
 | .normal, σ => endK P rs m post σ
 | .ret, σ => endK P rs m post σ
 | _, _ => False
mutual
theorem ren_id (ts : List Nat) (m : Nat) : ∀ x : AV, x.allLeaf (fun y => noTag y && pbLt m y) = true → x.mapTop (renLeaf ts) = x ∧ x.allLeaf (fun y => tagsIn ts y && pbLt m y) = true
 | .ag cs, h => by
  simp only [AV.allLeaf] at h
  have := rens_id ts m cs h
  simp only [AV.mapTop, this.1, AV.allLeaf, this.2, and_self]
 | .tup cs, h => by
  simp only [AV.allLeaf] at h
  have := rens_id ts m cs h
  simp only [AV.mapTop, this.1, AV.allLeaf, this.2, and_self]
 | .sl t es xs, h => by
  simp only [AV.allLeaf, noTag, pbLt, Bool.and_true, decide_eq_true_eq] at h
  simp only [AV.mapTop, renLeaf, AV.allLeaf, tagsIn, pbLt, Bool.and_true]
  rw [if_neg (by omega)]; simp [h]
 | .pe t es xs i o, h => by
  simp only [AV.allLeaf, noTag, pbLt, Bool.and_true, decide_eq_true_eq] at h
  simp only [AV.mapTop, renLeaf, AV.allLeaf, tagsIn, pbLt, Bool.and_true]
  rw [if_neg (by omega)]; simp [h]
 | .pb i o, h => by simpa [AV.allLeaf, noTag, pbLt, AV.mapTop, renLeaf, tagsIn] using h
 | .any, _ => by simp [AV.mapTop, renLeaf, AV.allLeaf, tagsIn, pbLt]
 | .nil, _ => by simp [AV.mapTop, renLeaf, AV.allLeaf, tagsIn, pbLt]
 | .ub, _ => by simp [AV.mapTop, renLeaf, AV.allLeaf, tagsIn, pbLt]
 | .sc _, _ => by simp [AV.mapTop, renLeaf, AV.allLeaf, tagsIn, pbLt]
 | .fn _ _, _ => by simp [AV.mapTop, renLeaf, AV.allLeaf, tagsIn, pbLt]
 | .fp _ _, _ => by simp [AV.mapTop, renLeaf, AV.allLeaf, tagsIn, pbLt]
 | .mp _ _ _ _ _, h => by simp [AV.allLeaf, noTag] at h
 | .cl _ _, h => by simp [AV.allLeaf, noTag] at h
 | .tl _ _ _ _, h => by simp [AV.allLeaf, noTag] at h
 | .so _ _, h => by simp [AV.allLeaf, noTag] at h
 | .po _ _ _, h => by simp [AV.allLeaf, noTag] at h
theorem rens_id (ts : List Nat) (m : Nat) : ∀ cs : List AV, allLeafs (fun y => noTag y && pbLt m y) cs = true → mapTops (renLeaf ts) cs = cs ∧ allLeafs (fun y => tagsIn ts y && pbLt m y) cs = true
 | [], _ => ⟨rfl, rfl⟩
 | x :: r, h => by
  simp only [allLeafs, Bool.and_eq_true] at h
  have h1 := ren_id ts m x (by simpa using h.1)
  have h2 := rens_id ts m r (by simpa using h.2)
  simp only [mapTops, h1.1, h2.1, allLeafs, h1.2, h2.2, Bool.and_self, and_self]
end
def readVar (tmps : Array Value) : ResultVar → Sem Value
 | .tmp t => pure (tmps.getD t undef)
 | .cell x T => do loadVar T (← asAddr (tmps.getD x undef))
theorem run_results {σ : St} {G0 w0 G a w} (h : SRel G0 w0 σ G a w) : ∀ (rs : List ResultVar) (K : List AV → Prop), resK P σ rs K →
  ∃ l vs, K l ∧ PW (VRel G w) l vs ∧ (rs.mapM (readVar a.tmps)).run P w = .ok vs w
 | [], K, hk => ⟨[], [], hk, .nil _, by simp⟩
 | .tmp t :: r, K, hk => by
  obtain ⟨l, vs, h1, h2, h3⟩ := run_results h r _ hk
  exact ⟨_, _, h1, .cons (h.slots t) h2, by simp [List.mapM_cons, readVar, h3]⟩
 | .cell x T :: r, K, hk => by
  obtain ⟨y, hy, hl⟩ := evLoad_reads (P := P) (T := T) hk
  obtain ⟨l, vs, h1, h2, h3⟩ := run_results h r _ hy
  obtain ⟨u, g1, g2⟩ := hl _ G w _ h.good h.boxes (h.slots x)
  refine ⟨_, _, h1, .cons g2 h2, ?_⟩
  have hl' : (readVar a.tmps (.cell x T)).run P w = .ok u w := by
   simp only [Instr.loadAt, Sem.run_bind] at g1
   simp only [readVar, Sem.run_bind]
   cases hv : a.tmps.getD x undef with
   | pointer p =>
    cases p with
    | none => rw [hv] at g1; simp [Instr.sureAddr, stuck] at g1
    | some p => rw [hv] at g1; simpa [asAddr, Instr.sureAddr] using g1
   | _ => rw [hv] at g1; simp [Instr.sureAddr, stuck] at g1
  simp [List.mapM_cons, hl', h3]
theorem end_sound {fn : Func} {rs : List ResultVar} (hrs : fn.results = rs.toArray) {bx : List (List AV)} {post : AV → List (List AV) → Prop} {σ : St} {G0 w0 G a w} (_h0 : True) (hb0 : ∀ b i, G0 b = .box i → i < bx.length) (h : SRel G0 w0 σ G a w)
  {m : Nat} (hm1 : bx.length ≤ m) (hq : endK P rs m post σ) (hgh : ∀ i vs, G0.gh i = some vs → i < m) :
  ∃ v, (results fn a.tmps).run P w = .ok v w ∧ ∃ r bx' G', post r bx' ∧ VRel G' w r v ∧ Good G' w ∧ BRel G0.gh G' w bx' ∧ (∀ b i, G' b = .box i → i < bx'.length) ∧ (∀ b, b < w0.heap.size → (∀ t, G0 b ≠ .tag t) → G' b = G0 b) ∧ bx'.length ≤ m := by
 obtain ⟨l, vs, ⟨hm2, hpb, htl, hbx, hpost⟩, hpw, hrun⟩ := run_results h rs _ hq
 have hrun' : (fn.results.mapM (readVar a.tmps)).run P w = .ok vs.toArray w := by
  have : fn.results = rs.toArray := hrs
  rw [this, List.mapM_toArray]
  simp [hrun]
 have hv : ∃ v, (results fn a.tmps).run P w = .ok v w ∧ VRel G w (tupA l) v := by
  have hres : ∀ v, v = (if h : vs.toArray.size = 1 then vs.toArray[0] else .tuple vs.toArray) → (results fn a.tmps).run P w = .ok v w := by
   intro v hv
   subst hv
   have e : results fn a.tmps = (do let vs ← fn.results.mapM (readVar a.tmps); pure (if h : vs.size = 1 then vs[0] else .tuple vs)) := by
    unfold results
    congr 1
   rw [e]
   simp [hrun']
  cases l with
  | nil =>
   have := hpw.nil_inv; subst this
   exact ⟨.tuple #[], hres _ (by simp), .tup [] #[] rfl (by simp)⟩
  | cons x l =>
   obtain ⟨v, vs', rfl, h1, h2⟩ := hpw.cons_inv
   cases l with
   | nil =>
    have := h2.nil_inv; subst this
    exact ⟨v, hres _ (by simp), h1⟩
   | cons y l =>
    obtain ⟨v', vs'', rfl, h3, h4⟩ := h2.cons_inv
    exact ⟨.tuple (v :: v' :: vs'').toArray, hres _ (by simp), .tup _ _ (by simpa using hpw.1) (by simpa using hpw.2)⟩
 obtain ⟨v, hres, hr⟩ := hv
 refine ⟨v, hres, (tupA l).canon, σ.boxes.take m, endG (tupA l).tags m G, hpost, ?_, h.good.endG htl, ?_, ?_, ?_, by rw [List.length_take]; omega⟩
 ·exact hr.endG (allLeaf_and _ _ _ (tags_in _ _ fun _ h => h) hpb)
 ·refine ⟨fun i vs hv => by have := h.boxes.low i vs hv; have := hgh i vs hv; rw [List.length_take]; omega, fun i cs hi => ?_⟩
  have hi' : σ.boxes[i]? = some cs ∧ i < m := by
   rw [List.getElem?_take] at hi
   split at hi
   ·exact ⟨hi, by assumption⟩
   ·cases hi
  refine (h.boxes.cell i cs hi'.1).turn rfl (fun j x y u hx hy hr => ?_) (fun b g1 => ⟨by simp [endG, g1, hi'.2], rfl⟩) fun h0 b hb => h0 b ?_
  ·rw [hx] at hy; cases hy
   have hcs := List.all_eq_true.1 hbx cs (List.mem_of_getElem? hi)
   have hxq := List.all_eq_true.1 hcs x (List.mem_of_getElem? hx)
   have := ren_id (tupA l).tags m x hxq
   have h2 := hr.endG (ts := (tupA l).tags) (m := m) this.2
   rw [this.1] at h2; exact h2
  ·unfold endG at hb
   split at hb <;> try (cases hb; done)
   ·split at hb <;> cases hb
   ·rename_i hg; split at hb
    ·cases hb; exact hg
    ·cases hb
 ·intro b i hb
  unfold endG at hb
  split at hb <;> try (cases hb; done)
  ·split at hb <;> cases hb
  ·split at hb
   ·rename_i hlt; cases hb; simp; omega
   ·cases hb
 ·intro b hb hnt
  have := h.stat b hb hnt
  unfold endG
  rw [this]
  cases hg : G0 b with
  | stable => rfl
  | junk => rfl
  | tag t => exact absurd hg (hnt t)
  | box i => have := hb0 b i hg; simp; omega
theorem Con.intro {f : FuncId} {fn : Func} {c : Code} {rs : List ResultVar} {n : Nat} {args : List AV} {bx : List (List AV)} {post : AV → List (List AV) → Prop} (hf : P.funcs[f]? = some fn) (hb : fn.body = some c) (hn : fn.ntmps = n) (hrs : fn.results = rs.toArray)
  (hname : (fn.name == "runtime.NumGoroutine") = false) (hargs : args.length ≤ n) (m : Nat) (hm : bx.length ≤ m) (h : wpA P c (endQ P rs m post) ⟨n, argT 0 args, bx⟩) : Con P f args bx post := by
 refine ⟨⟨fn, hf, hname, by simp [hb]⟩, fun G w vs hg h0 hbl hbr hv => ?_⟩
 subst hn
 refine calls_of_wp hf hb (wp_mono (wpA_sound (G0 := ⟨G, noGh⟩) (w0 := w) trivial c _ ⟨fn.ntmps, argT 0 args, bx⟩ G _ w h ?_) ?_)
 ·have hsz : args.length = vs.size := by have := hv.1; simpa using this
  refine { good := hg, slots := fun s => ?_, boxes := hbr, blt := hbl, size := ?_, defs := rfl, os := rfl, tape := rfl, output := rfl, hsize := Nat.le_refl _, stat := fun _ _ _ => rfl, keep := fun _ _ _ _ => rfl }
  ·simp only [St.get, argT_look, Nat.zero_le, if_true, Nat.sub_zero]
   cases hs : args[s]? with
   | none => exact .froz (.any _)
   | some x =>
    have hlt : s < vs.toList.length := by rw [← hv.1]; exact (List.getElem?_eq_some_iff.1 hs).1
    have := hv.2 s x _ hs (List.getElem?_eq_getElem hlt)
    have e : (vs ++ Array.replicate (fn.ntmps - vs.size) undef).getD s undef = vs.toList[s] := by
     have hlt' : s < vs.size := by simpa using hlt
     simp [Array.getD_eq_getD_getElem?, Array.getElem?_append, hlt']
    simp only [Option.getD_some]
    rw [e]; exact this
  ·simp; omega
 ·rintro e a' w' ⟨σ', G', hq, hs⟩
  have fin : endK P rs m post σ' →
    a'.defers = [] ∧ ∃ v, (results fn a'.tmps).run P w' = .ok v w' ∧ ∃ v_1 r bx' G', Ending.returned v = .returned v_1 ∧ post r bx' ∧ VRel G' w' r v_1 ∧ Good G' w' ∧ BRel noGh G' w' bx' ∧ (∀ b i, G' b = .box i → i < bx'.length) ∧
     w'.os = w.os ∧ w'.tape = w.tape ∧ w'.output = w.output ∧ w.heap.size ≤ w'.heap.size ∧ (∀ b, b < w.heap.size → G' b = G b) ∧ (∀ b, b < w.heap.size → (∀ i, G b ≠ .box i) → w'.heap[b]? = w.heap[b]?) := by
   intro hq
   obtain ⟨v, h1, r, bx', G'', h2, h3, h4, h5, h6, h7, _⟩ := end_sound (rs := rs) (by rw [hrs]) trivial hbl hs hm hq (fun i vs hv => by simp [noGh] at hv)
   exact ⟨hs.defs, v, h1, v, r, bx', G'', rfl, h2, h3, h4, h5, h6, hs.os, hs.tape, hs.output, hs.hsize, fun b hb => h7 b hb (h0 b), fun b hb hn => hs.keep b hb hn (h0 b)⟩
  cases e with
  | normal => exact fin hq
  | ret => exact fin hq
  | _ => exact hq.elim
def endW (P : Program) (rs : List ResultVar) (post : AV → List AV → Prop) (σ : St) : Prop :=
 resK P σ rs fun l => ∃ ys rest, σ.boxes = ys :: rest ∧ allLeafs (pbLt 0) (tupA l :: ys) = true ∧ (tagss (tupA l :: ys)).length < 1000 ∧
  post ((tupA l).mapTop (renLeaf (tagss (tupA l :: ys)))) (mapTops (renLeaf (tagss (tupA l :: ys))) ys)
def endQW (P : Program) (rs : List ResultVar) (post : AV → List AV → Prop) : Exit → St → Prop
 | .normal, σ => endW P rs post σ
 | .ret, σ => endW P rs post σ
 | _, _ => False
def endX (P : Program) (rs : List ResultVar) (m : Nat) (post : AV → List (List AV) → Prop) (σ : St) : Prop :=
 resK P σ rs fun l => m ≤ σ.boxes.length ∧ allLeafs (pbLt m) (tupA l :: catB (σ.boxes.take m)) = true ∧ (tagss (tupA l :: catB (σ.boxes.take m))).length < 1000 ∧
  post ((tupA l).mapTop (renLeaf (tagss (tupA l :: catB (σ.boxes.take m))))) (mapB (renLeaf (tagss (tupA l :: catB (σ.boxes.take m)))) (σ.boxes.take m))
def endQX (P : Program) (rs : List ResultVar) (m : Nat) (post : AV → List (List AV) → Prop) : Exit → St → Prop
 | .normal, σ => endX P rs m post σ
 | .ret, σ => endX P rs m post σ
 | _, _ => False
end
end Go.AM
