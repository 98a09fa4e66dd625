/- AmN AmO -/
import Derived.Test.Ytoglpcfaojcmeaag7
import Derived.Deep.LoopGhost
namespace Go.AM
open Go.RowKit
def leRow (r : Nat) (x y : AV) : Prop := x.rowLike = true ∧ (y = x ∨ y = .any ∨ (x = .nil ∧ ∃ t es, 2 ≤ t ∧ root t = r ∧ y = .sl t es []))
def rowsLe (r : Nat) (xs ys : List AV) : Prop := xs.length = ys.length ∧ ∀ (j : Nat) x y, xs[j]? = some x → ys[j]? = some y → leRow r x y
def leV (x y : AV) : Prop := y = x ∨ y = .any ∨ (x = .nil ∧ ∃ t es, y = .sl t es []) ∨ (∃ t xs ys, 2 ≤ t ∧ x = .sl t 1 xs ∧ y = .so t ys ∧ rowsLe (root t) xs ys) ∨ (∃ t xs ys, x = .so t xs ∧ y = .so t ys ∧ rowsLe (root t) xs ys) ∨ (x = .nil ∧ ∃ t, 2 ≤ t ∧ y = .so t []) ∨ (∃ t es xs, 0 < xs.length ∧ x = .sl t es xs ∧ y = .tl t es xs 0) ∨ ∀ (G : Nat → Status) (w : World) (v : Value), VRel G w x v → VRel G w y v
theorem leV_refl (x : AV) : leV x x := .inl rfl
theorem leV_any (x : AV) : leV x .any := .inr (.inl rfl)
theorem leV_nil (t es : Nat) : leV .nil (.sl t es []) := .inr (.inr (.inl ⟨rfl, t, es, rfl⟩))
theorem leV_slso {t : Nat} {xs ys : List AV} (ht : 2 ≤ t) (h : rowsLe (root t) xs ys) : leV (.sl t 1 xs) (.so t ys) := .inr (.inr (.inr (.inl ⟨t, xs, ys, ht, rfl, rfl, h⟩)))
theorem leV_sem {x y : AV} (h : ∀ (G : Nat → Status) (w : World) (v : Value), VRel G w x v → VRel G w y v) : leV x y := .inr (.inr (.inr (.inr (.inr (.inr (.inr h))))))
theorem own_nil {G : Nat → Status} {w : World} {t es : Nat} (ht : 2 ≤ t) : VRel G w (.sl t es []) (.slice none 0 0) :=
 .own t es [] _ 0 [] ht (World.ownsRow_nil _ _ _ _) (fun b hb => by simp [Value.ownBlock] at hb) (by simp) (fun _ h => by simp at h) (.nil _)
theorem LRel.le {G : Nat → Status} {w : World} {r : Nat} {x y : AV} {v : Value} (h : LRel G w r x v) (hl : leRow r x y) : LRel G w r y v ∧ y.rowLike = true := by
 obtain ⟨hx, rfl | rfl | ⟨rfl, t, es, ht, hr, rfl⟩⟩ := hl
 ·exact ⟨h, hx⟩
 ·exact ⟨.froz (.any _), rfl⟩
 ·have := h.val.nil_inv; subst this
  exact ⟨(own_nil ht).toL rfl (fun _ _ _ e _ => by cases e; exact hr), rfl⟩
theorem rows_le {G : Nat → Status} {w : World} {r : Nat} {xs ys : List AV} {vals : List Value} (h : PW (LRel G w r) xs vals) (hl : rowsLe r xs ys) : PW (LRel G w r) ys vals ∧ ∀ y ∈ ys, y.rowLike = true := by
 have key : ∀ (j : Nat) y u, ys[j]? = some y → vals[j]? = some u → LRel G w r y u ∧ y.rowLike = true := fun j y u hy hu => by
  have hjl : j < xs.length := by rw [hl.1]; exact (List.getElem?_eq_some_iff.1 hy).1
  have hx := List.getElem?_eq_getElem hjl
  exact (h.2 j _ u hx hu).le (hl.2 j _ y hx hy)
 refine ⟨⟨by rw [← hl.1]; exact h.1, fun j y u hy hu => (key j y u hy hu).1⟩, fun y hy => ?_⟩
 obtain ⟨j, hj⟩ := List.getElem?_of_mem hy
 have hjl : j < vals.length := by rw [← h.1, hl.1]; exact (List.getElem?_eq_some_iff.1 hj).1
 exact (key j y _ hj (List.getElem?_eq_getElem hjl)).2
theorem VRel.le {G : Nat → Status} {w : World} {x y : AV} {v : Value} (h : VRel G w x v) (hl : leV x y) : VRel G w y v := by
 rcases hl with rfl | rfl | ⟨rfl, t, es, rfl⟩ | ⟨t, xs, ys, ht, rfl, rfl, hr⟩ | ⟨t, xs, ys, rfl, rfl, hr⟩ | ⟨rfl, t, ht, rfl⟩ | ⟨t, es, xs, hx, rfl, rfl⟩ | hsem
 ·exact h
 ·exact .froz (.any _)
 ·have := h.nil_inv; subst this
  by_cases ht : t < 2
  ·exact .froz (.slNil t es none 0 ht (by simp) (by simp))
  ·exact own_nil (by omega)
 ·cases h with
  | froz h => have := h.sl_lt; omega
  | own _ _ _ _ e vals h1 h2 h3 h4 h0 h5 =>
   have hxr : ∀ x ∈ xs, x.rowLike = true := by
    intro x hx
    obtain ⟨j, hj⟩ := List.getElem?_of_mem hx
    have hjl : j < ys.length := by rw [← hr.1]; exact (List.getElem?_eq_some_iff.1 hj).1
    exact (hr.2 j x _ hj (List.getElem?_eq_getElem hjl)).1
   rw [rowLike_flat hxr] at h5
   obtain ⟨k1, k2⟩ := rows_le (r := root t) (h5.mono fun _ _ _ hr => LRel.froz hr) hr
   exact .so t ys v e vals h1 (by rw [← hr.1]; exact h2) h3 k2 h0 k1
 ·cases h with
  | froz h => cases h
  | so _ _ _ e vals h1 h2 h3 h4 h0 h5 =>
   obtain ⟨k1, k2⟩ := rows_le h5 hr
   exact .so t ys v e vals h1 (by rw [← hr.1]; exact h2) h3 k2 h0 k1
 ·have := h.nil_inv; subst this
  exact .so t [] _ 0 [] ht (World.ownsRow_nil _ _ _ _) (fun b hb => by simp [Value.ownBlock] at hb) (by simp) (fun _ h => by simp at h) (.nil _)
 ·obtain ⟨ao, c, rfl, _, h2, h3, _⟩ := h.sl_inv
  cases ao with
  | none => have := (h2 rfl).2; subst this; simp at hx
  | some a =>
   have h' := h
   rcases h.sl_inv with ⟨ao', c', hv, _, _, _, h4 | ⟨b, off, vals, hv2, _⟩⟩
   ·subst h4; simp at hx
   ·cases hv; cases hv2
    have := VRel.tl t es xs 0 b off off c h' (Nat.zero_le _) (.inl (by omega))
    simpa using this
 ·exact hsem G w v h
def leT (l : List (Nat × AV)) : List (Nat × AV) → Prop
 | [] => True
 | (k, y) :: r => leV (lookT l k) y ∧ leT l r
def leC : List AV → List AV → Prop
 | [], [] => True
 | x :: xs, y :: ys => leV x y ∧ leC xs ys
 | _, _ => False
def leB : List (List AV) → List (List AV) → Prop
 | [], [] => True
 | x :: xs, y :: ys => leC x y ∧ leB xs ys
 | _, _ => False
def St.le (σ τ : St) : Prop := τ.n = σ.n ∧ leT σ.tmps τ.tmps ∧ leB σ.boxes τ.boxes
theorem leT_look {l : List (Nat × AV)} : ∀ {m : List (Nat × AV)}, leT l m → ∀ s, leV (lookT l s) (lookT m s)
 | [], _, s => leV_any _
 | (k, y) :: r, h, s => by
  simp only [lookT]
  by_cases hk : k = s
  ·subst hk; rw [if_pos rfl]; exact h.1
  ·rw [if_neg hk]; exact leT_look h.2 s
theorem leC_pw {G : Nat → Status} {w : World} : ∀ {xs ys : List AV} {vs : List Value}, leC xs ys → PW (VRel G w) xs vs → PW (VRel G w) ys vs
 | [], [], vs, _, h => h
 | x :: xs, y :: ys, vs, hl, h => by
  obtain ⟨v, vs', rfl, h1, h2⟩ := h.cons_inv
  exact .cons (h1.le hl.1) (leC_pw hl.2 h2)
 | [], _ :: _, _, hl, _ => hl.elim
 | _ :: _, [], _, hl, _ => hl.elim
theorem leB_get : ∀ {xs ys : List (List AV)}, leB xs ys → ∀ (i : Nat) cs, ys[i]? = some cs → ∃ cs', xs[i]? = some cs' ∧ leC cs' cs
 | [], [], _, i, cs, h => by simp at h
 | x :: xs, y :: ys, hl, i, cs, h => by
  cases i with
  | zero => simp at h; subst h; exact ⟨x, rfl, hl.1⟩
  | succ i => obtain ⟨cs', h1, h2⟩ := leB_get hl.2 i cs (by simpa using h); exact ⟨cs', by simpa using h1, h2⟩
 | [], _ :: _, hl, _, _, _ => hl.elim
 | _ :: _, [], hl, _, _, _ => hl.elim
theorem leB_length : ∀ {xs ys : List (List AV)}, leB xs ys → ys.length = xs.length
 | [], [], _ => rfl
 | x :: xs, y :: ys, hl => by simp [leB_length hl.2]
 | [], _ :: _, hl => hl.elim
 | _ :: _, [], hl => hl.elim
theorem leC_all {G : Nat → Status} {w : World} : ∀ {xs ys : List AV}, leC xs ys → (∀ x ∈ xs, ∀ v, VRel G w x v) → ∀ y ∈ ys, ∀ v, VRel G w y v
 | [], [], _, _, y, hy, _ => by simp at hy
 | [], _ :: _, h, _, _, _, _ => by simp [leC] at h
 | _ :: _, [], _, _, y, hy, _ => by simp at hy
 | x :: xs, y :: ys, h, hx, z, hz, v => by
  simp only [leC] at h
  rcases List.mem_cons.1 hz with rfl | hz
  ·exact (hx x (by simp) v).le h.1
  ·exact leC_all h.2 (fun x' h' => hx x' (by simp [h'])) z hz v
theorem SRel.le {G0 w0 σ τ G a w} (h : SRel G0 w0 σ G a w) (hl : σ.le τ) : SRel G0 w0 τ G a w :=
 { h with
  slots := fun s => (h.slots s).le (leT_look hl.2.1 s)
  boxes := ⟨fun i vs hv => by rw [leB_length hl.2.2]; exact h.boxes.low i vs hv, fun i cs hi => by
   obtain ⟨cs', h1, h2⟩ := leB_get hl.2.2 i cs hi
   rcases h.boxes.cell i cs' h1 with ⟨g0, b, vals, ty, g1, g2, g3, g4⟩ | ⟨g1, vs, g2, g3⟩ | ⟨g0, g1, g2⟩
   ·exact .inl ⟨g0, b, vals, ty, g1, g2, g3, leC_pw h2 g4⟩
   ·exact .inr (.inl ⟨g1, vs, g2, leC_pw h2 g3⟩)
   ·exact .inr (.inr ⟨g0, g1, leC_all h2 g2⟩)⟩
  blt := fun b i hb => by rw [leB_length hl.2.2]; exact h.blt b i hb
  size := by rw [hl.1]; exact h.size }
section
variable {P : Program}
def thenA (next : St → Prop) (Q : Exit → St → Prop) : Exit → St → Prop
 | .normal, σ => next σ
 | e, σ => Q e σ
def blockA (id : Nat) (Q : Exit → St → Prop) : Exit → St → Prop
 | .exit id', σ => if id' = id then Q .normal σ else Q (.exit id') σ
 | e, σ => Q e σ
def DrawK (P : Program) (ops : Array Oper) (σ : St) (K : St → Prop) : Prop :=
 ∀ (G0 : Orig) (w0 : World) (G : Nat → Status) (a : Act) (w : World) (id : Nat) (Q : Exit → Act → World → Prop), True → SRel G0 w0 σ G a w → (∀ σ' G' a' w', K σ' → SRel G0 w0 σ' G' a' w' → Q .normal a' w') → (Code.region id ops true).wp P Q a w
def roundK {α : Type} (st : α → St) (m : α → Nat) (inv : α → Prop) (x : α) (σ : St) : Prop :=
 ∃ x', inv x' ∧ m x' < m x ∧ (σ.le (st x') ∨ (∃ p, (σ.map (freezeLeaf p)).le (st x')) ∨ (∃ a b, 2 ≤ a ∧ 2 ≤ b ∧ (σ.map (retagLeaf a b)).le (st x')) ∨ ∃ a b, 2 ≤ a ∧ 2 ≤ b ∧ b < 1048576 ∧ (σ.map (mvLeaf a b)).le (st x'))
def LoopK (body : (Exit → St → Prop) → St → Prop) (Q : Exit → St → Prop) (σ : St) : Prop :=
 ∃ (α : Type) (st : α → St) (m : α → Nat) (inv : α → Prop) (x0 : α), inv x0 ∧ (σ.le (st x0) ∨ (∃ p, (σ.map (freezeLeaf p)).le (st x0)) ∨ ∃ a b, 2 ≤ a ∧ 2 ≤ b ∧ (σ.map (retagLeaf a b)).le (st x0)) ∧
  ∀ x, inv x → body (thenA (roundK st m inv x) Q) (st x)
theorem LoopK.intro {α : Type} {body : (Exit → St → Prop) → St → Prop} {Q : Exit → St → Prop} {σ : St} (st : α → St) (m : α → Nat) (inv : α → Prop) (x0 : α) (h0 : inv x0) (hle : σ.le (st x0))
  (round : ∀ x, inv x → body (thenA (roundK st m inv x) Q) (st x)) : LoopK body Q σ :=
 ⟨α, st, m, inv, x0, h0, .inl hle, round⟩
theorem roundK.intro {α : Type} {st : α → St} {m : α → Nat} {inv : α → Prop} {x : α} {σ : St} (x' : α) (h1 : inv x') (h2 : m x' < m x) (h3 : σ.le (st x')) : roundK st m inv x σ := ⟨x', h1, h2, .inl h3⟩
theorem roundK.freeze {α : Type} {st : α → St} {m : α → Nat} {inv : α → Prop} {x : α} {σ : St} (p : Nat → Bool) (x' : α) (h1 : inv x') (h2 : m x' < m x) (h3 : (σ.map (freezeLeaf p)).le (st x')) : roundK st m inv x σ := ⟨x', h1, h2, .inr (.inl ⟨p, h3⟩)⟩
def wpA (P : Program) : Code → (Exit → St → Prop) → St → Prop
 | .skip, Q, σ => Q .normal σ
 | .label _, Q, σ => Q .normal σ
 | .region _ ops draw, Q, σ => if draw = true then DrawK P ops σ (Q .normal) else opsA P ops ops.toList σ (Q .normal)
 | .seq x y, Q, σ => wpA P x (thenA (wpA P y Q) Q) σ
 | .cond c x y, Q, σ => match σ.ev c with
  | .sc (.bool b) => (b = true → wpA P x Q σ) ∧ (b = false → wpA P y Q σ)
  | .ub => wpA P x Q σ ∧ wpA P y Q σ
  | _ => False
 | .block id c, Q, σ => wpA P c (blockA id Q) σ
 | .loop c, Q, σ => LoopK (wpA P c) Q σ
 | .exit id, Q, σ => Q (.exit id) σ
 | .ret, Q, σ => Q .ret σ
 | _, _, _ => False
theorem wpA_sound {G0 : Orig} {w0 : World} (h0 : True) : ∀ (c : Code) (Q : Exit → St → Prop) (σ : St) (G : Nat → Status) (a : Act) (w : World), wpA P c Q σ → SRel G0 w0 σ G a w →
  c.wp P (fun e a' w' => ∃ σ' G', Q e σ' ∧ SRel G0 w0 σ' G' a' w') a w
 | .skip, Q, σ, G, a, w, hw, h => wp_skip ⟨σ, G, hw, h⟩
 | .label _, Q, σ, G, a, w, hw, h => wp_label ⟨σ, G, hw, h⟩
 | .region id ops draw, Q, σ, G, a, w, hw, h => by
  simp only [wpA] at hw
  cases draw with
  | false =>
   simp only [Bool.false_eq_true, if_false] at hw
   refine wp_region ?_
   have := opsA_sound (Q := fun e a' w' => ∃ σ' G', Q e σ' ∧ SRel G0 w0 σ' G' a' w') h0 (fun σ' G' a' w' hk hs => ⟨σ', G', hk, hs⟩) ops.toList 0 σ G a w (by simp) hw h
   simpa using this
  | true =>
   simp only [if_true] at hw
   exact hw G0 w0 G a w id _ h0 h fun σ' G' a' w' hk hs => ⟨σ', G', hk, hs⟩
 | .seq x y, Q, σ, G, a, w, hw, h => by
  refine wp_seq (wp_mono (wpA_sound h0 x _ σ G a w hw h) ?_)
  rintro e a' w' ⟨σ', G', hk, hs⟩
  cases e with
  | normal => exact wpA_sound h0 y Q σ' G' a' w' hk hs
  | _ => exact ⟨σ', G', hk, hs⟩
 | .cond c x y, Q, σ, G, a, w, hw, h => by
  simp only [wpA] at hw
  have hc := h.ev c
  split at hw
  ·rename_i b hb
   rw [hb] at hc
   exact wp_cond_split hc.sc_inv (fun hb => wpA_sound h0 x Q σ G a w (hw.1 hb) h) (fun hb => wpA_sound h0 y Q σ G a w (hw.2 hb) h)
  ·rename_i hb
   rw [hb] at hc
   obtain ⟨b, hb⟩ := hc.ub_inv
   exact wp_cond_split hb (fun _ => wpA_sound h0 x Q σ G a w hw.1 h) (fun _ => wpA_sound h0 y Q σ G a w hw.2 h)
  ·exact hw.elim
 | .block id c, Q, σ, G, a, w, hw, h => by
  refine wp_block (wp_mono (wpA_sound h0 c _ σ G a w hw h) ?_)
  rintro e a' w' ⟨σ', G', hk, hs⟩
  cases e with
  | exit id' =>
   simp only [blockA] at hk
   simp only [Exit.inBlock]
   split
   ·rename_i hid; rw [if_pos hid] at hk; exact ⟨σ', G', hk, hs⟩
   ·rename_i hid; rw [if_neg hid] at hk; exact ⟨σ', G', hk, hs⟩
  | _ => exact ⟨σ', G', hk, hs⟩
 | .loop c, Q, σ, G, a, w, hw, h => by
  obtain ⟨α, st, m, inv, x0, hI, hle, hround⟩ := hw
  refine wp_loop_ghost (fun k a w => ∃ x G, inv x ∧ m x = k ∧ SRel G0 w0 (st x) G a w) (m x0) (by rcases hle with hle | ⟨p, hle⟩ | ⟨a, b, ha, hb, hle⟩; exact ⟨x0, G, hI, rfl, h.le hle⟩; exact ⟨x0, _, hI, rfl, (h.freeze h0 p).le hle⟩; exact ⟨x0, _, hI, rfl, (h.retag h0 ha hb).le hle⟩) ?_
  rintro k a w ⟨x, G1, hI1, rfl, h1⟩
  refine wp_mono (wpA_sound h0 c _ (st x) G1 a w (hround x hI1) h1) ?_
  rintro e a' w' ⟨σ', G', hk, hs⟩
  cases e with
  | normal =>
   obtain ⟨x', hI3, hlt, hle⟩ := hk
   rcases hle with hle | ⟨p, hle⟩ | ⟨a, b, ha, hb, hle⟩ | ⟨a, b, ha, hb, hb2, hle⟩
   ·exact ⟨_, hlt, x', G', hI3, rfl, hs.le hle⟩
   ·exact ⟨_, hlt, x', _, hI3, rfl, (hs.freeze h0 p).le hle⟩
   ·exact ⟨_, hlt, x', _, hI3, rfl, (hs.retag h0 ha hb).le hle⟩
   ·exact ⟨_, hlt, x', _, hI3, rfl, (hs.mv h0 ha hb hb2).le hle⟩
  | _ => exact ⟨σ', G', hk, hs⟩
 | .exit id, Q, σ, G, a, w, hw, h => wp_exit ⟨σ, G, hw, h⟩
 | .ret, Q, σ, G, a, w, hw, h => wp_ret ⟨σ, G, hw, h⟩
 | .rangeFunc .., Q, σ, G, a, w, hw, h => hw.elim
 | .scope _, Q, σ, G, a, w, hw, h => hw.elim
 | .goto _, Q, σ, G, a, w, hw, h => hw.elim
 | .refuse _, Q, σ, G, a, w, hw, h => hw.elim
def argT : Nat → List AV → List (Nat × AV)
 | _, [] => []
 | k, x :: r => (k, x) :: argT (k + 1) r
theorem argT_look : ∀ (l : List AV) (k s : Nat), lookT (argT k l) s = if k ≤ s then (l[s - k]?).getD .any else .any
 | [], k, s => by simp [argT, lookT]
 | x :: r, k, s => by
  simp only [argT, lookT]
  by_cases hk : k = s
  ·subst hk; simp
  ·rw [if_neg hk, argT_look r (k + 1) s]
   by_cases hks : k ≤ s
   ·rw [if_pos hks, if_pos (by omega), show s - k = (s - (k + 1)) + 1 by omega]; simp
   ·rw [if_neg hks, if_neg (by omega)]
def resK (P : Program) (σ : St) : List ResultVar → (List AV → Prop) → Prop
 | [], K => K []
 | .tmp t :: r, K => resK P σ r fun l => K (σ.get t :: l)
 | .cell a T :: r, K => evLoad P σ.boxes T (σ.get a) fun x => resK P σ r fun l => K (x :: l)
def tupA : List AV → AV
 | [x] => x
 | l => .tup l
def endK (P : Program) (rs : List ResultVar) (m : Nat) (post : AV → List (List AV) → Prop) (σ : St) : Prop :=
 resK P σ rs fun l => m ≤ σ.boxes.length ∧ (tupA l).allLeaf (pbLt m) = true ∧ (tupA l).tags.length < 1000 ∧ ((σ.boxes.take m).all fun cs => cs.all fun x => x.allLeaf fun y => noTag y && pbLt m y) = true ∧ post (tupA l).canon (σ.boxes.take m)
def endQ (P : Program) (rs : List ResultVar) (m : Nat) (post : AV → List (List AV) → Prop) : Exit → St → Prop
 | .normal, σ => endK P rs m post σ
 | .ret, σ => endK P rs m post σ
 | _, _ => False
mutual
theorem ren_id (ts : List Nat) (m : Nat) : ∀ x : AV, x.allLeaf (fun y => noTag y && pbLt m y) = true → x.mapTop (renLeaf ts) = x ∧ x.allLeaf (fun y => tagsIn ts y && pbLt m y) = true
 | .ag cs, h => by
  simp only [AV.allLeaf] at h
  have := rens_id ts m cs h
  simp only [AV.mapTop, this.1, AV.allLeaf, this.2, and_self]
 | .tup cs, h => by
  simp only [AV.allLeaf] at h
  have := rens_id ts m cs h
  simp only [AV.mapTop, this.1, AV.allLeaf, this.2, and_self]
 | .sl t es xs, h => by
  simp only [AV.allLeaf, noTag, pbLt, Bool.and_true, decide_eq_true_eq] at h
  simp only [AV.mapTop, renLeaf, AV.allLeaf, tagsIn, pbLt, Bool.and_true]
  rw [if_neg (by omega)]; simp [h]
 | .pe t es xs i o, h => by
  simp only [AV.allLeaf, noTag, pbLt, Bool.and_true, decide_eq_true_eq] at h
  simp only [AV.mapTop, renLeaf, AV.allLeaf, tagsIn, pbLt, Bool.and_true]
  rw [if_neg (by omega)]; simp [h]
 | .pb i o, h => by simpa [AV.allLeaf, noTag, pbLt, AV.mapTop, renLeaf, tagsIn] using h
 | .any, _ => by simp [AV.mapTop, renLeaf, AV.allLeaf, tagsIn, pbLt]
 | .nil, _ => by simp [AV.mapTop, renLeaf, AV.allLeaf, tagsIn, pbLt]
 | .ub, _ => by simp [AV.mapTop, renLeaf, AV.allLeaf, tagsIn, pbLt]
 | .sc _, _ => by simp [AV.mapTop, renLeaf, AV.allLeaf, tagsIn, pbLt]
 | .fn _ _, _ => by simp [AV.mapTop, renLeaf, AV.allLeaf, tagsIn, pbLt]
 | .fp _ _, _ => by simp [AV.mapTop, renLeaf, AV.allLeaf, tagsIn, pbLt]
 | .mp _ _ _ _ _, h => by simp [AV.allLeaf, noTag] at h
 | .cl _ _, h => by simp [AV.allLeaf, noTag] at h
 | .tl _ _ _ _, h => by simp [AV.allLeaf, noTag] at h
 | .so _ _, h => by simp [AV.allLeaf, noTag] at h
 | .po _ _ _, h => by simp [AV.allLeaf, noTag] at h
theorem rens_id (ts : List Nat) (m : Nat) : ∀ cs : List AV, allLeafs (fun y => noTag y && pbLt m y) cs = true → mapTops (renLeaf ts) cs = cs ∧ allLeafs (fun y => tagsIn ts y && pbLt m y) cs = true
 | [], _ => ⟨rfl, rfl⟩
 | x :: r, h => by
  simp only [allLeafs, Bool.and_eq_true] at h
  have h1 := ren_id ts m x (by simpa using h.1)
  have h2 := rens_id ts m r (by simpa using h.2)
  simp only [mapTops, h1.1, h2.1, allLeafs, h1.2, h2.2, Bool.and_self, and_self]
end
def readVar (tmps : Array Value) : ResultVar → Sem Value
 | .tmp t => pure (tmps.getD t undef)
 | .cell x T => do loadVar T (← asAddr (tmps.getD x undef))
theorem run_results {σ : St} {G0 w0 G a w} (h : SRel G0 w0 σ G a w) : ∀ (rs : List ResultVar) (K : List AV → Prop), resK P σ rs K →
  ∃ l vs, K l ∧ PW (VRel G w) l vs ∧ (rs.mapM (readVar a.tmps)).run P w = .ok vs w
 | [], K, hk => ⟨[], [], hk, .nil _, by simp⟩
 | .tmp t :: r, K, hk => by
  obtain ⟨l, vs, h1, h2, h3⟩ := run_results h r _ hk
  exact ⟨_, _, h1, .cons (h.slots t) h2, by simp [List.mapM_cons, readVar, h3]⟩
 | .cell x T :: r, K, hk => by
  obtain ⟨y, hy, hl⟩ := evLoad_reads (P := P) (T := T) hk
  obtain ⟨l, vs, h1, h2, h3⟩ := run_results h r _ hy
  obtain ⟨u, g1, g2⟩ := hl _ G w _ h.good h.boxes (h.slots x)
  refine ⟨_, _, h1, .cons g2 h2, ?_⟩
  have hl' : (readVar a.tmps (.cell x T)).run P w = .ok u w := by
   simp only [Instr.loadAt, Sem.run_bind] at g1
   simp only [readVar, Sem.run_bind]
   cases hv : a.tmps.getD x undef with
   | pointer p =>
    cases p with
    | none => rw [hv] at g1; simp [Instr.sureAddr, stuck] at g1
    | some p => rw [hv] at g1; simpa [asAddr, Instr.sureAddr] using g1
   | _ => rw [hv] at g1; simp [Instr.sureAddr, stuck] at g1
  simp [List.mapM_cons, hl', h3]
theorem end_sound {fn : Func} {rs : List ResultVar} (hrs : fn.results = rs.toArray) {bx : List (List AV)} {post : AV → List (List AV) → Prop} {σ : St} {G0 w0 G a w} (_h0 : True) (hb0 : ∀ b i, G0 b = .box i → i < bx.length) (h : SRel G0 w0 σ G a w)
  {m : Nat} (hm1 : bx.length ≤ m) (hq : endK P rs m post σ) (hgh : ∀ i vs, G0.gh i = some vs → i < m) :
  ∃ v, (results fn a.tmps).run P w = .ok v w ∧ ∃ r bx' G', post r bx' ∧ VRel G' w r v ∧ Good G' w ∧ BRel G0.gh G' w bx' ∧ (∀ b i, G' b = .box i → i < bx'.length) ∧ (∀ b, b < w0.heap.size → (∀ t, G0 b ≠ .tag t) → G' b = G0 b) ∧ bx'.length ≤ m := by
 obtain ⟨l, vs, ⟨hm2, hpb, htl, hbx, hpost⟩, hpw, hrun⟩ := run_results h rs _ hq
 have hrun' : (fn.results.mapM (readVar a.tmps)).run P w = .ok vs.toArray w := by
  have : fn.results = rs.toArray := hrs
  rw [this, List.mapM_toArray]
  simp [hrun]
 have hv : ∃ v, (results fn a.tmps).run P w = .ok v w ∧ VRel G w (tupA l) v := by
  have hres : ∀ v, v = (if h : vs.toArray.size = 1 then vs.toArray[0] else .tuple vs.toArray) → (results fn a.tmps).run P w = .ok v w := by
   intro v hv
   subst hv
   have e : results fn a.tmps = (do let vs ← fn.results.mapM (readVar a.tmps); pure (if h : vs.size = 1 then vs[0] else .tuple vs)) := by
    unfold results
    congr 1
   rw [e]
   simp [hrun']
  cases l with
  | nil =>
   have := hpw.nil_inv; subst this
   exact ⟨.tuple #[], hres _ (by simp), .tup [] #[] rfl (by simp)⟩
  | cons x l =>
   obtain ⟨v, vs', rfl, h1, h2⟩ := hpw.cons_inv
   cases l with
   | nil =>
    have := h2.nil_inv; subst this
    exact ⟨v, hres _ (by simp), h1⟩
   | cons y l =>
    obtain ⟨v', vs'', rfl, h3, h4⟩ := h2.cons_inv
    exact ⟨.tuple (v :: v' :: vs'').toArray, hres _ (by simp), .tup _ _ (by simpa using hpw.1) (by simpa using hpw.2)⟩
 obtain ⟨v, hres, hr⟩ := hv
 refine ⟨v, hres, (tupA l).canon, σ.boxes.take m, endG (tupA l).tags m G, hpost, ?_, h.good.endG htl, ?_, ?_, ?_, by rw [List.length_take]; omega⟩
 ·exact hr.endG (allLeaf_and _ _ _ (tags_in _ _ fun _ h => h) hpb)
 ·refine ⟨fun i vs hv => by have := h.boxes.low i vs hv; have := hgh i vs hv; rw [List.length_take]; omega, fun i cs hi => ?_⟩
  have hi' : σ.boxes[i]? = some cs ∧ i < m := by
   rw [List.getElem?_take] at hi
   split at hi
   ·exact ⟨hi, by assumption⟩
   ·cases hi
  refine (h.boxes.cell i cs hi'.1).turn rfl (fun j x y u hx hy hr => ?_) (fun b g1 => ⟨by simp [endG, g1, hi'.2], rfl⟩) fun h0 b hb => h0 b ?_
  ·rw [hx] at hy; cases hy
   have hcs := List.all_eq_true.1 hbx cs (List.mem_of_getElem? hi)
   have hxq := List.all_eq_true.1 hcs x (List.mem_of_getElem? hx)
   have := ren_id (tupA l).tags m x hxq
   have h2 := hr.endG (ts := (tupA l).tags) (m := m) this.2
   rw [this.1] at h2; exact h2
  ·unfold endG at hb
   split at hb <;> try (cases hb; done)
   ·split at hb <;> cases hb
   ·rename_i hg; split at hb
    ·cases hb; exact hg
    ·cases hb
 ·intro b i hb
  unfold endG at hb
  split at hb <;> try (cases hb; done)
  ·split at hb <;> cases hb
  ·split at hb
   ·rename_i hlt; cases hb; simp; omega
   ·cases hb
 ·intro b hb hnt
  have := h.stat b hb hnt
  unfold endG
  rw [this]
  cases hg : G0 b with
  | stable => rfl
  | junk => rfl
  | tag t => exact absurd hg (hnt t)
  | box i => have := hb0 b i hg; simp; omega
theorem Con.intro {f : FuncId} {fn : Func} {c : Code} {rs : List ResultVar} {n : Nat} {args : List AV} {bx : List (List AV)} {post : AV → List (List AV) → Prop} (hf : P.funcs[f]? = some fn) (hb : fn.body = some c) (hn : fn.ntmps = n) (hrs : fn.results = rs.toArray)
  (hname : (fn.name == "runtime.NumGoroutine") = false) (hargs : args.length ≤ n) (m : Nat) (hm : bx.length ≤ m) (h : wpA P c (endQ P rs m post) ⟨n, argT 0 args, bx⟩) : Con P f args bx post := by
 refine ⟨⟨fn, hf, hname, by simp [hb]⟩, fun G w vs hg h0 hbl hbr hv => ?_⟩
 subst hn
 refine calls_of_wp hf hb (wp_mono (wpA_sound (G0 := ⟨G, noGh⟩) (w0 := w) trivial c _ ⟨fn.ntmps, argT 0 args, bx⟩ G _ w h ?_) ?_)
 ·have hsz : args.length = vs.size := by have := hv.1; simpa using this
  refine { good := hg, slots := fun s => ?_, boxes := hbr, blt := hbl, size := ?_, defs := rfl, os := rfl, tape := rfl, output := rfl, hsize := Nat.le_refl _, stat := fun _ _ _ => rfl, keep := fun _ _ _ _ => rfl }
  ·simp only [St.get, argT_look, Nat.zero_le, if_true, Nat.sub_zero]
   cases hs : args[s]? with
   | none => exact .froz (.any _)
   | some x =>
    have hlt : s < vs.toList.length := by rw [← hv.1]; exact (List.getElem?_eq_some_iff.1 hs).1
    have := hv.2 s x _ hs (List.getElem?_eq_getElem hlt)
    have e : (vs ++ Array.replicate (fn.ntmps - vs.size) undef).getD s undef = vs.toList[s] := by
     have hlt' : s < vs.size := by simpa using hlt
     simp [Array.getD_eq_getD_getElem?, Array.getElem?_append, hlt']
    simp only [Option.getD_some]
    rw [e]; exact this
  ·simp; omega
 ·rintro e a' w' ⟨σ', G', hq, hs⟩
  have fin : endK P rs m post σ' →
    a'.defers = [] ∧ ∃ v, (results fn a'.tmps).run P w' = .ok v w' ∧ ∃ v_1 r bx' G', Ending.returned v = .returned v_1 ∧ post r bx' ∧ VRel G' w' r v_1 ∧ Good G' w' ∧ BRel noGh G' w' bx' ∧ (∀ b i, G' b = .box i → i < bx'.length) ∧
     w'.os = w.os ∧ w'.tape = w.tape ∧ w'.output = w.output ∧ w.heap.size ≤ w'.heap.size ∧ (∀ b, b < w.heap.size → G' b = G b) ∧ (∀ b, b < w.heap.size → (∀ i, G b ≠ .box i) → w'.heap[b]? = w.heap[b]?) := by
   intro hq
   obtain ⟨v, h1, r, bx', G'', h2, h3, h4, h5, h6, h7, _⟩ := end_sound (rs := rs) (by rw [hrs]) trivial hbl hs hm hq (fun i vs hv => by simp [noGh] at hv)
   exact ⟨hs.defs, v, h1, v, r, bx', G'', rfl, h2, h3, h4, h5, h6, hs.os, hs.tape, hs.output, hs.hsize, fun b hb => h7 b hb (h0 b), fun b hb hn => hs.keep b hb hn (h0 b)⟩
  cases e with
  | normal => exact fin hq
  | ret => exact fin hq
  | _ => exact hq.elim
def endW (P : Program) (rs : List ResultVar) (post : AV → List AV → Prop) (σ : St) : Prop :=
 resK P σ rs fun l => ∃ ys rest, σ.boxes = ys :: rest ∧ allLeafs (pbLt 0) (tupA l :: ys) = true ∧ (tagss (tupA l :: ys)).length < 1000 ∧
  post ((tupA l).mapTop (renLeaf (tagss (tupA l :: ys)))) (mapTops (renLeaf (tagss (tupA l :: ys))) ys)
def endQW (P : Program) (rs : List ResultVar) (post : AV → List AV → Prop) : Exit → St → Prop
 | .normal, σ => endW P rs post σ
 | .ret, σ => endW P rs post σ
 | _, _ => False
theorem res_sound {fn : Func} {rs : List ResultVar} (hrs : fn.results = rs.toArray) {σ : St} {G0 w0 G a w} (h : SRel G0 w0 σ G a w) {K : List AV → Prop} (hq : resK P σ rs K) :
  ∃ v l, (results fn a.tmps).run P w = .ok v w ∧ K l ∧ VRel G w (tupA l) v := by
 obtain ⟨l, vs, hK, hpw, hrun⟩ := run_results h rs _ hq
 have hrun' : (fn.results.mapM (readVar a.tmps)).run P w = .ok vs.toArray w := by
  rw [hrs, List.mapM_toArray]
  simp [hrun]
 have hres : ∀ v, v = (if h : vs.toArray.size = 1 then vs.toArray[0] else .tuple vs.toArray) → (results fn a.tmps).run P w = .ok v w := by
  intro v hv
  subst hv
  have e : results fn a.tmps = (do let vs ← fn.results.mapM (readVar a.tmps); pure (if h : vs.size = 1 then vs[0] else .tuple vs)) := by
   unfold results
   congr 1
  rw [e]
  simp [hrun']
 cases l with
 | nil =>
  have := hpw.nil_inv; subst this
  exact ⟨.tuple #[], _, hres _ (by simp), hK, .tup [] #[] rfl (by simp)⟩
 | cons x l =>
  obtain ⟨v, vs', rfl, h1, h2⟩ := hpw.cons_inv
  cases l with
  | nil =>
   have := h2.nil_inv; subst this
   exact ⟨v, _, hres _ (by simp), hK, h1⟩
  | cons y l =>
   obtain ⟨v', vs'', rfl, h3, h4⟩ := h2.cons_inv
   exact ⟨.tuple (v :: v' :: vs'').toArray, _, hres _ (by simp), hK, .tup _ _ (by simpa using hpw.1) (by simpa using hpw.2)⟩
theorem ConW.intro {f : FuncId} {fn : Func} {c : Code} {rs : List ResultVar} {n : Nat} {args : List AV} {post : AV → List AV → Prop} (hf : P.funcs[f]? = some fn) (hb : fn.body = some c) (hn : fn.ntmps = n) (hrs : fn.results = rs.toArray)
  (hname : (fn.name == "runtime.NumGoroutine") = false) (hargs : args.length ≤ n) (h : wpA P c (endQW P rs post) ⟨n, argT 0 args, [args]⟩) : ConW P f args post := by
 refine ⟨⟨fn, hf, hname, by simp [hb]⟩, fun G w vs hg hbx hv => ?_⟩
 subst hn
 refine calls_of_wp hf hb (wp_mono (wpA_sound (G0 := ⟨G, fun i => if i = 0 then some vs.toList else none⟩) (w0 := w) trivial c _ ⟨fn.ntmps, argT 0 args, [args]⟩ G _ w h ?_) ?_)
 ·have hsz : args.length = vs.size := by have := hv.1; simpa using this
  refine { good := hg, slots := fun s => ?_, boxes := ⟨fun i vs hv => ?_, fun i cs h => ?_⟩, blt := fun b i h => absurd h (hbx b i), size := ?_, defs := rfl, os := rfl, tape := rfl, output := rfl, hsize := Nat.le_refl _, stat := fun _ _ _ => rfl, keep := fun _ _ _ _ => rfl }
  ·simp only [St.get, argT_look, Nat.zero_le, if_true, Nat.sub_zero]
   cases hs : args[s]? with
   | none => exact .froz (.any _)
   | some x =>
    have hlt : s < vs.toList.length := by rw [← hv.1]; exact (List.getElem?_eq_some_iff.1 hs).1
    have := hv.2 s x _ hs (List.getElem?_eq_getElem hlt)
    have e : (vs ++ Array.replicate (fn.ntmps - vs.size) undef).getD s undef = vs.toList[s] := by
     have hlt' : s < vs.size := by simpa using hlt
     simp [Array.getD_eq_getD_getElem?, Array.getElem?_append, hlt']
    simp only [Option.getD_some]
    rw [e]; exact this
  ·simp only at hv
   split at hv
   ·rename_i h0; simp [h0]
   ·cases hv
  ·cases i with
   | zero =>
    simp at h; subst h
    exact .inr (.inl ⟨fun b => hbx b 0, vs.toList, by simp, hv⟩)
   | succ i => simp at h
  ·simp; try omega
 ·rintro e a' w' ⟨σ', G', hq, hs⟩
  have fin : endW P rs post σ' →
    a'.defers = [] ∧ ∃ v, (results fn a'.tmps).run P w' = .ok v w' ∧ ∃ v_1 r ys G', Ending.returned v = .returned v_1 ∧ post r ys ∧ VRel G' w' r v_1 ∧ PW (VRel G' w') ys vs.toList ∧ Good G' w' ∧ (∀ b i, G' b ≠ .box i) ∧
     w'.os = w.os ∧ w'.tape = w.tape ∧ w'.output = w.output ∧ w.heap.size ≤ w'.heap.size ∧ (∀ b, b < w.heap.size → (∀ t, G b ≠ .tag t) → G' b = G b) ∧ (∀ b, b < w.heap.size → (∀ t, G b ≠ .tag t) → w'.heap[b]? = w.heap[b]?) := by
   intro hq
   obtain ⟨v, l, h1, ⟨ys, rest, hbxs, hpb, htl, hpost⟩, hr⟩ := res_sound (rs := rs) hrs hs hq
   have hys : PW (VRel G' w') ys vs.toList := by
    rcases hs.boxes.cell 0 ys (by rw [hbxs]; rfl) with ⟨h0, _⟩ | ⟨_, vs', h0, hp⟩ | ⟨h0, _⟩
    ·simp at h0
    ·simp at h0; subst h0; exact hp
    ·simp at h0
   have hall : ∀ x ∈ tupA l :: ys, x.allLeaf (fun y => tagsIn (tagss (tupA l :: ys)) y && pbLt 0 y) = true := fun x hx =>
    allLeaf_and _ _ _ (tags_in _ x (tagss_mem hx)) (allLeafs_mem hpb x hx)
   refine ⟨hs.defs, v, h1, v, _, _, endG (tagss (tupA l :: ys)) 0 G', rfl, hpost, hr.endG (hall _ (by simp)), ?_, hs.good.endG htl, ?_, hs.os, hs.tape, hs.output, hs.hsize, ?_, fun b hb hnt => hs.keep b hb (hbx b) hnt⟩
   ·refine ⟨by rw [mapTops_eq]; simpa using hys.1, fun j x u hx hu => ?_⟩
    rw [mapTops_eq, List.getElem?_map] at hx
    cases hj : ys[j]? with
    | none => simp [hj] at hx
    | some y =>
     simp [hj] at hx; subst hx
     exact (hys.2 j y u hj hu).endG (hall y (by simp [List.mem_of_getElem? hj]))
   ·intro b i hbi
    unfold endG at hbi
    cases hg : G' b <;> simp only [hg] at hbi
    ·cases hbi
    ·split at hbi <;> cases hbi
    ·rw [if_neg (by omega)] at hbi; cases hbi
    ·cases hbi
   ·intro b hb hnt
    have h2 : G' b = G b := hs.stat b hb hnt
    unfold endG
    rw [h2]
    cases hg : G b with
    | stable => rfl
    | junk => rfl
    | tag t => exact absurd hg (hnt t)
    | box i => exact absurd hg (hbx b i)
  cases e with
  | normal => exact fin hq
  | ret => exact fin hq
  | _ => exact hq.elim
def endX (P : Program) (rs : List ResultVar) (m : Nat) (post : AV → List (List AV) → Prop) (σ : St) : Prop :=
 resK P σ rs fun l => m ≤ σ.boxes.length ∧ allLeafs (pbLt m) (tupA l :: catB (σ.boxes.take m)) = true ∧ (tagss (tupA l :: catB (σ.boxes.take m))).length < 1000 ∧
  post ((tupA l).mapTop (renLeaf (tagss (tupA l :: catB (σ.boxes.take m))))) (mapB (renLeaf (tagss (tupA l :: catB (σ.boxes.take m)))) (σ.boxes.take m))
def endQX (P : Program) (rs : List ResultVar) (m : Nat) (post : AV → List (List AV) → Prop) : Exit → St → Prop
 | .normal, σ => endX P rs m post σ
 | .ret, σ => endX P rs m post σ
 | _, _ => False
end
def mkd {α : Type} (x : α) : α := x
@[go_sem, simp] theorem mkd_eq {α : Type} (x : α) : mkd x = x := congrFun (funext fun y => (Eq.refl (mkd y) : mkd y = y)) x
def caseO {α : Type} (o : Option α) (k : α → Prop) : Prop := ∃ a, o = some a ∧ k a
@[congr] theorem caseO_congr {α : Type} {o o' : Option α} {k : α → Prop} (h : mkd o = o') : caseO o k = caseO o' k := by subst_vars; rfl
@[go_sem] theorem caseO_some {α : Type} (a : α) (k : α → Prop) : caseO (some a) k = k a := by simp [caseO]
def onSlice (d : Option TypeDesc) (k : TypeId → Prop) : Prop := ∃ E, d = some (.slice E) ∧ k E
@[congr] theorem onSlice_congr {d d' : Option TypeDesc} {k : TypeId → Prop} (h : mkd d = d') : onSlice d k = onSlice d' k := by subst_vars; rfl
@[go_sem] theorem onSlice_some (E : TypeId) (k : TypeId → Prop) : onSlice (some (.slice E)) k = k E := by simp [onSlice]
def onArray (d : Option TypeDesc) (k : Nat → TypeId → Prop) : Prop := ∃ n E, d = some (.array n E) ∧ k n E
@[congr] theorem onArray_congr {d d' : Option TypeDesc} {k : Nat → TypeId → Prop} (h : mkd d = d') : onArray d k = onArray d' k := by subst_vars; rfl
def onB (b : Bool) (p q : Prop) : Prop := if b = true then p else q
@[congr] theorem onB_congr {b b' : Bool} {p q : Prop} (h : mkd b = b') : onB b p q = onB b' p q := by subst_vars; rfl
@[go_sem] theorem onB_true (p q : Prop) : onB true p q = p := rfl
@[go_sem] theorem onB_false (p q : Prop) : onB false p q = q := rfl
def onBool (x : AV) (k : Bool → Prop) : Prop := ∃ b, x = .sc (.bool b) ∧ k b
@[congr] theorem onBool_congr {x x' : AV} {k : Bool → Prop} (h : mkd x = x') : onBool x k = onBool x' k := by subst_vars; rfl
@[go_sem] theorem onBool_sc (b : Bool) (k : Bool → Prop) : onBool (.sc (.bool b)) k = k b := by
 unfold onBool
 apply propext
 constructor
 ·rintro ⟨b', h, hk⟩; cases h; exact hk
 ·intro h; exact ⟨b, rfl, h⟩
def onGuard (x : AV) (k : Bool → Prop) (q : Prop) : Prop := (∃ b, x = .sc (.bool b) ∧ k b) ∨ ∃ vs, x = .sc (.tuple vs) ∧ q
@[congr] theorem onGuard_congr {x x' : AV} {k : Bool → Prop} {q : Prop} (h : mkd x = x') : onGuard x k q = onGuard x' k q := by subst_vars; rfl
@[go_sem] theorem onGuard_sc (b : Bool) (k : Bool → Prop) (q : Prop) : onGuard (.sc (.bool b)) k q = k b := by
 unfold onGuard
 apply propext
 constructor
 ·rintro (⟨b', h, hk⟩ | ⟨vs, h, _⟩)
  ·cases h; exact hk
  ·cases h
 ·intro h; exact .inl ⟨b, rfl, h⟩
@[go_sem] theorem onGuard_un (k : Bool → Prop) (q : Prop) : onGuard (.sc undef) k q = q := by
 unfold onGuard
 apply propext
 constructor
 ·rintro (⟨b', h, hk⟩ | ⟨vs, h, hq⟩)
  ·cases h
  ·exact hq
 ·intro h; exact .inr ⟨_, rfl, h⟩
def both (b : Bool) (p q : Prop) : Prop := (b = true → p) ∧ (b = false → q)
@[congr] theorem both_congr {b b' : Bool} {p q : Prop} (h : mkd b = b') : both b p q = both b' p q := by subst_vars; rfl
@[go_sem] theorem both_true (p q : Prop) : both true p q = p := by simp [both]
@[go_sem] theorem both_false (p q : Prop) : both false p q = q := by simp [both]
def andK (p q : Prop) : Prop := p ∧ q
@[congr] theorem andK_congr {p p' q : Prop} (h : mkd p = p') : andK p q = andK p' q := by subst_vars; rfl
@[go_sem] theorem andK_true (q : Prop) : andK True q = q := by simp [andK]
section
variable {P : Program}
@[congr] theorem wpA_congr {c : Code} {Q : Exit → St → Prop} {σ σ' : St} (h : mkd σ = σ') : wpA P c Q σ = wpA P c Q σ' := by subst_vars; rfl
@[congr] theorem opsA_congr {ops : Array Oper} {l : List Oper} {K : St → Prop} {σ σ' : St} (h : mkd σ = σ') : opsA P ops l σ K = opsA P ops l σ' K := by subst_vars; rfl
@[congr] theorem wpOp_congr {o : Oper} {K : St → Prop} {σ σ' : St} (h : mkd σ = σ') : wpOp P o σ K = wpOp P o σ' K := by subst_vars; rfl
@[congr] theorem LoopK_congr {body : (Exit → St → Prop) → St → Prop} {Q : Exit → St → Prop} {σ σ' : St} (h : mkd σ = σ') : LoopK body Q σ = LoopK body Q σ' := by subst_vars; rfl
@[congr] theorem roundK_congr {α : Type} {st : α → St} {m : α → Nat} {inv : α → Prop} {x : α} {σ σ' : St} (h : mkd σ = σ') : roundK st m inv x σ = roundK st m inv x σ' := by subst_vars; rfl
@[congr] theorem DrawK_congr {ops : Array Oper} {K : St → Prop} {σ σ' : St} (h : mkd σ = σ') : DrawK P ops σ K = DrawK P ops σ' K := by subst_vars; rfl
@[congr] theorem CallU_congr {f : FuncId} {args args' : List AV} {d : Nat} {K : St → Prop} {σ σ' : St} (h1 : mkd args = args') (h : σ = σ') : CallU P f args d σ K = CallU P f args' d σ' K := by subst_vars; rfl
@[congr] theorem thenA_congr {next : St → Prop} {Q : Exit → St → Prop} {e e' : Exit} {σ σ' : St} (h1 : mkd e = e') (h : σ = σ') : thenA next Q e σ = thenA next Q e' σ' := by subst_vars; rfl
@[congr] theorem blockA_congr {id : Nat} {Q : Exit → St → Prop} {e e' : Exit} {σ σ' : St} (h1 : mkd e = e') (h : σ = σ') : blockA id Q e σ = blockA id Q e' σ' := by subst_vars; rfl
@[congr] theorem evLoad_congr {bx bx' : List (List AV)} {T : TypeId} {x x' : AV} {K : AV → Prop} (h1 : mkd bx = bx') (h : x = x') : evLoad P bx T x K = evLoad P bx' T x' K := by subst_vars; rfl
@[congr] theorem evPart_congr {T : TypeId} {cs cs' : List AV} {o o' : Nat} {K : AV → Prop} (h1 : mkd cs = cs') (h : o = o') : evPart P T cs o K = evPart P T cs' o' K := by subst_vars; rfl
@[congr] theorem evBinOp_congr {op : BinOp} {T : TypeId} {x x' y y' : AV} {K : AV → Prop} (h1 : mkd x = x') (h : y = y') : evBinOp P op T x y K = evBinOp P op T x' y' K := by subst_vars; rfl
@[congr] theorem evBin_congr {op : BinOp} {T : TypeId} {x x' y y' : Value} {K : Value → Prop} (h1 : mkd x = x') (h : y = y') : evBin P op T x y K = evBin P op T x' y' K := by subst_vars; rfl
@[congr] theorem evUn_congr {op : UnOp} {x x' : AV} {K : AV → Prop} (h : mkd x = x') : evUn op x K = evUn op x' K := by subst_vars; rfl
@[congr] theorem evConv_congr {s t : TypeId} {x x' : AV} {K : AV → Prop} (h : mkd x = x') : evConv P s t x K = evConv P s t x' K := by subst_vars; rfl
@[congr] theorem evSlice_congr {T : TypeId} {x x' : AV} {lo lo' hi hi' mx mx' : Option AV} {K : AV → Prop} (h : mkd x = x') (h1 : lo = lo') (h2 : hi = hi') (h3 : mx = mx') : evSlice P T x lo hi mx K = evSlice P T x' lo' hi' mx' K := by subst_vars; rfl
@[congr] theorem evBound_congr {x x' : Option AV} {d d' : Nat} {K : Nat → Prop} (h : mkd x = x') (h1 : d = d') : evBound x d K = evBound x' d' K := by subst_vars; rfl
@[congr] theorem evFieldAddr_congr {T : TypeId} {x x' : AV} {f : Nat} {K : AV → Prop} (h : mkd x = x') : evFieldAddr P T x f K = evFieldAddr P T x' f K := by subst_vars; rfl
@[congr] theorem evField_congr {T : TypeId} {x x' : AV} {f : Nat} {K : AV → Prop} (h : mkd x = x') : evField P T x f K = evField P T x' f K := by subst_vars; rfl
@[congr] theorem evIndexAddr_congr {T : TypeId} {x x' i i' : AV} {K : AV → Prop} (h : mkd x = x') (h1 : i = i') : evIndexAddr P T x i K = evIndexAddr P T x' i' K := by subst_vars; rfl
@[congr] theorem evIndex_congr {T : TypeId} {x x' i i' : AV} {K : AV → Prop} (h : mkd x = x') (h1 : i = i') : evIndex P T x i K = evIndex P T x' i' K := by subst_vars; rfl
@[congr] theorem evExtract_congr {x x' : AV} {i : Nat} {K : AV → Prop} (h : mkd x = x') : evExtract x i K = evExtract x' i K := by subst_vars; rfl
@[congr] theorem evBuild_congr {T : TypeId} {ps ps' : List (Nat × AV)} {K : AV → Prop} (h : mkd ps = ps') : evBuild P T ps K = evBuild P T ps' K := by subst_vars; rfl
@[congr] theorem evBuildSlice_congr {d : Nat} {T : TypeId} {n : Nat} {ps ps' : List (Nat × AV)} {K : AV → Prop} (h : mkd ps = ps') : evBuildSlice P d T n ps K = evBuildSlice P d T n ps' K := by subst_vars; rfl
@[congr] theorem evMake_congr {d : Nat} {T : TypeId} {x x' i i' : AV} {K : AV → Prop} (h : mkd x = x') (h1 : i = i') : evMake P d T x i K = evMake P d T x' i' K := by subst_vars; rfl
@[congr] theorem evLen_congr {T : TypeId} {x x' : AV} {K : AV → Prop} (h : mkd x = x') : evLen P T x K = evLen P T x' K := by subst_vars; rfl
@[congr] theorem evLenM_congr {T : TypeId} {x x' : AV} {K : AV → Prop} (h : mkd x = x') : evLenM P T x K = evLenM P T x' K := by subst_vars; rfl
@[congr] theorem evLookup_congr {T : TypeId} {x x' i i' : AV} {K : AV → Prop} (h : mkd x = x') (h1 : i = i') : evLookup P T x i K = evLookup P T x' i' K := by subst_vars; rfl
@[congr] theorem evMapPut_congr {T : TypeId} {σ σ' : St} {m m' x x' y y' : AV} {K : St → Prop} (h : mkd σ = σ') (h0 : m = m') (h1 : x = x') (h2 : y = y') : evMapPut P T σ m x y K = evMapPut P T σ' m' x' y' K := by subst_vars; rfl
@[congr] theorem evCap_congr {T : TypeId} {x x' : AV} {K : AV → Prop} (h : mkd x = x') : evCap P T x K = evCap P T x' K := by subst_vars; rfl
@[congr] theorem evAppendX_congr {T T' : TypeId} {d : Nat} {x x' y y' : AV} {K : AV → Prop} (h1 : mkd x = x') (h2 : y = y') : evAppendX P d T T' x y K = evAppendX P d T T' x' y' K := by subst_vars; rfl
@[congr] theorem evAppendZ_congr {T T' : TypeId} {d : Nat} {x x' : AV} {y y' : Int} {K : AV → Prop} (h1 : mkd x = x') (h2 : y = y') : evAppendZ P d T T' x y K = evAppendZ P d T T' x' y' K := by subst_vars; rfl
@[congr] theorem evMax_congr {x x' i i' : AV} {K : AV → Prop} (h : mkd x = x') (h1 : i = i') : evMax x i K = evMax x' i' K := by subst_vars; rfl
@[congr] theorem evMin_congr {x x' i i' : AV} {K : AV → Prop} (h : mkd x = x') (h1 : i = i') : evMin x i K = evMin x' i' K := by subst_vars; rfl
@[congr] theorem evAppend_congr {T T' : TypeId} {d : Nat} {σ σ' : St} {x x' y y' : AV} {K : St → Prop} (h : mkd σ = σ') (h1 : x = x') (h2 : y = y') : evAppend P T T' d σ x y K = evAppend P T T' d σ' x' y' K := by subst_vars; rfl
@[congr] theorem evAppendNew_congr {T T' : TypeId} {d : Nat} {x x' y y' : AV} {K : AV → Prop} (h1 : mkd x = x') (h2 : y = y') : evAppendNew P d T T' x y K = evAppendNew P d T T' x' y' K := by subst_vars; rfl
@[congr] theorem evAppendOwn_congr {T T' : TypeId} {x x' y y' : AV} {K : Nat → AV → Prop} (h1 : mkd x = x') (h2 : y = y') : evAppendOwn P T T' x y K = evAppendOwn P T T' x' y' K := by subst_vars; rfl
@[congr] theorem evStore_congr {T : TypeId} {σ σ' : St} {x x' y y' : AV} {K : St → Prop} (h : mkd σ = σ') (h1 : x = x') (h2 : y = y') : evStore P T σ x y K = evStore P T σ' x' y' K := by subst_vars; rfl
@[congr] theorem resK_congr {σ σ' : St} {rs : List ResultVar} {K : List AV → Prop} (h : mkd σ = σ') : resK P σ rs K = resK P σ' rs K := by subst_vars; rfl
variable {n : Nat} {t : List (Nat × AV)} {b : List (List AV)}
@[go_sem] theorem wpA_skip {Q : Exit → St → Prop} : wpA P .skip Q ⟨n, t, b⟩ = Q .normal ⟨n, t, b⟩ := rfl
@[go_sem] theorem wpA_label {l : Nat} {Q : Exit → St → Prop} : wpA P (.label l) Q ⟨n, t, b⟩ = Q .normal ⟨n, t, b⟩ := rfl
@[go_sem] theorem wpA_region {id : Nat} {l : List Oper} {Q : Exit → St → Prop} : wpA P (.region id l.toArray false) Q ⟨n, t, b⟩ = opsA P l.toArray l ⟨n, t, b⟩ (Q .normal) := by simp [wpA]
@[go_sem] theorem wpA_draw {id : Nat} {ops : Array Oper} {Q : Exit → St → Prop} : wpA P (.region id ops true) Q ⟨n, t, b⟩ = DrawK P ops ⟨n, t, b⟩ (Q .normal) := by simp [wpA]
@[go_sem] theorem wpA_seq {x y : Code} {Q : Exit → St → Prop} : wpA P (.seq x y) Q ⟨n, t, b⟩ = wpA P x (thenA (wpA P y Q) Q) ⟨n, t, b⟩ := rfl
@[go_sem] theorem wpA_block {id : Nat} {c : Code} {Q : Exit → St → Prop} : wpA P (.block id c) Q ⟨n, t, b⟩ = wpA P c (blockA id Q) ⟨n, t, b⟩ := rfl
@[go_sem] theorem wpA_loop {c : Code} {Q : Exit → St → Prop} : wpA P (.loop c) Q ⟨n, t, b⟩ = LoopK (wpA P c) Q ⟨n, t, b⟩ := rfl
@[go_sem] theorem wpA_exit {id : Nat} {Q : Exit → St → Prop} : wpA P (.exit id) Q ⟨n, t, b⟩ = Q (.exit id) ⟨n, t, b⟩ := rfl
@[go_sem] theorem wpA_ret {Q : Exit → St → Prop} : wpA P .ret Q ⟨n, t, b⟩ = Q .ret ⟨n, t, b⟩ := rfl
def condK (x : AV) (p q : Prop) : Prop := match x with
 | .sc (.bool b) => (b = true → p) ∧ (b = false → q)
 | .ub => p ∧ q
 | _ => False
@[congr] theorem condK_congr {x x' : AV} {p q : Prop} (h : mkd x = x') : condK x p q = condK x' p q := by subst_vars; rfl
@[go_sem] theorem condK_sc {c : Bool} {p q : Prop} : condK (.sc (.bool c)) p q = both c p q := rfl
@[go_sem] theorem condK_ub {p q : Prop} : condK .ub p q = (p ∧ q) := rfl
@[go_sem] theorem wpA_cond {c : Operand} {x y : Code} {Q : Exit → St → Prop} : wpA P (.cond c x y) Q ⟨n, t, b⟩ = condK (St.ev ⟨n, t, b⟩ c) (wpA P x Q ⟨n, t, b⟩) (wpA P y Q ⟨n, t, b⟩) := rfl
@[go_sem] theorem thenA_normal {next : St → Prop} {Q : Exit → St → Prop} {σ : St} : thenA next Q .normal σ = next σ := rfl
@[go_sem] theorem thenA_exit {next : St → Prop} {Q : Exit → St → Prop} {σ : St} {id : Nat} : thenA next Q (.exit id) σ = Q (.exit id) σ := rfl
@[go_sem] theorem thenA_ret {next : St → Prop} {Q : Exit → St → Prop} {σ : St} : thenA next Q .ret σ = Q .ret σ := rfl
@[go_sem] theorem blockA_normal {id : Nat} {Q : Exit → St → Prop} {σ : St} : blockA id Q .normal σ = Q .normal σ := rfl
@[go_sem] theorem blockA_ret {id : Nat} {Q : Exit → St → Prop} {σ : St} : blockA id Q .ret σ = Q .ret σ := rfl
@[go_sem] theorem blockA_exit {id id' : Nat} {Q : Exit → St → Prop} {σ : St} : blockA id Q (.exit id') σ = onB (decide (id' = id)) (Q .normal σ) (Q (.exit id') σ) := by simp [blockA, onB]
@[go_sem] theorem endQ_normal {rs : List ResultVar} {m : Nat} {post : AV → List (List AV) → Prop} {σ : St} : endQ P rs m post .normal σ = endK P rs m post σ := rfl
@[go_sem] theorem endQ_ret {rs : List ResultVar} {m : Nat} {post : AV → List (List AV) → Prop} {σ : St} : endQ P rs m post .ret σ = endK P rs m post σ := rfl
@[go_sem] theorem opsA_nil {ops : Array Oper} {K : St → Prop} : opsA P ops [] ⟨n, t, b⟩ K = K ⟨n, t, b⟩ := rfl
@[go_sem] theorem opsA_cons {ops : Array Oper} {r : List Oper} {K : St → Prop} {dst : Option Tmp} {op : Op} {T : TypeId} {pos : String} {af : Array Edge} :
  opsA P ops (⟨dst, op, T, pos, af, none⟩ :: r) ⟨n, t, b⟩ K = wpOp P ⟨dst, op, T, pos, af, none⟩ ⟨n, t, b⟩ fun σ' => opsA P ops r σ' K := rfl
@[go_sem] theorem opsA_guard {ops : Array Oper} {r : List Oper} {K : St → Prop} {dst : Option Tmp} {op : Op} {T : TypeId} {pos : String} {af : Array Edge} {j : Nat} {want : Bool} :
  opsA P ops (⟨dst, op, T, pos, af, some (j, want)⟩ :: r) ⟨n, t, b⟩ K = caseO (guardSlot ops j) fun g => onGuard (lookT t g) (fun c =>
   both (c == want) (wpOp P ⟨dst, op, T, pos, af, some (j, want)⟩ (St.put ⟨n, t, b⟩ (some g) (.sc (.bool want))) fun σ' => opsA P ops r σ' K)
    (andK (dstOk n dst = true) (opsA P ops r (St.put (St.put ⟨n, t, b⟩ (some g) (.sc (.bool (!want)))) dst (.sc undef)) K)))
   (andK (dstOk n dst = true) (opsA P ops r (St.put ⟨n, t, b⟩ dst (.sc undef)) K)) := by
 apply propext
 simp only [opsA, caseO, onGuard, both, andK, St.get]
 cases hg : guardSlot ops j with
 | none => simp
 | some g =>
  simp only [Option.some.injEq]
  constructor
  ·intro h
   refine ⟨g, rfl, ?_⟩
   split at h
   ·rename_i c hc
    exact .inl ⟨c, hc, fun h1 => h.1 (by simpa using h1), fun h1 => h.2 (by cases c <;> cases want <;> first | rfl | cases h1)⟩
   ·rename_i vs hc
    exact .inr ⟨vs, hc, h⟩
   ·exact h.elim
  ·rintro ⟨_, rfl, ⟨c, hc, h1, h2⟩ | ⟨vs, hc, h⟩⟩
   ·rw [hc]
    exact ⟨fun h => h1 (by simpa using h), fun h => h2 (by rw [h]; cases want <;> rfl)⟩
   ·rw [hc]; exact h
variable {d : Nat} {T : TypeId} {pos : String} {af : Array Edge} {g : Option (Nat × Bool)} {K : St → Prop}
@[go_sem] theorem wpOp_move {x : Operand} : wpOp P ⟨some d, .move x, T, pos, af, g⟩ ⟨n, t, b⟩ K = andK (d < n) (K (St.put ⟨n, t, b⟩ (some d) (typed P d T (St.ev ⟨n, t, b⟩ x)))) := propext ⟨fun h => ⟨h.1, h.2.2⟩, fun h => ⟨h.1, (fun h' => by simp [needsFresh] at h'), h.2⟩⟩
@[go_sem] theorem wpOp_assign {x : Operand} : wpOp P ⟨some d, .assign x, T, pos, af, g⟩ ⟨n, t, b⟩ K = andK (d < n) (K (St.put ⟨n, t, b⟩ (some d) (typed P d T (St.ev ⟨n, t, b⟩ x)))) := propext ⟨fun h => ⟨h.1, h.2.2⟩, fun h => ⟨h.1, (fun h' => by simp [needsFresh] at h'), h.2⟩⟩
@[go_sem] theorem wpOp_pick {c x y : Operand} : wpOp P ⟨some d, .pick c x y, T, pos, af, g⟩ ⟨n, t, b⟩ K = andK (d < n) (onBool (St.ev ⟨n, t, b⟩ c) fun v => both v (K (St.put ⟨n, t, b⟩ (some d) (St.ev ⟨n, t, b⟩ x))) (K (St.put ⟨n, t, b⟩ (some d) (St.ev ⟨n, t, b⟩ y)))) := by
 simp only [wpOp, wpAt, evOp, needsFresh, andK, onBool, both, Bool.false_eq_true, false_implies, true_and]
 cases St.ev ⟨n, t, b⟩ c <;> simp
 rename_i v; cases v <;> simp
 rename_i v; intro _; cases v <;> simp
@[go_sem] theorem wpOp_load {T' : TypeId} {x : Operand} : wpOp P ⟨some d, .load T' x, T, pos, af, g⟩ ⟨n, t, b⟩ K = andK (d < n) (evLoad P b T' (St.ev ⟨n, t, b⟩ x) fun r => K (St.put ⟨n, t, b⟩ (some d) r)) := by simp [wpOp, wpAt, evOp, needsFresh, andK]
@[go_sem] theorem wpOp_nilCheck {x : Operand} : wpOp P ⟨some d, .nilCheck x, T, pos, af, g⟩ ⟨n, t, b⟩ K = andK (d < n) (andK ((isPtr (St.ev ⟨n, t, b⟩ x) || isFn (St.ev ⟨n, t, b⟩ x)) = true) (K (St.put ⟨n, t, b⟩ (some d) (St.ev ⟨n, t, b⟩ x)))) := by simp [wpOp, wpAt, evOp, needsFresh, andK]
@[go_sem] theorem wpOp_binOp {op : BinOp} {T' T'' : TypeId} {x y : Operand} : wpOp P ⟨some d, .binOp op T' x y T'', T, pos, af, g⟩ ⟨n, t, b⟩ K = andK (d < n) (evBinOp P op T' (St.ev ⟨n, t, b⟩ x) (St.ev ⟨n, t, b⟩ y) fun r => K (St.put ⟨n, t, b⟩ (some d) r)) := by simp [wpOp, wpAt, evOp, needsFresh, andK]
@[go_sem] theorem wpOp_unOp {op : UnOp} {T' : TypeId} {x : Operand} : wpOp P ⟨some d, .unOp op T' x, T, pos, af, g⟩ ⟨n, t, b⟩ K = andK (d < n) (evUn op (St.ev ⟨n, t, b⟩ x) fun r => K (St.put ⟨n, t, b⟩ (some d) r)) := by simp [wpOp, wpAt, evOp, needsFresh, andK]
@[go_sem] theorem wpOp_convert {T' T'' : TypeId} {x : Operand} : wpOp P ⟨some d, .convert T' T'' x, T, pos, af, g⟩ ⟨n, t, b⟩ K = andK (d < n) (evConv P T' T'' (St.ev ⟨n, t, b⟩ x) fun r => K (St.put ⟨n, t, b⟩ (some d) r)) := by simp [wpOp, wpAt, evOp, needsFresh, andK]
@[go_sem] theorem wpOp_slice {T' : TypeId} {x : Operand} {lo hi mx : Option Operand} : wpOp P ⟨some d, .slice T' x lo hi mx, T, pos, af, g⟩ ⟨n, t, b⟩ K = andK (d < n) (evSlice P T' (St.ev ⟨n, t, b⟩ x) (lo.map (St.ev ⟨n, t, b⟩)) (hi.map (St.ev ⟨n, t, b⟩)) (mx.map (St.ev ⟨n, t, b⟩)) fun r => K (St.put ⟨n, t, b⟩ (some d) r)) := by simp [wpOp, wpAt, evOp, needsFresh, andK]
@[go_sem] theorem wpOp_fieldAddr {T' : TypeId} {x : Operand} {f : Nat} : wpOp P ⟨some d, .fieldAddr T' x f, T, pos, af, g⟩ ⟨n, t, b⟩ K = andK (d < n) (evFieldAddr P T' (St.ev ⟨n, t, b⟩ x) f fun r => K (St.put ⟨n, t, b⟩ (some d) r)) := by simp [wpOp, wpAt, evOp, needsFresh, andK]
@[go_sem] theorem wpOp_indexAddr {T' : TypeId} {x i : Operand} : wpOp P ⟨some d, .indexAddr T' x i, T, pos, af, g⟩ ⟨n, t, b⟩ K = andK (d < n) (evIndexAddr P T' (St.ev ⟨n, t, b⟩ x) (St.ev ⟨n, t, b⟩ i) fun r => K (St.put ⟨n, t, b⟩ (some d) r)) := by simp [wpOp, wpAt, evOp, needsFresh, andK]
@[go_sem] theorem wpOp_index {T' : TypeId} {x i : Operand} : wpOp P ⟨some d, .index T' x i, T, pos, af, g⟩ ⟨n, t, b⟩ K = andK (d < n) (evIndex P T' (St.ev ⟨n, t, b⟩ x) (St.ev ⟨n, t, b⟩ i) fun r => K (St.put ⟨n, t, b⟩ (some d) r)) := by simp [wpOp, wpAt, evOp, needsFresh, andK]
@[go_sem] theorem wpOp_extract {x : Operand} {i : Nat} : wpOp P ⟨some d, .extract x i, T, pos, af, g⟩ ⟨n, t, b⟩ K = andK (d < n) (evExtract (St.ev ⟨n, t, b⟩ x) i fun r => K (St.put ⟨n, t, b⟩ (some d) r)) := by simp [wpOp, wpAt, evOp, needsFresh, andK]
def evParts (σ : St) : List (Nat × Operand) → List (Nat × AV)
 | [] => []
 | (i, x) :: r => (i, σ.ev x) :: evParts σ r
theorem evParts_eq (σ : St) : ∀ l, evParts σ l = l.map fun p => (p.1, σ.ev p.2)
 | [] => rfl
 | (i, x) :: r => by simp [evParts, evParts_eq σ r]
def evAll (σ : St) : List Operand → List AV
 | [] => []
 | x :: r => σ.ev x :: evAll σ r
theorem evAll_eq (σ : St) : ∀ l, evAll σ l = l.map σ.ev
 | [] => rfl
 | x :: r => by simp [evAll, evAll_eq σ r]
@[go_sem] theorem wpOp_build {T' : TypeId} {ps : List (Nat × Operand)} : wpOp P ⟨some d, .build T' ps.toArray, T, pos, af, g⟩ ⟨n, t, b⟩ K = andK (d < n) (evBuild P T' (evParts ⟨n, t, b⟩ ps) fun r => K (St.put ⟨n, t, b⟩ (some d) r)) := by simp [wpOp, wpAt, evOp, needsFresh, andK, evParts_eq]
@[go_sem] theorem frz_nil {σ : St} : St.frz σ [] = σ := rfl
@[go_sem] theorem frz_cons {t : Nat} {ts : List Nat} {σ : St} : St.frz σ (t :: ts) = σ.map (freezeLeaf fun u => (t :: ts).contains u) := rfl
def buildK (P : Program) (d : Nat) (T : TypeId) (len : Nat) (ps : List (Nat × Operand)) (σ : St) (K : St → Prop) : Prop :=
 σ.free d = true ∧ evBuildSlice P d T len (evParts σ ps) fun r => K (σ.put (some d) r)
@[congr] theorem buildK_congr {d : Nat} {T : TypeId} {len : Nat} {ps : List (Nat × Operand)} {σ σ' : St} {K : St → Prop} (h : mkd σ = σ') : buildK P d T len ps σ K = buildK P d T len ps σ' K := by subst_vars; rfl
@[go_sem] theorem buildK_mk {d : Nat} {T : TypeId} {len : Nat} {ps : List (Nat × Operand)} {K : St → Prop} : buildK P d T len ps ⟨n, t, b⟩ K = andK (St.free ⟨n, t, b⟩ d = true) (evBuildSlice P d T len (evParts ⟨n, t, b⟩ ps) fun r => K (St.put ⟨n, t, b⟩ (some d) r)) := rfl
def evVals (σ : St) : List (Nat × Operand) → List AV
 | [] => []
 | (_, x) :: r => σ.ev x :: evVals σ r
theorem evVals_eq (σ : St) : ∀ l, evVals σ l = l.map fun p => σ.ev p.2
 | [] => rfl
 | (i, x) :: r => by simp [evVals, evVals_eq σ r]
attribute [go_sem] evVals
@[congr] theorem keepSel_congr {l l' : List AV} {k1 : Nat → Nat → List AV → Prop} {k2 : Prop} (h : mkd l = l') : keepSel l k1 k2 = keepSel l' k1 k2 := by subst_vars; rfl
@[go_sem] theorem keepSel_nil {k1 : Nat → Nat → List AV → Prop} {k2 : Prop} : keepSel [] k1 k2 = k2 := rfl
@[go_sem] theorem keepSel_two {x y : AV} {l : List AV} {k1 : Nat → Nat → List AV → Prop} {k2 : Prop} : keepSel (x :: y :: l) k1 k2 = k2 := by cases x <;> rfl
@[go_sem] theorem keepSel_sl {t0 es : Nat} {zs : List AV} {k1 : Nat → Nat → List AV → Prop} {k2 : Prop} : keepSel [.sl t0 es zs] k1 k2 = onB (decide (1048576 ≤ t0) || decide (2 ≤ t0) && keepHints.contains t0) (k1 t0 es zs) k2 := by simp [keepSel, onB, keepTag]
attribute [go_sem] keepHints
@[go_sem] theorem keepSel_sc {v : Value} {k1 : Nat → Nat → List AV → Prop} {k2 : Prop} : keepSel [.sc v] k1 k2 = k2 := rfl
@[go_sem] theorem keepSel_ub {k1 : Nat → Nat → List AV → Prop} {k2 : Prop} : keepSel [.ub] k1 k2 = k2 := rfl
@[go_sem] theorem keepSel_nil1 {k1 : Nat → Nat → List AV → Prop} {k2 : Prop} : keepSel [.nil] k1 k2 = k2 := rfl
@[go_sem] theorem keepSel_ag {cs : List AV} {k1 : Nat → Nat → List AV → Prop} {k2 : Prop} : keepSel [.ag cs] k1 k2 = k2 := rfl
@[go_sem] theorem keepSel_fn {f : FuncId} {cs : List AV} {k1 : Nat → Nat → List AV → Prop} {k2 : Prop} : keepSel [.fn f cs] k1 k2 = k2 := rfl
@[go_sem] theorem keepSel_so {t0 : Nat} {cs : List AV} {k1 : Nat → Nat → List AV → Prop} {k2 : Prop} : keepSel [.so t0 cs] k1 k2 = k2 := rfl
@[go_sem] theorem keepSel_pb {i o : Nat} {k1 : Nat → Nat → List AV → Prop} {k2 : Prop} : keepSel [.pb i o] k1 k2 = k2 := rfl
@[go_sem] theorem keepSel_any {k1 : Nat → Nat → List AV → Prop} {k2 : Prop} : keepSel [.any] k1 k2 = k2 := rfl
@[go_sem] theorem wpOp_buildSlice {T' : TypeId} {len : Nat} {ps : List (Nat × Operand)} : wpOp P ⟨some d, .buildSlice T' len ps.toArray, T, pos, af, g⟩ ⟨n, t, b⟩ K = andK (d < n) (keepSel (evVals ⟨n, t, b⟩ ps) (keepK P d T' len ps ⟨n, t, b⟩ K) (buildK P d T' len ps (St.frz ⟨n, t, b⟩ (tagss (evVals ⟨n, t, b⟩ ps))) K)) := by rw [evVals_eq]; unfold buildK; rw [evParts_eq]; rfl
@[go_sem] theorem wpOp_makeSlice {T' : TypeId} {l c : Operand} : wpOp P ⟨some d, .makeSlice T' l c, T, pos, af, g⟩ ⟨n, t, b⟩ K = andK (d < n) (andK (St.free ⟨n, t, b⟩ d = true) (evMake P d T' (St.ev ⟨n, t, b⟩ l) (St.ev ⟨n, t, b⟩ c) fun r => K (St.put ⟨n, t, b⟩ (some d) r))) := by simp [wpOp, wpAt, evOp, needsFresh, andK]
def allFz : List AV → Bool
 | [] => true
 | x :: r => fzLeaf x && allFz r
theorem allFz_eq : ∀ l, allFz l = l.all fzLeaf
 | [] => rfl
 | x :: r => by simp [allFz, allFz_eq r]
def allCap : List AV → Bool
 | [] => true
 | x :: r => capOk x && allCap r
theorem allCap_eq : ∀ l, allCap l = l.all capOk
 | [] => rfl
 | x :: r => by simp [allCap, allCap_eq r]
attribute [go_sem] allCap capOk
@[go_sem] theorem wpOp_makeFunc {f : FuncId} {caps : List Operand} : wpOp P ⟨some d, .makeFunc (.func f) (List.toArray []) caps.toArray, T, pos, af, g⟩ ⟨n, t, b⟩ K = andK (d < n) (onB (allFz (evAll ⟨n, t, b⟩ caps)) (K (St.put ⟨n, t, b⟩ (some d) (.fn f (evAll ⟨n, t, b⟩ caps)))) (andK (allCap (evAll ⟨n, t, b⟩ caps) = true) (K (St.put ⟨n, t, b⟩ (some d) (.cl f (evAll ⟨n, t, b⟩ caps)))))) := by
 simp [wpOp, wpAt, evOp, needsFresh, andK, onB, allFz_eq, allCap_eq, evAll_eq, List.all_map, Function.comp_def]
@[go_sem] theorem wpOp_mapUpdate {T' : TypeId} {m x y : Operand} : wpOp P ⟨none, .mapUpdate T' m x y, T, pos, af, g⟩ ⟨n, t, b⟩ K = evMapPut P T' ⟨n, t, b⟩ (St.ev ⟨n, t, b⟩ m) (St.ev ⟨n, t, b⟩ x) (St.ev ⟨n, t, b⟩ y) K := rfl
@[go_sem] theorem wpOp_clear {x : Operand} {T' : TypeId} : wpOp P ⟨none, .call ⟨.builtin .clear, [x].toArray, [T'].toArray⟩, T, pos, af, g⟩ ⟨n, t, b⟩ K = evClear P T' ⟨n, t, b⟩ (St.ev ⟨n, t, b⟩ x) K := rfl
@[congr] theorem evClear_congr {T : TypeId} {σ σ' : St} {x x' : AV} {K : St → Prop} (h : mkd σ = σ') (h0 : x = x') : evClear P T σ x K = evClear P T σ' x' K := by subst_vars; rfl
@[go_sem] theorem wpOp_insert {T' : TypeId} {m x y : Operand} : wpOp P ⟨none, .insert T' m x y, T, pos, af, g⟩ ⟨n, t, b⟩ K = evMapPut P T' ⟨n, t, b⟩ (St.ev ⟨n, t, b⟩ m) (St.ev ⟨n, t, b⟩ x) (St.ev ⟨n, t, b⟩ y) K := rfl
def onMap (d : Option TypeDesc) (k : TypeId → TypeId → Prop) : Prop := ∃ a b, d = some (.map a b) ∧ k a b
@[congr] theorem onMap_congr {d d' : Option TypeDesc} {k : TypeId → TypeId → Prop} (h : mkd d = d') : onMap d k = onMap d' k := by subst_vars; rfl
@[go_sem] theorem evLenM_sl {T' : TypeId} {K : AV → Prop} {t' es : Nat} {xs : List AV} : evLenM P T' (.sl t' es xs) K = evLen P T' (.sl t' es xs) K := rfl
@[go_sem] theorem evLenM_tl {T' : TypeId} {K : AV → Prop} {t' es i : Nat} {xs : List AV} : evLenM P T' (.tl t' es xs i) K = evLen P T' (.tl t' es xs i) K := rfl
@[go_sem] theorem evLenM_so {T' : TypeId} {K : AV → Prop} {t' : Nat} {xs : List AV} : evLenM P T' (.so t' xs) K = evLen P T' (.so t' xs) K := rfl
@[go_sem] theorem evLenM_nil {T' : TypeId} {K : AV → Prop} : evLenM P T' .nil K = evLen P T' .nil K := rfl
@[go_sem] theorem evLenM_sc {T' : TypeId} {K : AV → Prop} {v : Value} : evLenM P T' (.sc v) K = evLen P T' (.sc v) K := rfl
@[go_sem] theorem evLenM_ag {T' : TypeId} {K : AV → Prop} {cs : List AV} : evLenM P T' (.ag cs) K = evLen P T' (.ag cs) K := rfl
@[go_sem] theorem evLenM_mp {T' : TypeId} {K : AV → Prop} {t' : Nat} {P' : Program} {k e : TypeId} {D : DataW Unit} : evLenM P T' (.mp t' P' k e D) K = andK (isMap (P.underlying T') = true) (K (.sc (.int .i64 (mapLen D)))) := rfl
attribute [go_sem] isMap
@[go_sem] theorem wpOp_len {x : Operand} {T' : TypeId} : wpOp P ⟨some d, .call ⟨.builtin .len, [x].toArray, [T'].toArray⟩, T, pos, af, g⟩ ⟨n, t, b⟩ K = andK (d < n) (evLenM P T' (St.ev ⟨n, t, b⟩ x) fun r => K (St.put ⟨n, t, b⟩ (some d) r)) := by simp [wpOp, wpAt, evOp, needsFresh, andK]
@[go_sem] theorem wpOp_cap {x : Operand} {T' : TypeId} : wpOp P ⟨some d, .call ⟨.builtin .cap, [x].toArray, [T'].toArray⟩, T, pos, af, g⟩ ⟨n, t, b⟩ K = andK (d < n) (evCap P T' (St.ev ⟨n, t, b⟩ x) fun r => K (St.put ⟨n, t, b⟩ (some d) r)) := by simp [wpOp, wpAt, evOp, needsFresh, andK]
@[go_sem] theorem wpOp_max {x y : Operand} {As : Array TypeId} : wpOp P ⟨some d, .call ⟨.builtin .max, [x, y].toArray, As⟩, T, pos, af, g⟩ ⟨n, t, b⟩ K = andK (d < n) (evMax (St.ev ⟨n, t, b⟩ x) (St.ev ⟨n, t, b⟩ y) fun r => K (St.put ⟨n, t, b⟩ (some d) r)) := by simp [wpOp, wpAt, evOp, needsFresh, andK]
@[go_sem] theorem wpOp_min {x y : Operand} {As : Array TypeId} : wpOp P ⟨some d, .call ⟨.builtin .min, [x, y].toArray, As⟩, T, pos, af, g⟩ ⟨n, t, b⟩ K = andK (d < n) (evMin (St.ev ⟨n, t, b⟩ x) (St.ev ⟨n, t, b⟩ y) fun r => K (St.put ⟨n, t, b⟩ (some d) r)) := by simp [wpOp, wpAt, evOp, needsFresh, andK]
@[go_sem] theorem wpOp_append {x y : Operand} {T' T'' : TypeId} : wpOp P ⟨some d, .call ⟨.builtin .append, [x, y].toArray, [T', T''].toArray⟩, T, pos, af, g⟩ ⟨n, t, b⟩ K = andK (d < n) (evAppend P T' T'' d ⟨n, t, b⟩ (St.ev ⟨n, t, b⟩ x) (St.ev ⟨n, t, b⟩ y) K) := by simp [wpOp, wpAt, andK]
@[go_sem] theorem wpOp_call {f : FuncId} {args : List Operand} {As : Array TypeId} : wpOp P ⟨some d, .call ⟨.value (.func f), args.toArray, As⟩, T, pos, af, g⟩ ⟨n, t, b⟩ K = andK (d < n) (CallU P f (evAll ⟨n, t, b⟩ args) d ⟨n, t, b⟩ K) := by simp [wpOp, wpAt, andK, St.ev, evAll_eq]
def CallF (P : Program) (f : AV) (args : List AV) (d : Nat) (σ : St) (K : St → Prop) : Prop :=
 match f with
 | .fn fid caps => CallU P fid (args ++ caps) d σ K
 | _ => False
@[congr] theorem CallF_congr {f f' : AV} {args args' : List AV} {d : Nat} {K : St → Prop} {σ σ' : St} (h0 : mkd f = f') (h1 : args = args') (h : σ = σ') : CallF P f args d σ K = CallF P f' args' d σ' K := by subst_vars; rfl
@[go_sem] theorem CallF_fn {f : FuncId} {caps args : List AV} {d : Nat} {σ : St} {K : St → Prop} : CallF P (.fn f caps) args d σ K = CallU P f (args ++ caps) d σ K := rfl
@[go_sem] theorem wpOp_callF {f : Tmp} {args : List Operand} {As : Array TypeId} : wpOp P ⟨some d, .call ⟨.value (.tmp f), args.toArray, As⟩, T, pos, af, g⟩ ⟨n, t, b⟩ K = andK (d < n) (CallF P (lookT t f) (evAll ⟨n, t, b⟩ args) d ⟨n, t, b⟩ K) := by
 simp only [wpOp, wpAt, andK, St.ev, St.get, evAll_eq, CallF]; rfl
@[go_sem] theorem wpOp_box {T' : TypeId} {x : Operand} : wpOp P ⟨some d, .box T' x, T, pos, af, g⟩ ⟨n, t, b⟩ K = andK (d < n) (andK ((St.ev ⟨n, t, b⟩ x).one = true) (K (St.put ⟨n, t, b ++ [(St.ev ⟨n, t, b⟩ x).cells]⟩ (some d) (.pb b.length 0)))) := by simp [wpOp, wpAt, andK]
def evAlloc (P : Program) (T : TypeId) (K : List AV → Prop) : Prop := caseO (tinfo P T) fun q => caseO q.2.2 fun z => andK ((z.cells.toList.all fun u => u.oneCell') = true) (K (ofConst z).cells)
def storeK (P : Program) (T : TypeId) (x y : Operand) (σ : St) (K : St → Prop) : Prop := evStore P T σ (σ.ev x) (σ.ev y) K
@[congr] theorem storeK_congr {T : TypeId} {x y : Operand} {σ σ' : St} {K : St → Prop} (h : mkd σ = σ') : storeK P T x y σ K = storeK P T x y σ' K := by subst_vars; rfl
@[go_sem] theorem storeK_mk {T : TypeId} {x y : Operand} {K : St → Prop} : storeK P T x y ⟨n, t, b⟩ K = evStore P T ⟨n, t, b⟩ (St.ev ⟨n, t, b⟩ x) (St.ev ⟨n, t, b⟩ y) K := rfl
@[go_sem] theorem stFrz_pe {t es i o : Nat} {xs : List AV} {x : AV} {σ : St} : stFrz σ (.pe t es xs i o) x = σ.frz x.tags := rfl
@[go_sem] theorem stFrz_pb {i o : Nat} {x : AV} {σ : St} : stFrz σ (.pb i o) x = σ := rfl
@[go_sem] theorem stFrz_po_sl {t i t' es : Nat} {xs ys : List AV} {σ : St} : stFrz σ (.po t xs i) (.sl t' es ys) = if 2 ≤ t' ∧ root t' ≠ root t then σ.map (retagLeaf t' (subT t i)) else σ := rfl
@[go_sem] theorem stFrz_po_sc {t i : Nat} {xs : List AV} {v : Value} {σ : St} : stFrz σ (.po t xs i) (.sc v) = σ := rfl
@[go_sem] theorem stFrz_po_nil {t i : Nat} {xs : List AV} {σ : St} : stFrz σ (.po t xs i) .nil = σ := rfl
@[go_sem] theorem stFrz_po_ub {t i : Nat} {xs : List AV} {σ : St} : stFrz σ (.po t xs i) .ub = σ := rfl
@[go_sem] theorem wpOp_store {T' : TypeId} {x y : Operand} : wpOp P ⟨none, .store T' x y, T, pos, af, g⟩ ⟨n, t, b⟩ K = storeK P T' x y (stFrz ⟨n, t, b⟩ (St.ev ⟨n, t, b⟩ x) (St.ev ⟨n, t, b⟩ y)) K := by simp [wpOp, storeK]
end
end Go.AM
