/- AmN AmO AmP -/
import Derived.Test.YtebcmlhgfmkpnaaGreatg5
import Derived.Deep.LoopGhost
import Derived.ScopeJumps
namespace Go.AM
open Go.RowKit
def leRow (r : Nat) (x y : AV) : Prop := x.rowLike = true /\ (y = x \/ y = .any \/ (x = .nil /\ ∃ t es, 2 <= t /\ root t = r /\ y = .sl t es []))
def rowsLe (r : Nat) (xs ys : List AV) : Prop := xs.length = ys.length /\ ∀ (j : Nat) x y, xs[j]? = some x -> ys[j]? = some y -> leRow r x y
def leV (x y : AV) : Prop := y = x \/ y = .any \/ (x = .nil /\ ∃ t es, y = .sl t es []) \/ (∃ t xs ys, 2 <= t /\ x = .sl t 1 xs /\ y = .so t ys /\ rowsLe (root t) xs ys) \/ (∃ t xs ys, x = .so t xs /\ y = .so t ys /\ rowsLe (root t) xs ys) \/ (x = .nil /\ ∃ t, 2 <= t /\ y = .so t []) \/ (∃ t es xs, 0 < xs.length /\ x = .sl t es xs /\ y = .tl t es xs 0) \/ ∀ (G : Nat -> Status) (w : World) (v : Value), VRel G w x v -> VRel G w y v
theorem leV_refl (x : AV) : leV x x := .inl rfl
theorem leV_any (x : AV) : leV x .any := .inr (.inl rfl)
theorem leV_nil (t es : Nat) : leV .nil (.sl t es []) := .inr (.inr (.inl ⟨rfl, t, es, rfl⟩))
theorem leV_slso {t : Nat} {xs ys : List AV} (ht : 2 <= t) (h : rowsLe (root t) xs ys) : leV (.sl t 1 xs) (.so t ys) := .inr (.inr (.inr (.inl ⟨t, xs, ys, ht, rfl, rfl, h⟩)))
theorem leV_soso {t : Nat} {xs ys : List AV} (h : rowsLe (root t) xs ys) : leV (.so t xs) (.so t ys) := .inr (.inr (.inr (.inr (.inl ⟨t, xs, ys, rfl, rfl, h⟩))))
theorem leV_sem {x y : AV} (h : ∀ (G : Nat -> Status) (w : World) (v : Value), VRel G w x v -> VRel G w y v) : leV x y := .inr (.inr (.inr (.inr (.inr (.inr (.inr h))))))
theorem own_nil {G : Nat -> Status} {w : World} {t es : Nat} (ht : 2 <= t) : VRel G w (.sl t es []) (.slice none 0 0) :=
 .own t es [] _ 0 [] ht (World.ownsRow_nil _ _ _ _) (fun b hb => by simp [Value.ownBlock] at hb) (by simp) (fun _ h => by simp at h) (.nil _)
theorem LRel.le {G : Nat -> Status} {w : World} {r : Nat} {x y : AV} {v : Value} (h : LRel G w r x v) (hl : leRow r x y) : LRel G w r y v /\ y.rowLike = true := by
 obtain ⟨hx, rfl | rfl | ⟨rfl, t, es, ht, hr, rfl⟩⟩ := hl
 ·exact ⟨h, hx⟩
 ·exact ⟨.froz (.any _), rfl⟩
 ·have := h.val.nil_inv; subst this
  exact ⟨(own_nil ht).toL rfl (fun _ _ _ e _ => by cases e; exact hr), rfl⟩
theorem rows_le {G : Nat -> Status} {w : World} {r : Nat} {xs ys : List AV} {vals : List Value} (h : PW (LRel G w r) xs vals) (hl : rowsLe r xs ys) : PW (LRel G w r) ys vals /\ ∀ y ∈ ys, y.rowLike = true := by
 have key : ∀ (j : Nat) y u, ys[j]? = some y -> vals[j]? = some u -> LRel G w r y u /\ y.rowLike = true := fun j y u hy hu => by
  have hjl : j < xs.length := by rw [hl.1]; exact (List.getElem?_eq_some_iff.1 hy).1
  have hx := List.getElem?_eq_getElem hjl
  exact (h.2 j _ u hx hu).le (hl.2 j _ y hx hy)
 refine ⟨⟨by rw [<- hl.1]; exact h.1, fun j y u hy hu => (key j y u hy hu).1⟩, fun y hy => ?_⟩
 obtain ⟨j, hj⟩ := List.getElem?_of_mem hy
 have hjl : j < vals.length := by rw [<- h.1, hl.1]; exact (List.getElem?_eq_some_iff.1 hj).1
 exact (key j y _ hj (List.getElem?_eq_getElem hjl)).2
theorem VRel.le {G : Nat -> Status} {w : World} {x y : AV} {v : Value} (h : VRel G w x v) (hl : leV x y) : VRel G w y v := by
 rcases hl with rfl | rfl | ⟨rfl, t, es, rfl⟩ | ⟨t, xs, ys, ht, rfl, rfl, hr⟩ | ⟨t, xs, ys, rfl, rfl, hr⟩ | ⟨rfl, t, ht, rfl⟩ | ⟨t, es, xs, hx, rfl, rfl⟩ | hsem
 ·exact h
 ·exact .froz (.any _)
 ·have := h.nil_inv; subst this
  by_cases ht : t < 2
  ·exact .froz (.slNil t es none 0 ht (by simp) (by simp))
  ·exact own_nil (by omega)
 ·cases h with
  | froz h => have := h.sl_lt; omega
  | own _ _ _ _ e vals h1 h2 h3 h4 h0 h5 =>
   have hxr : ∀ x ∈ xs, x.rowLike = true := by
    intro x hx
    obtain ⟨j, hj⟩ := List.getElem?_of_mem hx
    have hjl : j < ys.length := by rw [<- hr.1]; exact (List.getElem?_eq_some_iff.1 hj).1
    exact (hr.2 j x _ hj (List.getElem?_eq_getElem hjl)).1
   rw [rowLike_flat hxr] at h5
   obtain ⟨k1, k2⟩ := rows_le (r := root t) (h5.mono fun _ _ _ hr => LRel.froz hr) hr
   exact .so t ys v e vals h1 (by rw [<- hr.1]; exact h2) h3 k2 h0 k1
 ·cases h with
  | froz h => cases h
  | so _ _ _ e vals h1 h2 h3 h4 h0 h5 =>
   obtain ⟨k1, k2⟩ := rows_le h5 hr
   exact .so t ys v e vals h1 (by rw [<- hr.1]; exact h2) h3 k2 h0 k1
 ·have := h.nil_inv; subst this
  exact .so t [] _ 0 [] ht (World.ownsRow_nil _ _ _ _) (fun b hb => by simp [Value.ownBlock] at hb) (by simp) (fun _ h => by simp at h) (.nil _)
 ·obtain ⟨ao, c, rfl, _, h2, h3, _⟩ := h.sl_inv
  cases ao with
  | none => have := (h2 rfl).2; subst this; simp at hx
  | some a =>
   have h' := h
   rcases h.sl_inv with ⟨ao', c', hv, _, _, _, h4 | ⟨b, off, vals, hv2, _⟩⟩
   ·subst h4; simp at hx
   ·cases hv; cases hv2
    have := VRel.tl t es xs 0 b off off c h' (Nat.zero_le _) (.inl (by omega))
    simpa using this
 ·exact hsem G w v h
def leT (l : List (Nat × AV)) : List (Nat × AV) -> Prop
 | [] => True
 | (k, y) :: r => leV (lookT l k) y /\ leT l r
def leC : List AV -> List AV -> Prop
 | [], [] => True
 | x :: xs, y :: ys => leV x y /\ leC xs ys
 | _, _ => False
def leB : List (List AV) -> List (List AV) -> Prop
 | [], [] => True
 | x :: xs, y :: ys => leC x y /\ leB xs ys
 | _, _ => False
def St.le (σ τ : St) : Prop := τ.n = σ.n /\ leT σ.tmps τ.tmps /\ leB σ.boxes τ.boxes
theorem leT_look {l : List (Nat × AV)} : ∀ {m : List (Nat × AV)}, leT l m -> ∀ s, leV (lookT l s) (lookT m s)
 | [], _, s => leV_any _
 | (k, y) :: r, h, s => by
  simp only [lookT]
  by_cases hk : k = s
  ·subst hk; rw [if_pos rfl]; exact h.1
  ·rw [if_neg hk]; exact leT_look h.2 s
theorem leC_pw {G : Nat -> Status} {w : World} : ∀ {xs ys : List AV} {vs : List Value}, leC xs ys -> PW (VRel G w) xs vs -> PW (VRel G w) ys vs
 | [], [], vs, _, h => h
 | x :: xs, y :: ys, vs, hl, h => by
  obtain ⟨v, vs', rfl, h1, h2⟩ := h.cons_inv
  exact .cons (h1.le hl.1) (leC_pw hl.2 h2)
 | [], _ :: _, _, hl, _ => hl.elim
 | _ :: _, [], _, hl, _ => hl.elim
theorem leB_get : ∀ {xs ys : List (List AV)}, leB xs ys -> ∀ (i : Nat) cs, ys[i]? = some cs -> ∃ cs', xs[i]? = some cs' /\ leC cs' cs
 | [], [], _, i, cs, h => by simp at h
 | x :: xs, y :: ys, hl, i, cs, h => by
  cases i with
  | zero => simp at h; subst h; exact ⟨x, rfl, hl.1⟩
  | succ i => obtain ⟨cs', h1, h2⟩ := leB_get hl.2 i cs (by simpa using h); exact ⟨cs', by simpa using h1, h2⟩
 | [], _ :: _, hl, _, _, _ => hl.elim
 | _ :: _, [], hl, _, _, _ => hl.elim
theorem leB_length : ∀ {xs ys : List (List AV)}, leB xs ys -> ys.length = xs.length
 | [], [], _ => rfl
 | x :: xs, y :: ys, hl => by simp [leB_length hl.2]
 | [], _ :: _, hl => hl.elim
 | _ :: _, [], hl => hl.elim
theorem leC_all {G : Nat -> Status} {w : World} : ∀ {xs ys : List AV}, leC xs ys -> (∀ x ∈ xs, ∀ v, VRel G w x v) -> ∀ y ∈ ys, ∀ v, VRel G w y v
 | [], [], _, _, y, hy, _ => by simp at hy
 | [], _ :: _, h, _, _, _, _ => by simp [leC] at h
 | _ :: _, [], _, _, y, hy, _ => by simp at hy
 | x :: xs, y :: ys, h, hx, z, hz, v => by
  simp only [leC] at h
  rcases List.mem_cons.1 hz with rfl | hz
  ·exact (hx x (by simp) v).le h.1
  ·exact leC_all h.2 (fun x' h' => hx x' (by simp [h'])) z hz v
theorem SRel.le {G0 w0 σ τ G a w} (h : SRel G0 w0 σ G a w) (hl : σ.le τ) : SRel G0 w0 τ G a w :=
 { h with
  slots := fun s => (h.slots s).le (leT_look hl.2.1 s)
  boxes := ⟨fun i vs hv => by rw [leB_length hl.2.2]; exact h.boxes.low i vs hv, fun i cs hi => by
   obtain ⟨cs', h1, h2⟩ := leB_get hl.2.2 i cs hi
   rcases h.boxes.cell i cs' h1 with ⟨g0, b, vals, ty, g1, g2, g3, g4⟩ | ⟨g1, vs, g2, g3⟩ | ⟨g0, g1, g2⟩
   ·exact .inl ⟨g0, b, vals, ty, g1, g2, g3, leC_pw h2 g4⟩
   ·exact .inr (.inl ⟨g1, vs, g2, leC_pw h2 g3⟩)
   ·exact .inr (.inr ⟨g0, g1, leC_all h2 g2⟩)⟩
  blt := fun b i hb => by rw [leB_length hl.2.2]; exact h.blt b i hb
  size := by rw [hl.1]; exact h.size }
section
variable {P : Program}
def thenA (next : St -> Prop) (Q : Exit -> St -> Prop) : Exit -> St -> Prop
 | .normal, σ => next σ
 | e, σ => Q e σ
def blockA (id : Nat) (Q : Exit -> St -> Prop) : Exit -> St -> Prop
 | .exit id', σ => if id' = id then Q .normal σ else Q (.exit id') σ
 | e, σ => Q e σ
def DrawK (P : Program) (ops : Array Oper) (σ : St) (K : St -> Prop) : Prop :=
 ∀ (G0 : Orig) (w0 : World) (G : Nat -> Status) (a : Act) (w : World) (id : Nat) (Q : Exit -> Act -> World -> Prop), True -> SRel G0 w0 σ G a w -> (∀ σ' G' a' w', K σ' -> SRel G0 w0 σ' G' a' w' -> Q .normal a' w') -> (Code.region id ops true).wp P Q a w
def Turn (σ τ : St) : Prop := ∀ (G0 : Orig) (w0 : World) (G : Nat -> Status) (a : Act) (w : World), SRel G0 w0 σ G a w -> ∃ G', SRel G0 w0 τ G' a w
theorem Turn.le {σ τ : St} (h : σ.le τ) : Turn σ τ := fun _ _ G _ _ hs => ⟨G, hs.le h⟩
theorem Turn.mv {σ τ : St} (a b : Nat) (ha : 2 <= a) (hb : 2 <= b) (hb2 : b < 1048576) (h : Turn (σ.map (mvLeaf a b)) τ) : Turn σ τ := fun _ _ _ _ _ hs => h _ _ _ _ _ (hs.mv trivial ha hb hb2)
def roundK {α : Type} (st : α -> St) (m : α -> Nat) (inv : α -> Prop) (x : α) (σ : St) : Prop :=
 ∃ x', inv x' /\ m x' < m x /\ (σ.le (st x') \/ (∃ p, (σ.map (freezeLeaf p)).le (st x')) \/ (∃ a b, 2 <= a /\ 2 <= b /\ (σ.map (retagLeaf a b)).le (st x')) \/ (∃ a b, 2 <= a /\ 2 <= b /\ b < 1048576 /\ (σ.map (mvLeaf a b)).le (st x')) \/ Turn σ (st x'))
def LoopK (body : (Exit -> St -> Prop) -> St -> Prop) (Q : Exit -> St -> Prop) (σ : St) : Prop :=
 ∃ (α : Type) (st : α -> St) (m : α -> Nat) (inv : α -> Prop) (x0 : α), inv x0 /\ (σ.le (st x0) \/ (∃ p, (σ.map (freezeLeaf p)).le (st x0)) \/ (∃ a b, 2 <= a /\ 2 <= b /\ (σ.map (retagLeaf a b)).le (st x0)) \/ Turn σ (st x0)) /\
  ∀ x, inv x -> body (thenA (roundK st m inv x) Q) (st x)
theorem LoopK.intro {α : Type} {body : (Exit -> St -> Prop) -> St -> Prop} {Q : Exit -> St -> Prop} {σ : St} (st : α -> St) (m : α -> Nat) (inv : α -> Prop) (x0 : α) (h0 : inv x0) (hle : σ.le (st x0))
  (round : ∀ x, inv x -> body (thenA (roundK st m inv x) Q) (st x)) : LoopK body Q σ :=
 ⟨α, st, m, inv, x0, h0, .inl hle, round⟩
theorem roundK.intro {α : Type} {st : α -> St} {m : α -> Nat} {inv : α -> Prop} {x : α} {σ : St} (x' : α) (h1 : inv x') (h2 : m x' < m x) (h3 : σ.le (st x')) : roundK st m inv x σ := ⟨x', h1, h2, .inl h3⟩
def ScopeK (P : Program) (c : Code) (Q : Exit -> St -> Prop) (σ : St) : Prop :=
 ∀ (G0 : Orig) (w0 : World) (G : Nat -> Status) (a : Act) (w : World), SRel G0 w0 σ G a w -> (Code.scope c).wp P (fun e a' w' => ∃ σ' G', Q e σ' /\ SRel G0 w0 σ' G' a' w') a w
def wpA (P : Program) : Code -> (Exit -> St -> Prop) -> St -> Prop
 | .skip, Q, σ => Q .normal σ
 | .label _, Q, σ => Q .normal σ
 | .region _ ops draw, Q, σ => if draw = true then DrawK P ops σ (Q .normal) else opsA P ops ops.toList σ (Q .normal)
 | .seq x y, Q, σ => wpA P x (thenA (wpA P y Q) Q) σ
 | .cond c x y, Q, σ => match σ.ev c with
  | .sc (.bool b) => (b = true -> wpA P x Q σ) /\ (b = false -> wpA P y Q σ)
  | .ub => wpA P x Q σ /\ wpA P y Q σ
  | _ => False
 | .block id c, Q, σ => wpA P c (blockA id Q) σ
 | .loop c, Q, σ => LoopK (wpA P c) Q σ
 | .exit id, Q, σ => Q (.exit id) σ
 | .ret, Q, σ => Q .ret σ
 | .scope c, Q, σ => ScopeK P c Q σ
 | .goto l, Q, σ => Q (.goto l) σ
 | _, _, _ => False
theorem wpA_sound {G0 : Orig} {w0 : World} (h0 : True) : ∀ (c : Code) (Q : Exit -> St -> Prop) (σ : St) (G : Nat -> Status) (a : Act) (w : World), wpA P c Q σ -> SRel G0 w0 σ G a w ->
  c.wp P (fun e a' w' => ∃ σ' G', Q e σ' /\ SRel G0 w0 σ' G' a' w') a w
 | .skip, Q, σ, G, a, w, hw, h => wp_skip ⟨σ, G, hw, h⟩
 | .label _, Q, σ, G, a, w, hw, h => wp_label ⟨σ, G, hw, h⟩
 | .region id ops draw, Q, σ, G, a, w, hw, h => by
  simp only [wpA] at hw
  cases draw with
  | false =>
   simp only [Bool.false_eq_true, if_false] at hw
   refine wp_region ?_
   have := opsA_sound (Q := fun e a' w' => ∃ σ' G', Q e σ' /\ SRel G0 w0 σ' G' a' w') h0 (fun σ' G' a' w' hk hs => ⟨σ', G', hk, hs⟩) ops.toList 0 σ G a w (by simp) hw h
   simpa using this
  | true =>
   simp only [if_true] at hw
   exact hw G0 w0 G a w id _ h0 h fun σ' G' a' w' hk hs => ⟨σ', G', hk, hs⟩
 | .seq x y, Q, σ, G, a, w, hw, h => by
  refine wp_seq (wp_mono (wpA_sound h0 x _ σ G a w hw h) ?_)
  rintro e a' w' ⟨σ', G', hk, hs⟩
  cases e with
  | normal => exact wpA_sound h0 y Q σ' G' a' w' hk hs
  | _ => exact ⟨σ', G', hk, hs⟩
 | .cond c x y, Q, σ, G, a, w, hw, h => by
  simp only [wpA] at hw
  have hc := h.ev c
  split at hw
  ·rename_i b hb
   rw [hb] at hc
   exact wp_cond_split hc.sc_inv (fun hb => wpA_sound h0 x Q σ G a w (hw.1 hb) h) (fun hb => wpA_sound h0 y Q σ G a w (hw.2 hb) h)
  ·rename_i hb
   rw [hb] at hc
   obtain ⟨b, hb⟩ := hc.ub_inv
   exact wp_cond_split hb (fun _ => wpA_sound h0 x Q σ G a w hw.1 h) (fun _ => wpA_sound h0 y Q σ G a w hw.2 h)
  ·exact hw.elim
 | .block id c, Q, σ, G, a, w, hw, h => by
  refine wp_block (wp_mono (wpA_sound h0 c _ σ G a w hw h) ?_)
  rintro e a' w' ⟨σ', G', hk, hs⟩
  cases e with
  | exit id' =>
   simp only [blockA] at hk
   simp only [Exit.inBlock]
   split
   ·rename_i hid; rw [if_pos hid] at hk; exact ⟨σ', G', hk, hs⟩
   ·rename_i hid; rw [if_neg hid] at hk; exact ⟨σ', G', hk, hs⟩
  | _ => exact ⟨σ', G', hk, hs⟩
 | .loop c, Q, σ, G, a, w, hw, h => by
  obtain ⟨α, st, m, inv, x0, hI, hle, hround⟩ := hw
  refine wp_loop_ghost (fun k a w => ∃ x G, inv x /\ m x = k /\ SRel G0 w0 (st x) G a w) (m x0) (by rcases hle with hle | ⟨p, hle⟩ | ⟨a, b, ha, hb, hle⟩ | hle; exact ⟨x0, G, hI, rfl, h.le hle⟩; exact ⟨x0, _, hI, rfl, (h.freeze h0 p).le hle⟩; exact ⟨x0, _, hI, rfl, (h.retag h0 ha hb).le hle⟩; obtain ⟨G', hs'⟩ := hle _ _ _ _ _ h; exact ⟨x0, G', hI, rfl, hs'⟩) ?_
  rintro k a w ⟨x, G1, hI1, rfl, h1⟩
  refine wp_mono (wpA_sound h0 c _ (st x) G1 a w (hround x hI1) h1) ?_
  rintro e a' w' ⟨σ', G', hk, hs⟩
  cases e with
  | normal =>
   obtain ⟨x', hI3, hlt, hle⟩ := hk
   rcases hle with hle | ⟨p, hle⟩ | ⟨a, b, ha, hb, hle⟩ | ⟨a, b, ha, hb, hb2, hle⟩ | hle
   ·exact ⟨_, hlt, x', G', hI3, rfl, hs.le hle⟩
   ·exact ⟨_, hlt, x', _, hI3, rfl, (hs.freeze h0 p).le hle⟩
   ·exact ⟨_, hlt, x', _, hI3, rfl, (hs.retag h0 ha hb).le hle⟩
   ·exact ⟨_, hlt, x', _, hI3, rfl, (hs.mv h0 ha hb hb2).le hle⟩
   ·obtain ⟨G2, hs2⟩ := hle _ _ _ _ _ hs; exact ⟨_, hlt, x', G2, hI3, rfl, hs2⟩
  | _ => exact ⟨σ', G', hk, hs⟩
 | .exit id, Q, σ, G, a, w, hw, h => wp_exit ⟨σ, G, hw, h⟩
 | .ret, Q, σ, G, a, w, hw, h => wp_ret ⟨σ, G, hw, h⟩
 | .rangeFunc .., Q, σ, G, a, w, hw, h => hw.elim
 | .scope _, Q, σ, G, a, w, hw, h => hw G0 w0 G a w h
 | .goto _, Q, σ, G, a, w, hw, h => wp_goto ⟨σ, G, hw, h⟩
 | .refuse _, Q, σ, G, a, w, hw, h => hw.elim
theorem wp_scope_back {c rest : Code} {a : Act} {w : World} {Q : Exit -> Act -> World -> Prop} (l : Nat) (J : Nat -> Act -> World -> Prop) (hf : findLabel c l = some rest)
  (first : c.wp P (Exit.jump l (fun a w => ∃ k, J k a w) Q) a w)
  (pass : ∀ k a w, J k a w -> rest.wp P (Exit.jump l (fun a' w' => ∃ k', k' < k /\ J k' a' w') Q) a w) : (Code.scope c).wp P Q a w := by
 intro b k cs
 have hg : gotoIn l (.inScope c :: k) = some (.code rest :: .inScope c :: k) := by simp [gotoIn, hf]
 have key : ∀ n a w, J n a w -> ∃ e a' w', Q e a' w' /\ Arrives P (lone (b.at a (.code rest :: .inScope c :: k)) cs w) b k cs e a' w' := by
  intro n
  induction n using Nat.strongRecOn with
  | _ n ih =>
   intro a w hJ
   obtain ⟨e, a1, w1, hq, harr⟩ := pass n a w hJ b (.inScope c :: k) cs
   cases e with
   | goto l' =>
    obtain ⟨rfl, m, hlt, hJ'⟩ := hq
    obtain ⟨e2, a2, w2, hq2, harr2⟩ := ih m hlt a1 w1 hJ'
    exact ⟨e2, a2, w2, hq2, .of_steps (harr _ hg) harr2⟩
   | normal => exact ⟨.normal, a1, w1, hq, Steps.trans harr (.one step_inScope)⟩
   | exit id => exact ⟨.exit id, a1, w1, hq, fun k' hk => harr k' (by simp [exitTo, hk])⟩
   | _ => exact ⟨_, a1, w1, hq, harr⟩
 obtain ⟨e, a1, w1, hq, harr⟩ := first b (.inScope c :: k) cs
 cases e with
 | goto l' =>
  obtain ⟨rfl, m, hJ'⟩ := hq
  obtain ⟨e2, a2, w2, hq2, harr2⟩ := key m a1 w1 hJ'
  exact ⟨e2, a2, w2, hq2, .of_steps (.head step_scope (harr _ hg)) harr2⟩
 | normal => exact ⟨.normal, a1, w1, hq, .head step_scope (Steps.trans harr (.one step_inScope))⟩
 | exit id => exact ⟨.exit id, a1, w1, hq, fun k' hk => .head step_scope (harr k' (by simp [exitTo, hk]))⟩
 | _ => exact ⟨_, a1, w1, hq, .of_steps (.one step_scope) harr⟩
def jumpA (l : Nat) (J : St -> Prop) (Q : Exit -> St -> Prop) : Exit -> St -> Prop
 | .goto l', σ => l' = l /\ J σ
 | e, σ => Q e σ
def upA (J : St -> Prop) (Q : Exit -> St -> Prop) : Exit -> St -> Prop
 | .normal, σ => J σ
 | .goto _, _ => False
 | e, σ => Q e σ
def jumpK {α : Type} (st : α -> St) (m : α -> Nat) (inv : α -> Prop) (x : α) (σ : St) : Prop := ∃ x', inv x' /\ m x' < m x /\ Turn σ (st x')
def fromK {α : Type} (st : α -> St) (inv : α -> Prop) (σ : St) : Prop := ∃ x, inv x /\ Turn σ (st x)
theorem ScopeK.label {α : Type} {pre Y : Code} {l : Nat} {Q : Exit -> St -> Prop} {σ : St} (st : α -> St) (m : α -> Nat) (inv : α -> Prop) (hpre : findLabel pre l = none)
  (first : wpA P pre (upA (fromK st inv) Q) σ) (pass : ∀ x, inv x -> wpA P Y (jumpA l (jumpK st m inv x) Q) (st x)) : ScopeK P (pre.seq ((Code.label l).seq Y)) Q σ := by
 intro G0 w0 G a w h
 have hY : ∀ k a w, (∃ x G, inv x /\ m x = k /\ SRel G0 w0 (st x) G a w) -> Y.wp P (Exit.jump l (fun a' w' => ∃ k', k' < k /\ ∃ x G, inv x /\ m x = k' /\ SRel G0 w0 (st x) G a' w') (fun e a' w' => ∃ σ' G', Q e σ' /\ SRel G0 w0 σ' G' a' w')) a w := by
  rintro k a w ⟨x, G1, hI, rfl, h1⟩
  refine wp_mono (wpA_sound trivial Y _ (st x) G1 a w (pass x hI) h1) ?_
  rintro e a' w' ⟨σ', G', hk, hs⟩
  cases e with
  | goto l' =>
   obtain ⟨rfl, x', hI', hlt, ht⟩ := hk
   obtain ⟨G2, hs2⟩ := ht _ _ _ _ _ hs
   exact ⟨rfl, m x', hlt, x', G2, hI', rfl, hs2⟩
  | _ => exact ⟨σ', G', hk, hs⟩
 refine wp_scope_back (rest := .seq .skip Y) l (fun k a w => ∃ x G, inv x /\ m x = k /\ SRel G0 w0 (st x) G a w) (by simp [findLabel, hpre]) ?_ ?_
 ·refine wp_seq (wp_mono (wpA_sound trivial pre _ σ G a w first h) ?_)
  rintro e a' w' ⟨σ', G', hk, hs⟩
  cases e with
  | normal =>
   obtain ⟨x, hI, ht⟩ := hk
   obtain ⟨G2, hs2⟩ := ht _ _ _ _ _ hs
   refine wp_seq (wp_label ?_)
   refine wp_mono (hY (m x) a' w' ⟨x, G2, hI, rfl, hs2⟩) ?_
   intro e a2 w2 hj
   cases e with
   | goto l' => obtain ⟨rfl, k', _, hj⟩ := hj; exact ⟨rfl, k', hj⟩
   | _ => exact hj
  | goto l' => exact hk.elim
  | _ => exact ⟨σ', G', hk, hs⟩
 ·intro k a w hJ
  exact wp_seq (wp_skip (hY k a w hJ))
def argT : Nat -> List AV -> List (Nat × AV)
 | _, [] => []
 | k, x :: r => (k, x) :: argT (k + 1) r
theorem argT_look : ∀ (l : List AV) (k s : Nat), lookT (argT k l) s = if k <= s then (l[s - k]?).getD .any else .any
 | [], k, s => by simp [argT, lookT]
 | x :: r, k, s => by
  simp only [argT, lookT]
  by_cases hk : k = s
  ·subst hk; simp
  ·rw [if_neg hk, argT_look r (k + 1) s]
   by_cases hks : k <= s
   ·rw [if_pos hks, if_pos (by omega), show s - k = (s - (k + 1)) + 1 by omega]; simp
   ·rw [if_neg hks, if_neg (by omega)]
def resK (P : Program) (σ : St) : List ResultVar -> (List AV -> Prop) -> Prop
 | [], K => K []
 | .tmp t :: r, K => resK P σ r fun l => K (σ.get t :: l)
 | .cell a T :: r, K => evLoad P σ.boxes T (σ.get a) fun x => resK P σ r fun l => K (x :: l)
def tupA : List AV -> AV
 | [x] => x
 | l => .tup l
def endK (P : Program) (rs : List ResultVar) (m : Nat) (post : AV -> List (List AV) -> Prop) (σ : St) : Prop :=
 resK P σ rs fun l => m <= σ.boxes.length /\ (tupA l).allLeaf (pbLt m) = true /\ (tupA l).tags.length < 1000 /\ ((σ.boxes.take m).all fun cs => cs.all fun x => x.allLeaf fun y => noTag y && pbLt m y) = true /\ post (tupA l).canon (σ.boxes.take m)
def endQ (P : Program) (rs : List ResultVar) (m : Nat) (post : AV -> List (List AV) -> Prop) : Exit -> St -> Prop
 | .normal, σ => endK P rs m post σ
 | .ret, σ => endK P rs m post σ
 | _, _ => False
mutual
theorem ren_id (ts : List Nat) (m : Nat) : ∀ x : AV, x.allLeaf (fun y => noTag y && pbLt m y) = true -> x.mapTop (renLeaf ts) = x /\ x.allLeaf (fun y => tagsIn ts y && pbLt m y) = true
 | .ag cs, h => by
  simp only [AV.allLeaf] at h
  have := rens_id ts m cs h
  simp only [AV.mapTop, this.1, AV.allLeaf, this.2, and_self]
 | .tup cs, h => by
  simp only [AV.allLeaf] at h
  have := rens_id ts m cs h
  simp only [AV.mapTop, this.1, AV.allLeaf, this.2, and_self]
 | .sl t es xs, h => by
  simp only [AV.allLeaf, noTag, pbLt, Bool.and_true, decide_eq_true_eq] at h
  simp only [AV.mapTop, renLeaf, AV.allLeaf, tagsIn, pbLt, Bool.and_true]
  rw [if_neg (by omega)]; simp [h]
 | .pe t es xs i o, h => by
  simp only [AV.allLeaf, noTag, pbLt, Bool.and_true, decide_eq_true_eq] at h
  simp only [AV.mapTop, renLeaf, AV.allLeaf, tagsIn, pbLt, Bool.and_true]
  rw [if_neg (by omega)]; simp [h]
 | .pb i o, h => by simpa [AV.allLeaf, noTag, pbLt, AV.mapTop, renLeaf, tagsIn] using h
 | .any, _ => by simp [AV.mapTop, renLeaf, AV.allLeaf, tagsIn, pbLt]
 | .nil, _ => by simp [AV.mapTop, renLeaf, AV.allLeaf, tagsIn, pbLt]
 | .ub, _ => by simp [AV.mapTop, renLeaf, AV.allLeaf, tagsIn, pbLt]
 | .sc _, _ => by simp [AV.mapTop, renLeaf, AV.allLeaf, tagsIn, pbLt]
 | .fn _ _, _ => by simp [AV.mapTop, renLeaf, AV.allLeaf, tagsIn, pbLt]
 | .fp _ _, _ => by simp [AV.mapTop, renLeaf, AV.allLeaf, tagsIn, pbLt]
 | .mp _ _ _ _ _, h => by simp [AV.allLeaf, noTag] at h
 | .cl _ _, h => by simp [AV.allLeaf, noTag] at h
 | .tl _ _ _ _, h => by simp [AV.allLeaf, noTag] at h
 | .so _ _, h => by simp [AV.allLeaf, noTag] at h
 | .po _ _ _, h => by simp [AV.allLeaf, noTag] at h
theorem rens_id (ts : List Nat) (m : Nat) : ∀ cs : List AV, allLeafs (fun y => noTag y && pbLt m y) cs = true -> mapTops (renLeaf ts) cs = cs /\ allLeafs (fun y => tagsIn ts y && pbLt m y) cs = true
 | [], _ => ⟨rfl, rfl⟩
 | x :: r, h => by
  simp only [allLeafs, Bool.and_eq_true] at h
  have h1 := ren_id ts m x (by simpa using h.1)
  have h2 := rens_id ts m r (by simpa using h.2)
  simp only [mapTops, h1.1, h2.1, allLeafs, h1.2, h2.2, Bool.and_self, and_self]
end
def readVar (tmps : Array Value) : ResultVar -> Sem Value
 | .tmp t => pure (tmps.getD t undef)
 | .cell x T => do loadVar T (<- asAddr (tmps.getD x undef))
theorem run_results {σ : St} {G0 w0 G a w} (h : SRel G0 w0 σ G a w) : ∀ (rs : List ResultVar) (K : List AV -> Prop), resK P σ rs K ->
  ∃ l vs, K l /\ PW (VRel G w) l vs /\ (rs.mapM (readVar a.tmps)).run P w = .ok vs w
 | [], K, hk => ⟨[], [], hk, .nil _, by simp⟩
 | .tmp t :: r, K, hk => by
  obtain ⟨l, vs, h1, h2, h3⟩ := run_results h r _ hk
  exact ⟨_, _, h1, .cons (h.slots t) h2, by simp [List.mapM_cons, readVar, h3]⟩
 | .cell x T :: r, K, hk => by
  obtain ⟨y, hy, hl⟩ := evLoad_reads (P := P) (T := T) hk
  obtain ⟨l, vs, h1, h2, h3⟩ := run_results h r _ hy
  obtain ⟨u, g1, g2⟩ := hl _ G w _ h.good h.boxes (h.slots x)
  refine ⟨_, _, h1, .cons g2 h2, ?_⟩
  have hl' : (readVar a.tmps (.cell x T)).run P w = .ok u w := by
   simp only [Instr.loadAt, Sem.run_bind] at g1
   simp only [readVar, Sem.run_bind]
   cases hv : a.tmps.getD x undef with
   | pointer p =>
    cases p with
    | none => rw [hv] at g1; simp [Instr.sureAddr, stuck] at g1
    | some p => rw [hv] at g1; simpa [asAddr, Instr.sureAddr] using g1
   | _ => rw [hv] at g1; simp [Instr.sureAddr, stuck] at g1
  simp [List.mapM_cons, hl', h3]
theorem end_sound {fn : Func} {rs : List ResultVar} (hrs : fn.results = rs.toArray) {bx : List (List AV)} {post : AV -> List (List AV) -> Prop} {σ : St} {G0 w0 G a w} (_h0 : True) (hb0 : ∀ b i, G0 b = .box i -> i < bx.length) (h : SRel G0 w0 σ G a w)
  {m : Nat} (hm1 : bx.length <= m) (hq : endK P rs m post σ) (hgh : ∀ i vs, G0.gh i = some vs -> i < m) :
  ∃ v, (results fn a.tmps).run P w = .ok v w /\ ∃ r bx' G', post r bx' /\ VRel G' w r v /\ Good G' w /\ BRel G0.gh G' w bx' /\ (∀ b i, G' b = .box i -> i < bx'.length) /\ (∀ b, b < w0.heap.size -> (∀ t, G0 b ≠ .tag t) -> G' b = G0 b) /\ bx'.length <= m := by
 obtain ⟨l, vs, ⟨hm2, hpb, htl, hbx, hpost⟩, hpw, hrun⟩ := run_results h rs _ hq
 have hrun' : (fn.results.mapM (readVar a.tmps)).run P w = .ok vs.toArray w := by
  have : fn.results = rs.toArray := hrs
  rw [this, List.mapM_toArray]
  simp [hrun]
 have hv : ∃ v, (results fn a.tmps).run P w = .ok v w /\ VRel G w (tupA l) v := by
  have hres : ∀ v, v = (if h : vs.toArray.size = 1 then vs.toArray[0] else .tuple vs.toArray) -> (results fn a.tmps).run P w = .ok v w := by
   intro v hv
   subst hv
   have e : results fn a.tmps = (do let vs <- fn.results.mapM (readVar a.tmps); pure (if h : vs.size = 1 then vs[0] else .tuple vs)) := by
    unfold results
    congr 1
   rw [e]
   simp [hrun']
  cases l with
  | nil =>
   have := hpw.nil_inv; subst this
   exact ⟨.tuple #[], hres _ (by simp), .tup [] #[] rfl (by simp)⟩
  | cons x l =>
   obtain ⟨v, vs', rfl, h1, h2⟩ := hpw.cons_inv
   cases l with
   | nil =>
    have := h2.nil_inv; subst this
    exact ⟨v, hres _ (by simp), h1⟩
   | cons y l =>
    obtain ⟨v', vs'', rfl, h3, h4⟩ := h2.cons_inv
    exact ⟨.tuple (v :: v' :: vs'').toArray, hres _ (by simp), .tup _ _ (by simpa using hpw.1) (by simpa using hpw.2)⟩
 obtain ⟨v, hres, hr⟩ := hv
 refine ⟨v, hres, (tupA l).canon, σ.boxes.take m, endG (tupA l).tags m G, hpost, ?_, h.good.endG htl, ?_, ?_, ?_, by rw [List.length_take]; omega⟩
 ·exact hr.endG (allLeaf_and _ _ _ (tags_in _ _ fun _ h => h) hpb)
 ·refine ⟨fun i vs hv => by have := h.boxes.low i vs hv; have := hgh i vs hv; rw [List.length_take]; omega, fun i cs hi => ?_⟩
  have hi' : σ.boxes[i]? = some cs /\ i < m := by
   rw [List.getElem?_take] at hi
   split at hi
   ·exact ⟨hi, by assumption⟩
   ·cases hi
  refine (h.boxes.cell i cs hi'.1).turn rfl (fun j x y u hx hy hr => ?_) (fun b g1 => ⟨by simp [endG, g1, hi'.2], rfl⟩) fun h0 b hb => h0 b ?_
  ·rw [hx] at hy; cases hy
   have hcs := List.all_eq_true.1 hbx cs (List.mem_of_getElem? hi)
   have hxq := List.all_eq_true.1 hcs x (List.mem_of_getElem? hx)
   have := ren_id (tupA l).tags m x hxq
   have h2 := hr.endG (ts := (tupA l).tags) (m := m) this.2
   rw [this.1] at h2; exact h2
  ·unfold endG at hb
   split at hb <;> try (cases hb; done)
   ·split at hb <;> cases hb
   ·rename_i hg; split at hb
    ·cases hb; exact hg
    ·cases hb
 ·intro b i hb
  unfold endG at hb
  split at hb <;> try (cases hb; done)
  ·split at hb <;> cases hb
  ·split at hb
   ·rename_i hlt; cases hb; simp; omega
   ·cases hb
 ·intro b hb hnt
  have := h.stat b hb hnt
  unfold endG
  rw [this]
  cases hg : G0 b with
  | stable => rfl
  | junk => rfl
  | tag t => exact absurd hg (hnt t)
  | box i => have := hb0 b i hg; simp; omega
theorem Con.intro {f : FuncId} {fn : Func} {c : Code} {rs : List ResultVar} {n : Nat} {args : List AV} {bx : List (List AV)} {post : AV -> List (List AV) -> Prop} (hf : P.funcs[f]? = some fn) (hb : fn.body = some c) (hn : fn.ntmps = n) (hrs : fn.results = rs.toArray)
  (hname : (fn.name == "runtime.NumGoroutine") = false) (hargs : args.length <= n) (m : Nat) (hm : bx.length <= m) (h : wpA P c (endQ P rs m post) ⟨n, argT 0 args, bx⟩) : Con P f args bx post := by
 refine ⟨⟨fn, hf, hname, by simp [hb]⟩, fun G w vs hg h0 hbl hbr hv => ?_⟩
 subst hn
 refine calls_of_wp hf hb (wp_mono (wpA_sound (G0 := ⟨G, noGh⟩) (w0 := w) trivial c _ ⟨fn.ntmps, argT 0 args, bx⟩ G _ w h ?_) ?_)
 ·have hsz : args.length = vs.size := by have := hv.1; simpa using this
  refine { good := hg, slots := fun s => ?_, boxes := hbr, blt := hbl, size := ?_, defs := rfl, os := rfl, tape := rfl, output := rfl, hsize := Nat.le_refl _, stat := fun _ _ _ => rfl, keep := fun _ _ _ _ => rfl }
  ·simp only [St.get, argT_look, Nat.zero_le, if_true, Nat.sub_zero]
   cases hs : args[s]? with
   | none => exact .froz (.any _)
   | some x =>
    have hlt : s < vs.toList.length := by rw [<- hv.1]; exact (List.getElem?_eq_some_iff.1 hs).1
    have := hv.2 s x _ hs (List.getElem?_eq_getElem hlt)
    have e : (vs ++ Array.replicate (fn.ntmps - vs.size) undef).getD s undef = vs.toList[s] := by
     have hlt' : s < vs.size := by simpa using hlt
     simp [Array.getD_eq_getD_getElem?, Array.getElem?_append, hlt']
    simp only [Option.getD_some]
    rw [e]; exact this
  ·simp; omega
 ·rintro e a' w' ⟨σ', G', hq, hs⟩
  have fin : endK P rs m post σ' ->
    a'.defers = [] /\ ∃ v, (results fn a'.tmps).run P w' = .ok v w' /\ ∃ v_1 r bx' G', Ending.returned v = .returned v_1 /\ post r bx' /\ VRel G' w' r v_1 /\ Good G' w' /\ BRel noGh G' w' bx' /\ (∀ b i, G' b = .box i -> i < bx'.length) /\
     w'.os = w.os /\ w'.tape = w.tape /\ w'.output = w.output /\ w.heap.size <= w'.heap.size /\ (∀ b, b < w.heap.size -> G' b = G b) /\ (∀ b, b < w.heap.size -> (∀ i, G b ≠ .box i) -> w'.heap[b]? = w.heap[b]?) := by
   intro hq
   obtain ⟨v, h1, r, bx', G'', h2, h3, h4, h5, h6, h7, _⟩ := end_sound (rs := rs) (by rw [hrs]) trivial hbl hs hm hq (fun i vs hv => by simp [noGh] at hv)
   exact ⟨hs.defs, v, h1, v, r, bx', G'', rfl, h2, h3, h4, h5, h6, hs.os, hs.tape, hs.output, hs.hsize, fun b hb => h7 b hb (h0 b), fun b hb hn => hs.keep b hb hn (h0 b)⟩
  cases e with
  | normal => exact fin hq
  | ret => exact fin hq
  | _ => exact hq.elim
theorem ConC.intro {f : FuncId} {fn : Func} {c : Code} {rs : List ResultVar} {n : Nat} {args : List AV} {post : AV -> Prop} (hf : P.funcs[f]? = some fn) (hb : fn.body = some c) (hn : fn.ntmps = n) (hrs : fn.results = rs.toArray)
  (hname : (fn.name == "runtime.NumGoroutine") = false) (hargs : args.length <= n) (h : wpA P c (endQ P rs 0 fun r _ => post r) ⟨n, argT 0 args, []⟩) : ConC P f args post := by
 refine ⟨⟨fn, hf, hname, by simp [hb]⟩, fun G w vs hg hbx hv => ?_⟩
 subst hn
 refine calls_of_wp hf hb (wp_mono (wpA_sound (G0 := ⟨G, noGh⟩) (w0 := w) trivial c _ ⟨fn.ntmps, argT 0 args, []⟩ G _ w h ?_) ?_)
 ·have hsz : args.length = vs.size := by have := hv.1; simpa using this
  refine { good := hg, slots := fun s => ?_, boxes := ⟨fun i vs hv => by simp [noGh] at hv, fun i cs h => by simp at h⟩, blt := fun b i h => absurd h (hbx b i), size := ?_, defs := rfl, os := rfl, tape := rfl, output := rfl, hsize := Nat.le_refl _, stat := fun _ _ _ => rfl, keep := fun _ _ _ _ => rfl }
  ·simp only [St.get, argT_look, Nat.zero_le, if_true, Nat.sub_zero]
   cases hs : args[s]? with
   | none => exact .froz (.any _)
   | some x =>
    have hlt : s < vs.toList.length := by rw [<- hv.1]; exact (List.getElem?_eq_some_iff.1 hs).1
    have := hv.2 s x _ hs (List.getElem?_eq_getElem hlt)
    have e : (vs ++ Array.replicate (fn.ntmps - vs.size) undef).getD s undef = vs.toList[s] := by
     have hlt' : s < vs.size := by simpa using hlt
     simp [Array.getD_eq_getD_getElem?, Array.getElem?_append, hlt']
    simp only [Option.getD_some]
    rw [e]; exact this
  ·simp; omega
 ·rintro e a' w' ⟨σ', G', hq, hs⟩
  have fin : endK P rs 0 (fun r _ => post r) σ' ->
    a'.defers = [] /\ ∃ v, (results fn a'.tmps).run P w' = .ok v w' /\ ∃ v_1 r G', Ending.returned v = .returned v_1 /\ post r /\ VRel G' w' r v_1 /\ Good G' w' /\ (∀ b i, G' b ≠ .box i) /\
     w'.os = w.os /\ w'.tape = w.tape /\ w'.output = w.output /\ w.heap.size <= w'.heap.size /\ (∀ b, b < w.heap.size -> (∀ t, G b ≠ .tag t) -> G' b = G b) /\ (∀ b, b < w.heap.size -> (∀ t, G b ≠ .tag t) -> w'.heap[b]? = w.heap[b]?) := by
   intro hq
   obtain ⟨v, h1, r, bx', G'', h2, h3, h4, h5, h6, h7, h8⟩ := end_sound (bx := []) (rs := rs) (by rw [hrs]) trivial (fun b i h => absurd h (hbx b i)) hs (Nat.zero_le _) hq (fun i vs hv => by simp [noGh] at hv)
   exact ⟨hs.defs, v, h1, v, r, G'', rfl, h2, h3, h4, fun b i hb => by have := h6 b i hb; omega, hs.os, hs.tape, hs.output, hs.hsize, h7, fun b hb hnt => hs.keep b hb (hbx b) hnt⟩
  cases e with
  | normal => exact fin hq
  | ret => exact fin hq
  | _ => exact hq.elim
def endW (P : Program) (rs : List ResultVar) (post : AV -> List AV -> Prop) (σ : St) : Prop :=
 resK P σ rs fun l => ∃ ys rest, σ.boxes = ys :: rest /\ allLeafs (pbLt 0) (tupA l :: ys) = true /\ (tagss (tupA l :: ys)).length < 1000 /\
  post ((tupA l).mapTop (renLeaf (tagss (tupA l :: ys)))) (mapTops (renLeaf (tagss (tupA l :: ys))) ys)
def endQW (P : Program) (rs : List ResultVar) (post : AV -> List AV -> Prop) : Exit -> St -> Prop
 | .normal, σ => endW P rs post σ
 | .ret, σ => endW P rs post σ
 | _, _ => False
theorem res_sound {fn : Func} {rs : List ResultVar} (hrs : fn.results = rs.toArray) {σ : St} {G0 w0 G a w} (h : SRel G0 w0 σ G a w) {K : List AV -> Prop} (hq : resK P σ rs K) :
  ∃ v l, (results fn a.tmps).run P w = .ok v w /\ K l /\ VRel G w (tupA l) v := by
 obtain ⟨l, vs, hK, hpw, hrun⟩ := run_results h rs _ hq
 have hrun' : (fn.results.mapM (readVar a.tmps)).run P w = .ok vs.toArray w := by
  rw [hrs, List.mapM_toArray]
  simp [hrun]
 have hres : ∀ v, v = (if h : vs.toArray.size = 1 then vs.toArray[0] else .tuple vs.toArray) -> (results fn a.tmps).run P w = .ok v w := by
  intro v hv
  subst hv
  have e : results fn a.tmps = (do let vs <- fn.results.mapM (readVar a.tmps); pure (if h : vs.size = 1 then vs[0] else .tuple vs)) := by
   unfold results
   congr 1
  rw [e]
  simp [hrun']
 cases l with
 | nil =>
  have := hpw.nil_inv; subst this
  exact ⟨.tuple #[], _, hres _ (by simp), hK, .tup [] #[] rfl (by simp)⟩
 | cons x l =>
  obtain ⟨v, vs', rfl, h1, h2⟩ := hpw.cons_inv
  cases l with
  | nil =>
   have := h2.nil_inv; subst this
   exact ⟨v, _, hres _ (by simp), hK, h1⟩
  | cons y l =>
   obtain ⟨v', vs'', rfl, h3, h4⟩ := h2.cons_inv
   exact ⟨.tuple (v :: v' :: vs'').toArray, _, hres _ (by simp), hK, .tup _ _ (by simpa using hpw.1) (by simpa using hpw.2)⟩
theorem ConW.intro {f : FuncId} {fn : Func} {c : Code} {rs : List ResultVar} {n : Nat} {args : List AV} {post : AV -> List AV -> Prop} (hf : P.funcs[f]? = some fn) (hb : fn.body = some c) (hn : fn.ntmps = n) (hrs : fn.results = rs.toArray)
  (hname : (fn.name == "runtime.NumGoroutine") = false) (hargs : args.length <= n) (h : wpA P c (endQW P rs post) ⟨n, argT 0 args, [args]⟩) : ConW P f args post := by
 refine ⟨⟨fn, hf, hname, by simp [hb]⟩, fun G w vs hg hbx hv => ?_⟩
 subst hn
 refine calls_of_wp hf hb (wp_mono (wpA_sound (G0 := ⟨G, fun i => if i = 0 then some vs.toList else none⟩) (w0 := w) trivial c _ ⟨fn.ntmps, argT 0 args, [args]⟩ G _ w h ?_) ?_)
 ·have hsz : args.length = vs.size := by have := hv.1; simpa using this
  refine { good := hg, slots := fun s => ?_, boxes := ⟨fun i vs hv => ?_, fun i cs h => ?_⟩, blt := fun b i h => absurd h (hbx b i), size := ?_, defs := rfl, os := rfl, tape := rfl, output := rfl, hsize := Nat.le_refl _, stat := fun _ _ _ => rfl, keep := fun _ _ _ _ => rfl }
  ·simp only [St.get, argT_look, Nat.zero_le, if_true, Nat.sub_zero]
   cases hs : args[s]? with
   | none => exact .froz (.any _)
   | some x =>
    have hlt : s < vs.toList.length := by rw [<- hv.1]; exact (List.getElem?_eq_some_iff.1 hs).1
    have := hv.2 s x _ hs (List.getElem?_eq_getElem hlt)
    have e : (vs ++ Array.replicate (fn.ntmps - vs.size) undef).getD s undef = vs.toList[s] := by
     have hlt' : s < vs.size := by simpa using hlt
     simp [Array.getD_eq_getD_getElem?, Array.getElem?_append, hlt']
    simp only [Option.getD_some]
    rw [e]; exact this
  ·simp only at hv
   split at hv
   ·rename_i h0; simp [h0]
   ·cases hv
  ·cases i with
   | zero =>
    simp at h; subst h
    exact .inr (.inl ⟨fun b => hbx b 0, vs.toList, by simp, hv⟩)
   | succ i => simp at h
  ·simp; try omega
 ·rintro e a' w' ⟨σ', G', hq, hs⟩
  have fin : endW P rs post σ' ->
    a'.defers = [] /\ ∃ v, (results fn a'.tmps).run P w' = .ok v w' /\ ∃ v_1 r ys G', Ending.returned v = .returned v_1 /\ post r ys /\ VRel G' w' r v_1 /\ PW (VRel G' w') ys vs.toList /\ Good G' w' /\ (∀ b i, G' b ≠ .box i) /\
     w'.os = w.os /\ w'.tape = w.tape /\ w'.output = w.output /\ w.heap.size <= w'.heap.size /\ (∀ b, b < w.heap.size -> (∀ t, G b ≠ .tag t) -> G' b = G b) /\ (∀ b, b < w.heap.size -> (∀ t, G b ≠ .tag t) -> w'.heap[b]? = w.heap[b]?) := by
   intro hq
   obtain ⟨v, l, h1, ⟨ys, rest, hbxs, hpb, htl, hpost⟩, hr⟩ := res_sound (rs := rs) hrs hs hq
   have hys : PW (VRel G' w') ys vs.toList := by
    rcases hs.boxes.cell 0 ys (by rw [hbxs]; rfl) with ⟨h0, _⟩ | ⟨_, vs', h0, hp⟩ | ⟨h0, _⟩
    ·simp at h0
    ·simp at h0; subst h0; exact hp
    ·simp at h0
   have hall : ∀ x ∈ tupA l :: ys, x.allLeaf (fun y => tagsIn (tagss (tupA l :: ys)) y && pbLt 0 y) = true := fun x hx =>
    allLeaf_and _ _ _ (tags_in _ x (tagss_mem hx)) (allLeafs_mem hpb x hx)
   refine ⟨hs.defs, v, h1, v, _, _, endG (tagss (tupA l :: ys)) 0 G', rfl, hpost, hr.endG (hall _ (by simp)), ?_, hs.good.endG htl, ?_, hs.os, hs.tape, hs.output, hs.hsize, ?_, fun b hb hnt => hs.keep b hb (hbx b) hnt⟩
   ·refine ⟨by rw [mapTops_eq]; simpa using hys.1, fun j x u hx hu => ?_⟩
    rw [mapTops_eq, List.getElem?_map] at hx
    cases hj : ys[j]? with
    | none => simp [hj] at hx
    | some y =>
     simp [hj] at hx; subst hx
     exact (hys.2 j y u hj hu).endG (hall y (by simp [List.mem_of_getElem? hj]))
   ·intro b i hbi
    unfold endG at hbi
    cases hg : G' b <;> simp only [hg] at hbi
    ·cases hbi
    ·split at hbi <;> cases hbi
    ·rw [if_neg (by omega)] at hbi; cases hbi
    ·cases hbi
   ·intro b hb hnt
    have h2 : G' b = G b := hs.stat b hb hnt
    unfold endG
    rw [h2]
    cases hg : G b with
    | stable => rfl
    | junk => rfl
    | tag t => exact absurd hg (hnt t)
    | box i => exact absurd hg (hbx b i)
  cases e with
  | normal => exact fin hq
  | ret => exact fin hq
  | _ => exact hq.elim
def endX (P : Program) (rs : List ResultVar) (m : Nat) (post : AV -> List (List AV) -> Prop) (σ : St) : Prop :=
 resK P σ rs fun l => m <= σ.boxes.length /\ allLeafs (pbLt m) (tupA l :: catB (σ.boxes.take m)) = true /\ (tagss (tupA l :: catB (σ.boxes.take m))).length < 1000 /\
  post ((tupA l).mapTop (renLeaf (tagss (tupA l :: catB (σ.boxes.take m))))) (mapB (renLeaf (tagss (tupA l :: catB (σ.boxes.take m)))) (σ.boxes.take m))
def endQX (P : Program) (rs : List ResultVar) (m : Nat) (post : AV -> List (List AV) -> Prop) : Exit -> St -> Prop
 | .normal, σ => endX P rs m post σ
 | .ret, σ => endX P rs m post σ
 | _, _ => False
end
def mkd {α : Type} (x : α) : α := x
@[go_sem, simp] theorem mkd_eq {α : Type} (x : α) : mkd x = x := congrFun (funext fun y => (Eq.refl (mkd y) : mkd y = y)) x
def caseO {α : Type} (o : Option α) (k : α -> Prop) : Prop := ∃ a, o = some a /\ k a
@[congr] theorem caseO_congr {α : Type} {o o' : Option α} {k : α -> Prop} (h : mkd o = o') : caseO o k = caseO o' k := by subst_vars; rfl
@[go_sem] theorem caseO_some {α : Type} (a : α) (k : α -> Prop) : caseO (some a) k = k a := by simp [caseO]
def onSlice (d : Option TypeDesc) (k : TypeId -> Prop) : Prop := ∃ E, d = some (.slice E) /\ k E
@[congr] theorem onSlice_congr {d d' : Option TypeDesc} {k : TypeId -> Prop} (h : mkd d = d') : onSlice d k = onSlice d' k := by subst_vars; rfl
@[go_sem] theorem onSlice_some (E : TypeId) (k : TypeId -> Prop) : onSlice (some (.slice E)) k = k E := by simp [onSlice]
def onArray (d : Option TypeDesc) (k : Nat -> TypeId -> Prop) : Prop := ∃ n E, d = some (.array n E) /\ k n E
@[congr] theorem onArray_congr {d d' : Option TypeDesc} {k : Nat -> TypeId -> Prop} (h : mkd d = d') : onArray d k = onArray d' k := by subst_vars; rfl
@[go_sem] theorem onArray_some (n : Nat) (E : TypeId) (k : Nat -> TypeId -> Prop) : onArray (some (.array n E)) k = k n E := by
 unfold onArray
 apply propext
 constructor
 ·rintro ⟨n', E', h, hk⟩; cases h; exact hk
 ·intro h; exact ⟨n, E, rfl, h⟩
def onB (b : Bool) (p q : Prop) : Prop := if b = true then p else q
@[congr] theorem onB_congr {b b' : Bool} {p q : Prop} (h : mkd b = b') : onB b p q = onB b' p q := by subst_vars; rfl
@[go_sem] theorem onB_true (p q : Prop) : onB true p q = p := rfl
@[go_sem] theorem onB_false (p q : Prop) : onB false p q = q := rfl
def onBool (x : AV) (k : Bool -> Prop) : Prop := ∃ b, x = .sc (.bool b) /\ k b
@[congr] theorem onBool_congr {x x' : AV} {k : Bool -> Prop} (h : mkd x = x') : onBool x k = onBool x' k := by subst_vars; rfl
@[go_sem] theorem onBool_sc (b : Bool) (k : Bool -> Prop) : onBool (.sc (.bool b)) k = k b := by
 unfold onBool
 apply propext
 constructor
 ·rintro ⟨b', h, hk⟩; cases h; exact hk
 ·intro h; exact ⟨b, rfl, h⟩
def onGuard (x : AV) (k : Bool -> Prop) (q : Prop) : Prop := (∃ b, x = .sc (.bool b) /\ k b) \/ ∃ vs, x = .sc (.tuple vs) /\ q
@[congr] theorem onGuard_congr {x x' : AV} {k : Bool -> Prop} {q : Prop} (h : mkd x = x') : onGuard x k q = onGuard x' k q := by subst_vars; rfl
@[go_sem] theorem onGuard_sc (b : Bool) (k : Bool -> Prop) (q : Prop) : onGuard (.sc (.bool b)) k q = k b := by
 unfold onGuard
 apply propext
 constructor
 ·rintro (⟨b', h, hk⟩ | ⟨vs, h, _⟩)
  ·cases h; exact hk
  ·cases h
 ·intro h; exact .inl ⟨b, rfl, h⟩
@[go_sem] theorem onGuard_un (k : Bool -> Prop) (q : Prop) : onGuard (.sc undef) k q = q := by
 unfold onGuard
 apply propext
 constructor
 ·rintro (⟨b', h, hk⟩ | ⟨vs, h, hq⟩)
  ·cases h
  ·exact hq
 ·intro h; exact .inr ⟨_, rfl, h⟩
def both (b : Bool) (p q : Prop) : Prop := (b = true -> p) /\ (b = false -> q)
@[congr] theorem both_congr {b b' : Bool} {p q : Prop} (h : mkd b = b') : both b p q = both b' p q := by subst_vars; rfl
@[go_sem] theorem both_true (p q : Prop) : both true p q = p := by simp [both]
@[go_sem] theorem both_false (p q : Prop) : both false p q = q := by simp [both]
def andK (p q : Prop) : Prop := p /\ q
@[congr] theorem andK_congr {p p' q : Prop} (h : mkd p = p') : andK p q = andK p' q := by subst_vars; rfl
@[go_sem] theorem andK_true (q : Prop) : andK True q = q := by simp [andK]
section
variable {P : Program}
@[congr] theorem wpA_congr {c : Code} {Q : Exit -> St -> Prop} {σ σ' : St} (h : mkd σ = σ') : wpA P c Q σ = wpA P c Q σ' := by subst_vars; rfl
@[congr] theorem opsA_congr {ops : Array Oper} {l : List Oper} {K : St -> Prop} {σ σ' : St} (h : mkd σ = σ') : opsA P ops l σ K = opsA P ops l σ' K := by subst_vars; rfl
@[congr] theorem wpOp_congr {o : Oper} {K : St -> Prop} {σ σ' : St} (h : mkd σ = σ') : wpOp P o σ K = wpOp P o σ' K := by subst_vars; rfl
@[congr] theorem LoopK_congr {body : (Exit -> St -> Prop) -> St -> Prop} {Q : Exit -> St -> Prop} {σ σ' : St} (h : mkd σ = σ') : LoopK body Q σ = LoopK body Q σ' := by subst_vars; rfl
@[congr] theorem roundK_congr {α : Type} {st : α -> St} {m : α -> Nat} {inv : α -> Prop} {x : α} {σ σ' : St} (h : mkd σ = σ') : roundK st m inv x σ = roundK st m inv x σ' := by subst_vars; rfl
@[congr] theorem ScopeK_congr {c : Code} {Q : Exit -> St -> Prop} {σ σ' : St} (h : mkd σ = σ') : ScopeK P c Q σ = ScopeK P c Q σ' := by subst_vars; rfl
@[congr] theorem jumpK_congr {α : Type} {st : α -> St} {m : α -> Nat} {inv : α -> Prop} {x : α} {σ σ' : St} (h : mkd σ = σ') : jumpK st m inv x σ = jumpK st m inv x σ' := by subst_vars; rfl
@[congr] theorem fromK_congr {α : Type} {st : α -> St} {inv : α -> Prop} {σ σ' : St} (h : mkd σ = σ') : fromK st inv σ = fromK st inv σ' := by subst_vars; rfl
@[congr] theorem DrawK_congr {ops : Array Oper} {K : St -> Prop} {σ σ' : St} (h : mkd σ = σ') : DrawK P ops σ K = DrawK P ops σ' K := by subst_vars; rfl
@[congr] theorem CallU_congr {f : FuncId} {args args' : List AV} {d : Nat} {K : St -> Prop} {σ σ' : St} (h1 : mkd args = args') (h : σ = σ') : CallU P f args d σ K = CallU P f args' d σ' K := by subst_vars; rfl
@[congr] theorem thenA_congr {next : St -> Prop} {Q : Exit -> St -> Prop} {e e' : Exit} {σ σ' : St} (h1 : mkd e = e') (h : σ = σ') : thenA next Q e σ = thenA next Q e' σ' := by subst_vars; rfl
@[congr] theorem jumpA_congr {l : Nat} {J : St -> Prop} {Q : Exit -> St -> Prop} {e e' : Exit} {σ σ' : St} (h1 : mkd e = e') (h : σ = σ') : jumpA l J Q e σ = jumpA l J Q e' σ' := by subst_vars; rfl
@[congr] theorem upA_congr {J : St -> Prop} {Q : Exit -> St -> Prop} {e e' : Exit} {σ σ' : St} (h1 : mkd e = e') (h : σ = σ') : upA J Q e σ = upA J Q e' σ' := by subst_vars; rfl
@[congr] theorem blockA_congr {id : Nat} {Q : Exit -> St -> Prop} {e e' : Exit} {σ σ' : St} (h1 : mkd e = e') (h : σ = σ') : blockA id Q e σ = blockA id Q e' σ' := by subst_vars; rfl
@[congr] theorem evLoad_congr {bx bx' : List (List AV)} {T : TypeId} {x x' : AV} {K : AV -> Prop} (h1 : mkd bx = bx') (h : x = x') : evLoad P bx T x K = evLoad P bx' T x' K := by subst_vars; rfl
@[congr] theorem evPart_congr {T : TypeId} {cs cs' : List AV} {o o' : Nat} {K : AV -> Prop} (h1 : mkd cs = cs') (h : o = o') : evPart P T cs o K = evPart P T cs' o' K := by subst_vars; rfl
@[congr] theorem evBinOp_congr {op : BinOp} {T : TypeId} {x x' y y' : AV} {K : AV -> Prop} (h1 : mkd x = x') (h : y = y') : evBinOp P op T x y K = evBinOp P op T x' y' K := by subst_vars; rfl
@[congr] theorem evBin_congr {op : BinOp} {T : TypeId} {x x' y y' : Value} {K : Value -> Prop} (h1 : mkd x = x') (h : y = y') : evBin P op T x y K = evBin P op T x' y' K := by subst_vars; rfl
@[congr] theorem evUn_congr {op : UnOp} {x x' : AV} {K : AV -> Prop} (h : mkd x = x') : evUn op x K = evUn op x' K := by subst_vars; rfl
@[congr] theorem evConv_congr {s t : TypeId} {x x' : AV} {K : AV -> Prop} (h : mkd x = x') : evConv P s t x K = evConv P s t x' K := by subst_vars; rfl
@[congr] theorem evSlice_congr {T : TypeId} {x x' : AV} {lo lo' hi hi' mx mx' : Option AV} {K : AV -> Prop} (h : mkd x = x') (h1 : lo = lo') (h2 : hi = hi') (h3 : mx = mx') : evSlice P T x lo hi mx K = evSlice P T x' lo' hi' mx' K := by subst_vars; rfl
@[congr] theorem evBound_congr {x x' : Option AV} {d d' : Nat} {K : Nat -> Prop} (h : mkd x = x') (h1 : d = d') : evBound x d K = evBound x' d' K := by subst_vars; rfl
@[congr] theorem evFieldAddr_congr {T : TypeId} {x x' : AV} {f : Nat} {K : AV -> Prop} (h : mkd x = x') : evFieldAddr P T x f K = evFieldAddr P T x' f K := by subst_vars; rfl
@[congr] theorem evField_congr {T : TypeId} {x x' : AV} {f : Nat} {K : AV -> Prop} (h : mkd x = x') : evField P T x f K = evField P T x' f K := by subst_vars; rfl
@[congr] theorem evIndexAddr_congr {T : TypeId} {x x' i i' : AV} {K : AV -> Prop} (h : mkd x = x') (h1 : i = i') : evIndexAddr P T x i K = evIndexAddr P T x' i' K := by subst_vars; rfl
@[congr] theorem evIndex_congr {T : TypeId} {x x' i i' : AV} {K : AV -> Prop} (h : mkd x = x') (h1 : i = i') : evIndex P T x i K = evIndex P T x' i' K := by subst_vars; rfl
@[congr] theorem evExtract_congr {x x' : AV} {i : Nat} {K : AV -> Prop} (h : mkd x = x') : evExtract x i K = evExtract x' i K := by subst_vars; rfl
@[congr] theorem evBuild_congr {T : TypeId} {ps ps' : List (Nat × AV)} {K : AV -> Prop} (h : mkd ps = ps') : evBuild P T ps K = evBuild P T ps' K := by subst_vars; rfl
@[congr] theorem evBuildSlice_congr {d : Nat} {T : TypeId} {n : Nat} {ps ps' : List (Nat × AV)} {K : AV -> Prop} (h : mkd ps = ps') : evBuildSlice P d T n ps K = evBuildSlice P d T n ps' K := by subst_vars; rfl
@[congr] theorem evMake_congr {d : Nat} {T : TypeId} {x x' i i' : AV} {K : AV -> Prop} (h : mkd x = x') (h1 : i = i') : evMake P d T x i K = evMake P d T x' i' K := by subst_vars; rfl
@[congr] theorem evLen_congr {T : TypeId} {x x' : AV} {K : AV -> Prop} (h : mkd x = x') : evLen P T x K = evLen P T x' K := by subst_vars; rfl
@[congr] theorem evLenM_congr {T : TypeId} {x x' : AV} {K : AV -> Prop} (h : mkd x = x') : evLenM P T x K = evLenM P T x' K := by subst_vars; rfl
@[congr] theorem evLookup_congr {T : TypeId} {x x' i i' : AV} {K : AV -> Prop} (h : mkd x = x') (h1 : i = i') : evLookup P T x i K = evLookup P T x' i' K := by subst_vars; rfl
@[congr] theorem evMapPut_congr {T : TypeId} {σ σ' : St} {m m' x x' y y' : AV} {K : St -> Prop} (h : mkd σ = σ') (h0 : m = m') (h1 : x = x') (h2 : y = y') : evMapPut P T σ m x y K = evMapPut P T σ' m' x' y' K := by subst_vars; rfl
@[congr] theorem evCap_congr {T : TypeId} {x x' : AV} {K : AV -> Prop} (h : mkd x = x') : evCap P T x K = evCap P T x' K := by subst_vars; rfl
@[congr] theorem evAppendX_congr {T T' : TypeId} {d : Nat} {x x' y y' : AV} {K : AV -> Prop} (h1 : mkd x = x') (h2 : y = y') : evAppendX P d T T' x y K = evAppendX P d T T' x' y' K := by subst_vars; rfl
@[congr] theorem evAppendZ_congr {T T' : TypeId} {d : Nat} {x x' : AV} {y y' : Int} {K : AV -> Prop} (h1 : mkd x = x') (h2 : y = y') : evAppendZ P d T T' x y K = evAppendZ P d T T' x' y' K := by subst_vars; rfl
@[congr] theorem evMax_congr {x x' i i' : AV} {K : AV -> Prop} (h : mkd x = x') (h1 : i = i') : evMax x i K = evMax x' i' K := by subst_vars; rfl
@[congr] theorem evMin_congr {x x' i i' : AV} {K : AV -> Prop} (h : mkd x = x') (h1 : i = i') : evMin x i K = evMin x' i' K := by subst_vars; rfl
@[congr] theorem evAppend_congr {T T' : TypeId} {d : Nat} {σ σ' : St} {x x' y y' : AV} {K : St -> Prop} (h : mkd σ = σ') (h1 : x = x') (h2 : y = y') : evAppend P T T' d σ x y K = evAppend P T T' d σ' x' y' K := by subst_vars; rfl
@[congr] theorem evAppendNew_congr {T T' : TypeId} {d : Nat} {x x' y y' : AV} {K : AV -> Prop} (h1 : mkd x = x') (h2 : y = y') : evAppendNew P d T T' x y K = evAppendNew P d T T' x' y' K := by subst_vars; rfl
@[congr] theorem evAppendOwn_congr {T T' : TypeId} {x x' y y' : AV} {K : Nat -> AV -> Prop} (h1 : mkd x = x') (h2 : y = y') : evAppendOwn P T T' x y K = evAppendOwn P T T' x' y' K := by subst_vars; rfl
@[congr] theorem evStore_congr {T : TypeId} {σ σ' : St} {x x' y y' : AV} {K : St -> Prop} (h : mkd σ = σ') (h1 : x = x') (h2 : y = y') : evStore P T σ x y K = evStore P T σ' x' y' K := by subst_vars; rfl
@[congr] theorem resK_congr {σ σ' : St} {rs : List ResultVar} {K : List AV -> Prop} (h : mkd σ = σ') : resK P σ rs K = resK P σ' rs K := by subst_vars; rfl
variable {n : Nat} {t : List (Nat × AV)} {b : List (List AV)}
@[go_sem] theorem wpA_skip {Q : Exit -> St -> Prop} : wpA P .skip Q ⟨n, t, b⟩ = Q .normal ⟨n, t, b⟩ := rfl
@[go_sem] theorem wpA_label {l : Nat} {Q : Exit -> St -> Prop} : wpA P (.label l) Q ⟨n, t, b⟩ = Q .normal ⟨n, t, b⟩ := rfl
@[go_sem] theorem wpA_region {id : Nat} {l : List Oper} {Q : Exit -> St -> Prop} : wpA P (.region id l.toArray false) Q ⟨n, t, b⟩ = opsA P l.toArray l ⟨n, t, b⟩ (Q .normal) := by simp [wpA]
@[go_sem] theorem wpA_draw {id : Nat} {ops : Array Oper} {Q : Exit -> St -> Prop} : wpA P (.region id ops true) Q ⟨n, t, b⟩ = DrawK P ops ⟨n, t, b⟩ (Q .normal) := by simp [wpA]
@[go_sem] theorem wpA_seq {x y : Code} {Q : Exit -> St -> Prop} : wpA P (.seq x y) Q ⟨n, t, b⟩ = wpA P x (thenA (wpA P y Q) Q) ⟨n, t, b⟩ := rfl
@[go_sem] theorem wpA_block {id : Nat} {c : Code} {Q : Exit -> St -> Prop} : wpA P (.block id c) Q ⟨n, t, b⟩ = wpA P c (blockA id Q) ⟨n, t, b⟩ := rfl
@[go_sem] theorem wpA_loop {c : Code} {Q : Exit -> St -> Prop} : wpA P (.loop c) Q ⟨n, t, b⟩ = LoopK (wpA P c) Q ⟨n, t, b⟩ := rfl
@[go_sem] theorem wpA_scope {c : Code} {Q : Exit -> St -> Prop} : wpA P (.scope c) Q ⟨n, t, b⟩ = ScopeK P c Q ⟨n, t, b⟩ := rfl
@[go_sem] theorem wpA_goto {l : Nat} {Q : Exit -> St -> Prop} : wpA P (.goto l) Q ⟨n, t, b⟩ = Q (.goto l) ⟨n, t, b⟩ := rfl
@[go_sem] theorem wpA_exit {id : Nat} {Q : Exit -> St -> Prop} : wpA P (.exit id) Q ⟨n, t, b⟩ = Q (.exit id) ⟨n, t, b⟩ := rfl
@[go_sem] theorem wpA_ret {Q : Exit -> St -> Prop} : wpA P .ret Q ⟨n, t, b⟩ = Q .ret ⟨n, t, b⟩ := rfl
def condK (x : AV) (p q : Prop) : Prop := match x with
 | .sc (.bool b) => (b = true -> p) /\ (b = false -> q)
 | .ub => p /\ q
 | _ => False
@[congr] theorem condK_congr {x x' : AV} {p q : Prop} (h : mkd x = x') : condK x p q = condK x' p q := by subst_vars; rfl
@[go_sem] theorem condK_sc {c : Bool} {p q : Prop} : condK (.sc (.bool c)) p q = both c p q := rfl
@[go_sem] theorem condK_ub {p q : Prop} : condK .ub p q = (p /\ q) := rfl
@[go_sem] theorem wpA_cond {c : Operand} {x y : Code} {Q : Exit -> St -> Prop} : wpA P (.cond c x y) Q ⟨n, t, b⟩ = condK (St.ev ⟨n, t, b⟩ c) (wpA P x Q ⟨n, t, b⟩) (wpA P y Q ⟨n, t, b⟩) := rfl
@[go_sem] theorem thenA_normal {next : St -> Prop} {Q : Exit -> St -> Prop} {σ : St} : thenA next Q .normal σ = next σ := rfl
@[go_sem] theorem thenA_exit {next : St -> Prop} {Q : Exit -> St -> Prop} {σ : St} {id : Nat} : thenA next Q (.exit id) σ = Q (.exit id) σ := rfl
@[go_sem] theorem thenA_ret {next : St -> Prop} {Q : Exit -> St -> Prop} {σ : St} : thenA next Q .ret σ = Q .ret σ := rfl
@[go_sem] theorem thenA_goto {next : St -> Prop} {Q : Exit -> St -> Prop} {σ : St} {l : Nat} : thenA next Q (.goto l) σ = Q (.goto l) σ := rfl
@[go_sem] theorem blockA_goto {id l : Nat} {Q : Exit -> St -> Prop} {σ : St} : blockA id Q (.goto l) σ = Q (.goto l) σ := rfl
@[go_sem] theorem jumpA_normal {l : Nat} {J : St -> Prop} {Q : Exit -> St -> Prop} {σ : St} : jumpA l J Q .normal σ = Q .normal σ := rfl
@[go_sem] theorem jumpA_exit {l id : Nat} {J : St -> Prop} {Q : Exit -> St -> Prop} {σ : St} : jumpA l J Q (.exit id) σ = Q (.exit id) σ := rfl
@[go_sem] theorem jumpA_ret {l : Nat} {J : St -> Prop} {Q : Exit -> St -> Prop} {σ : St} : jumpA l J Q .ret σ = Q .ret σ := rfl
@[go_sem] theorem jumpA_goto {l l' : Nat} {J : St -> Prop} {Q : Exit -> St -> Prop} {σ : St} : jumpA l J Q (.goto l') σ = andK (l' = l) (J σ) := rfl
@[go_sem] theorem upA_normal {J : St -> Prop} {Q : Exit -> St -> Prop} {σ : St} : upA J Q .normal σ = J σ := rfl
@[go_sem] theorem upA_ret {J : St -> Prop} {Q : Exit -> St -> Prop} {σ : St} : upA J Q .ret σ = Q .ret σ := rfl
@[go_sem] theorem upA_exit {id : Nat} {J : St -> Prop} {Q : Exit -> St -> Prop} {σ : St} : upA J Q (.exit id) σ = Q (.exit id) σ := rfl
@[go_sem] theorem blockA_normal {id : Nat} {Q : Exit -> St -> Prop} {σ : St} : blockA id Q .normal σ = Q .normal σ := rfl
@[go_sem] theorem blockA_ret {id : Nat} {Q : Exit -> St -> Prop} {σ : St} : blockA id Q .ret σ = Q .ret σ := rfl
@[go_sem] theorem blockA_exit {id id' : Nat} {Q : Exit -> St -> Prop} {σ : St} : blockA id Q (.exit id') σ = onB (decide (id' = id)) (Q .normal σ) (Q (.exit id') σ) := by simp [blockA, onB]
@[go_sem] theorem endQ_normal {rs : List ResultVar} {m : Nat} {post : AV -> List (List AV) -> Prop} {σ : St} : endQ P rs m post .normal σ = endK P rs m post σ := rfl
@[go_sem] theorem endQ_ret {rs : List ResultVar} {m : Nat} {post : AV -> List (List AV) -> Prop} {σ : St} : endQ P rs m post .ret σ = endK P rs m post σ := rfl
@[go_sem] theorem opsA_nil {ops : Array Oper} {K : St -> Prop} : opsA P ops [] ⟨n, t, b⟩ K = K ⟨n, t, b⟩ := rfl
@[go_sem] theorem opsA_cons {ops : Array Oper} {r : List Oper} {K : St -> Prop} {dst : Option Tmp} {op : Op} {T : TypeId} {pos : String} {af : Array Edge} :
  opsA P ops (⟨dst, op, T, pos, af, none⟩ :: r) ⟨n, t, b⟩ K = wpOp P ⟨dst, op, T, pos, af, none⟩ ⟨n, t, b⟩ fun σ' => opsA P ops r σ' K := rfl
@[go_sem] theorem opsA_guard {ops : Array Oper} {r : List Oper} {K : St -> Prop} {dst : Option Tmp} {op : Op} {T : TypeId} {pos : String} {af : Array Edge} {j : Nat} {want : Bool} :
  opsA P ops (⟨dst, op, T, pos, af, some (j, want)⟩ :: r) ⟨n, t, b⟩ K = caseO (guardSlot ops j) fun g => onGuard (lookT t g) (fun c =>
   both (c == want) (wpOp P ⟨dst, op, T, pos, af, some (j, want)⟩ (St.put ⟨n, t, b⟩ (some g) (.sc (.bool want))) fun σ' => opsA P ops r σ' K)
    (andK (dstOk n dst = true) (opsA P ops r (St.put (St.put ⟨n, t, b⟩ (some g) (.sc (.bool (!want)))) dst (.sc undef)) K)))
   (andK (dstOk n dst = true) (opsA P ops r (St.put ⟨n, t, b⟩ dst (.sc undef)) K)) := by
 apply propext
 simp only [opsA, caseO, onGuard, both, andK, St.get]
 cases hg : guardSlot ops j with
 | none => simp
 | some g =>
  simp only [Option.some.injEq]
  constructor
  ·intro h
   refine ⟨g, rfl, ?_⟩
   split at h
   ·rename_i c hc
    exact .inl ⟨c, hc, fun h1 => h.1 (by simpa using h1), fun h1 => h.2 (by cases c <;> cases want <;> first | rfl | cases h1)⟩
   ·rename_i vs hc
    exact .inr ⟨vs, hc, h⟩
   ·exact h.elim
  ·rintro ⟨_, rfl, ⟨c, hc, h1, h2⟩ | ⟨vs, hc, h⟩⟩
   ·rw [hc]
    exact ⟨fun h => h1 (by simpa using h), fun h => h2 (by rw [h]; cases want <;> rfl)⟩
   ·rw [hc]; exact h
variable {d : Nat} {T : TypeId} {pos : String} {af : Array Edge} {g : Option (Nat × Bool)} {K : St -> Prop}
@[go_sem] theorem wpOp_move {x : Operand} : wpOp P ⟨some d, .move x, T, pos, af, g⟩ ⟨n, t, b⟩ K = andK (d < n) (K (St.put ⟨n, t, b⟩ (some d) (typed P d T (St.ev ⟨n, t, b⟩ x)))) := propext ⟨fun h => ⟨h.1, h.2.2⟩, fun h => ⟨h.1, (fun h' => by simp [needsFresh] at h'), h.2⟩⟩
@[go_sem] theorem wpOp_assign {x : Operand} : wpOp P ⟨some d, .assign x, T, pos, af, g⟩ ⟨n, t, b⟩ K = andK (d < n) (K (St.put ⟨n, t, b⟩ (some d) (typed P d T (St.ev ⟨n, t, b⟩ x)))) := propext ⟨fun h => ⟨h.1, h.2.2⟩, fun h => ⟨h.1, (fun h' => by simp [needsFresh] at h'), h.2⟩⟩
@[go_sem] theorem wpOp_pick {c x y : Operand} : wpOp P ⟨some d, .pick c x y, T, pos, af, g⟩ ⟨n, t, b⟩ K = andK (d < n) (onBool (St.ev ⟨n, t, b⟩ c) fun v => both v (K (St.put ⟨n, t, b⟩ (some d) (St.ev ⟨n, t, b⟩ x))) (K (St.put ⟨n, t, b⟩ (some d) (St.ev ⟨n, t, b⟩ y)))) := by
 simp only [wpOp, wpAt, evOp, needsFresh, andK, onBool, both, Bool.false_eq_true, false_implies, true_and]
 cases St.ev ⟨n, t, b⟩ c <;> simp
 rename_i v; cases v <;> simp
 rename_i v; intro _; cases v <;> simp
@[go_sem] theorem wpOp_load {T' : TypeId} {x : Operand} : wpOp P ⟨some d, .load T' x, T, pos, af, g⟩ ⟨n, t, b⟩ K = andK (d < n) (evLoad P b T' (St.ev ⟨n, t, b⟩ x) fun r => K (St.put ⟨n, t, b⟩ (some d) r)) := by simp [wpOp, wpAt, evOp, needsFresh, andK]
@[go_sem] theorem wpOp_nilCheck {x : Operand} : wpOp P ⟨some d, .nilCheck x, T, pos, af, g⟩ ⟨n, t, b⟩ K = andK (d < n) (andK ((isPtr (St.ev ⟨n, t, b⟩ x) || isFn (St.ev ⟨n, t, b⟩ x)) = true) (K (St.put ⟨n, t, b⟩ (some d) (St.ev ⟨n, t, b⟩ x)))) := by simp [wpOp, wpAt, evOp, needsFresh, andK]
@[go_sem] theorem wpOp_binOp {op : BinOp} {T' T'' : TypeId} {x y : Operand} : wpOp P ⟨some d, .binOp op T' x y T'', T, pos, af, g⟩ ⟨n, t, b⟩ K = andK (d < n) (evBinOp P op T' (St.ev ⟨n, t, b⟩ x) (St.ev ⟨n, t, b⟩ y) fun r => K (St.put ⟨n, t, b⟩ (some d) r)) := by simp [wpOp, wpAt, evOp, needsFresh, andK]
@[go_sem] theorem wpOp_unOp {op : UnOp} {T' : TypeId} {x : Operand} : wpOp P ⟨some d, .unOp op T' x, T, pos, af, g⟩ ⟨n, t, b⟩ K = andK (d < n) (evUn op (St.ev ⟨n, t, b⟩ x) fun r => K (St.put ⟨n, t, b⟩ (some d) r)) := by simp [wpOp, wpAt, evOp, needsFresh, andK]
@[go_sem] theorem wpOp_convert {T' T'' : TypeId} {x : Operand} : wpOp P ⟨some d, .convert T' T'' x, T, pos, af, g⟩ ⟨n, t, b⟩ K = andK (d < n) (evConv P T' T'' (St.ev ⟨n, t, b⟩ x) fun r => K (St.put ⟨n, t, b⟩ (some d) r)) := by simp [wpOp, wpAt, evOp, needsFresh, andK]
@[go_sem] theorem wpOp_slice {T' : TypeId} {x : Operand} {lo hi mx : Option Operand} : wpOp P ⟨some d, .slice T' x lo hi mx, T, pos, af, g⟩ ⟨n, t, b⟩ K = andK (d < n) (evSlice P T' (St.ev ⟨n, t, b⟩ x) (lo.map (St.ev ⟨n, t, b⟩)) (hi.map (St.ev ⟨n, t, b⟩)) (mx.map (St.ev ⟨n, t, b⟩)) fun r => K (St.put ⟨n, t, b⟩ (some d) r)) := by simp [wpOp, wpAt, evOp, needsFresh, andK]
@[go_sem] theorem wpOp_fieldAddr {T' : TypeId} {x : Operand} {f : Nat} : wpOp P ⟨some d, .fieldAddr T' x f, T, pos, af, g⟩ ⟨n, t, b⟩ K = andK (d < n) (evFieldAddr P T' (St.ev ⟨n, t, b⟩ x) f fun r => K (St.put ⟨n, t, b⟩ (some d) r)) := by simp [wpOp, wpAt, evOp, needsFresh, andK]
@[go_sem] theorem wpOp_indexAddr {T' : TypeId} {x i : Operand} : wpOp P ⟨some d, .indexAddr T' x i, T, pos, af, g⟩ ⟨n, t, b⟩ K = andK (d < n) (evIndexAddr P T' (St.ev ⟨n, t, b⟩ x) (St.ev ⟨n, t, b⟩ i) fun r => K (St.put ⟨n, t, b⟩ (some d) r)) := by simp [wpOp, wpAt, evOp, needsFresh, andK]
@[go_sem] theorem wpOp_index {T' : TypeId} {x i : Operand} : wpOp P ⟨some d, .index T' x i, T, pos, af, g⟩ ⟨n, t, b⟩ K = andK (d < n) (evIndex P T' (St.ev ⟨n, t, b⟩ x) (St.ev ⟨n, t, b⟩ i) fun r => K (St.put ⟨n, t, b⟩ (some d) r)) := by simp [wpOp, wpAt, evOp, needsFresh, andK]
@[go_sem] theorem wpOp_extract {x : Operand} {i : Nat} : wpOp P ⟨some d, .extract x i, T, pos, af, g⟩ ⟨n, t, b⟩ K = andK (d < n) (evExtract (St.ev ⟨n, t, b⟩ x) i fun r => K (St.put ⟨n, t, b⟩ (some d) r)) := by simp [wpOp, wpAt, evOp, needsFresh, andK]
def evParts (σ : St) : List (Nat × Operand) -> List (Nat × AV)
 | [] => []
 | (i, x) :: r => (i, σ.ev x) :: evParts σ r
theorem evParts_eq (σ : St) : ∀ l, evParts σ l = l.map fun p => (p.1, σ.ev p.2)
 | [] => rfl
 | (i, x) :: r => by simp [evParts, evParts_eq σ r]
def evAll (σ : St) : List Operand -> List AV
 | [] => []
 | x :: r => σ.ev x :: evAll σ r
theorem evAll_eq (σ : St) : ∀ l, evAll σ l = l.map σ.ev
 | [] => rfl
 | x :: r => by simp [evAll, evAll_eq σ r]
@[go_sem] theorem wpOp_build {T' : TypeId} {ps : List (Nat × Operand)} : wpOp P ⟨some d, .build T' ps.toArray, T, pos, af, g⟩ ⟨n, t, b⟩ K = andK (d < n) (evBuild P T' (evParts ⟨n, t, b⟩ ps) fun r => K (St.put ⟨n, t, b⟩ (some d) r)) := by simp [wpOp, wpAt, evOp, needsFresh, andK, evParts_eq]
@[go_sem] theorem frz_nil {σ : St} : St.frz σ [] = σ := rfl
@[go_sem] theorem frz_cons {t : Nat} {ts : List Nat} {σ : St} : St.frz σ (t :: ts) = σ.map (freezeLeaf fun u => (t :: ts).contains u) := rfl
def buildK (P : Program) (d : Nat) (T : TypeId) (len : Nat) (ps : List (Nat × Operand)) (σ : St) (K : St -> Prop) : Prop :=
 σ.free d = true /\ evBuildSlice P d T len (evParts σ ps) fun r => K (σ.put (some d) r)
@[congr] theorem buildK_congr {d : Nat} {T : TypeId} {len : Nat} {ps : List (Nat × Operand)} {σ σ' : St} {K : St -> Prop} (h : mkd σ = σ') : buildK P d T len ps σ K = buildK P d T len ps σ' K := by subst_vars; rfl
@[go_sem] theorem buildK_mk {d : Nat} {T : TypeId} {len : Nat} {ps : List (Nat × Operand)} {K : St -> Prop} : buildK P d T len ps ⟨n, t, b⟩ K = andK (St.free ⟨n, t, b⟩ d = true) (evBuildSlice P d T len (evParts ⟨n, t, b⟩ ps) fun r => K (St.put ⟨n, t, b⟩ (some d) r)) := rfl
def evVals (σ : St) : List (Nat × Operand) -> List AV
 | [] => []
 | (_, x) :: r => σ.ev x :: evVals σ r
theorem evVals_eq (σ : St) : ∀ l, evVals σ l = l.map fun p => σ.ev p.2
 | [] => rfl
 | (i, x) :: r => by simp [evVals, evVals_eq σ r]
attribute [go_sem] evVals
@[congr] theorem keepSel_congr {l l' : List AV} {k1 : Nat -> Nat -> List AV -> Prop} {k2 : Prop} (h : mkd l = l') : keepSel l k1 k2 = keepSel l' k1 k2 := by subst_vars; rfl
@[go_sem] theorem keepSel_nil {k1 : Nat -> Nat -> List AV -> Prop} {k2 : Prop} : keepSel [] k1 k2 = k2 := rfl
@[go_sem] theorem keepSel_two {x y : AV} {l : List AV} {k1 : Nat -> Nat -> List AV -> Prop} {k2 : Prop} : keepSel (x :: y :: l) k1 k2 = k2 := by cases x <;> rfl
@[go_sem] theorem keepSel_sl {t0 es : Nat} {zs : List AV} {k1 : Nat -> Nat -> List AV -> Prop} {k2 : Prop} : keepSel [.sl t0 es zs] k1 k2 = onB (decide (1048576 <= t0) || decide (2 <= t0) && keepHints.contains t0) (k1 t0 es zs) k2 := by simp [keepSel, onB, keepTag]
attribute [go_sem] keepHints
@[go_sem] theorem keepSel_sc {v : Value} {k1 : Nat -> Nat -> List AV -> Prop} {k2 : Prop} : keepSel [.sc v] k1 k2 = k2 := rfl
@[go_sem] theorem keepSel_ub {k1 : Nat -> Nat -> List AV -> Prop} {k2 : Prop} : keepSel [.ub] k1 k2 = k2 := rfl
@[go_sem] theorem keepSel_nil1 {k1 : Nat -> Nat -> List AV -> Prop} {k2 : Prop} : keepSel [.nil] k1 k2 = k2 := rfl
@[go_sem] theorem keepSel_ag {cs : List AV} {k1 : Nat -> Nat -> List AV -> Prop} {k2 : Prop} : keepSel [.ag cs] k1 k2 = k2 := rfl
@[go_sem] theorem keepSel_fn {f : FuncId} {cs : List AV} {k1 : Nat -> Nat -> List AV -> Prop} {k2 : Prop} : keepSel [.fn f cs] k1 k2 = k2 := rfl
@[go_sem] theorem keepSel_so {t0 : Nat} {cs : List AV} {k1 : Nat -> Nat -> List AV -> Prop} {k2 : Prop} : keepSel [.so t0 cs] k1 k2 = k2 := rfl
@[go_sem] theorem keepSel_pb {i o : Nat} {k1 : Nat -> Nat -> List AV -> Prop} {k2 : Prop} : keepSel [.pb i o] k1 k2 = k2 := rfl
@[go_sem] theorem keepSel_any {k1 : Nat -> Nat -> List AV -> Prop} {k2 : Prop} : keepSel [.any] k1 k2 = k2 := rfl
@[go_sem] theorem wpOp_buildSlice {T' : TypeId} {len : Nat} {ps : List (Nat × Operand)} : wpOp P ⟨some d, .buildSlice T' len ps.toArray, T, pos, af, g⟩ ⟨n, t, b⟩ K = andK (d < n) (keepSel (evVals ⟨n, t, b⟩ ps) (keepK P d T' len ps ⟨n, t, b⟩ K) (buildK P d T' len ps (St.frz ⟨n, t, b⟩ (tagss (evVals ⟨n, t, b⟩ ps))) K)) := by rw [evVals_eq]; unfold buildK; rw [evParts_eq]; rfl
@[go_sem] theorem wpOp_makeSlice {T' : TypeId} {l c : Operand} : wpOp P ⟨some d, .makeSlice T' l c, T, pos, af, g⟩ ⟨n, t, b⟩ K = andK (d < n) (andK (St.free ⟨n, t, b⟩ d = true) (evMake P d T' (St.ev ⟨n, t, b⟩ l) (St.ev ⟨n, t, b⟩ c) fun r => K (St.put ⟨n, t, b⟩ (some d) r))) := by simp [wpOp, wpAt, evOp, needsFresh, andK]
def allFz : List AV -> Bool
 | [] => true
 | x :: r => fzLeaf x && allFz r
theorem allFz_eq : ∀ l, allFz l = l.all fzLeaf
 | [] => rfl
 | x :: r => by simp [allFz, allFz_eq r]
def allCap : List AV -> Bool
 | [] => true
 | x :: r => capOk x && allCap r
theorem allCap_eq : ∀ l, allCap l = l.all capOk
 | [] => rfl
 | x :: r => by simp [allCap, allCap_eq r]
attribute [go_sem] allCap capOk
@[go_sem] theorem wpOp_makeFunc {f : FuncId} {caps : List Operand} : wpOp P ⟨some d, .makeFunc (.func f) (List.toArray []) caps.toArray, T, pos, af, g⟩ ⟨n, t, b⟩ K = andK (d < n) (onB (allFz (evAll ⟨n, t, b⟩ caps)) (K (St.put ⟨n, t, b⟩ (some d) (.fn f (evAll ⟨n, t, b⟩ caps)))) (andK (allCap (evAll ⟨n, t, b⟩ caps) = true) (K (St.put ⟨n, t, b⟩ (some d) (.cl f (evAll ⟨n, t, b⟩ caps)))))) := by
 simp [wpOp, wpAt, evOp, needsFresh, andK, onB, allFz_eq, allCap_eq, evAll_eq, List.all_map, Function.comp_def]
@[go_sem] theorem wpOp_makeMap {T' : TypeId} : wpOp P ⟨some d, .makeMap T' none, T, pos, af, g⟩ ⟨n, t, b⟩ K = andK (d < n) (andK (St.free ⟨n, t, b⟩ d = true) (evMakeMap P d T' fun r => K (St.put ⟨n, t, b⟩ (some d) r))) := by simp [wpOp, wpAt, evOp, needsFresh, andK]
@[go_sem] theorem wpOp_lookup {T' : TypeId} {x y : Operand} : wpOp P ⟨some d, .lookup T' x y false, T, pos, af, g⟩ ⟨n, t, b⟩ K = andK (d < n) (evLookup P T' (St.ev ⟨n, t, b⟩ x) (St.ev ⟨n, t, b⟩ y) fun r => K (St.put ⟨n, t, b⟩ (some d) r)) := by simp [wpOp, wpAt, evOp, needsFresh, andK]
@[go_sem] theorem wpOp_mapUpdate {T' : TypeId} {m x y : Operand} : wpOp P ⟨none, .mapUpdate T' m x y, T, pos, af, g⟩ ⟨n, t, b⟩ K = evMapPut P T' ⟨n, t, b⟩ (St.ev ⟨n, t, b⟩ m) (St.ev ⟨n, t, b⟩ x) (St.ev ⟨n, t, b⟩ y) K := rfl
@[go_sem] theorem wpOp_clear {x : Operand} {T' : TypeId} : wpOp P ⟨none, .call ⟨.builtin .clear, [x].toArray, [T'].toArray⟩, T, pos, af, g⟩ ⟨n, t, b⟩ K = evClear P T' ⟨n, t, b⟩ (St.ev ⟨n, t, b⟩ x) K := rfl
@[congr] theorem evClear_congr {T : TypeId} {σ σ' : St} {x x' : AV} {K : St -> Prop} (h : mkd σ = σ') (h0 : x = x') : evClear P T σ x K = evClear P T σ' x' K := by subst_vars; rfl
@[go_sem] theorem wpOp_insert {T' : TypeId} {m x y : Operand} : wpOp P ⟨none, .insert T' m x y, T, pos, af, g⟩ ⟨n, t, b⟩ K = evMapPut P T' ⟨n, t, b⟩ (St.ev ⟨n, t, b⟩ m) (St.ev ⟨n, t, b⟩ x) (St.ev ⟨n, t, b⟩ y) K := rfl
def onMap (d : Option TypeDesc) (k : TypeId -> TypeId -> Prop) : Prop := ∃ a b, d = some (.map a b) /\ k a b
@[congr] theorem onMap_congr {d d' : Option TypeDesc} {k : TypeId -> TypeId -> Prop} (h : mkd d = d') : onMap d k = onMap d' k := by subst_vars; rfl
@[go_sem] theorem onMap_some (a b : TypeId) (k : TypeId -> TypeId -> Prop) : onMap (some (.map a b)) k = k a b := by
 unfold onMap
 apply propext
 constructor
 ·rintro ⟨a', b', h, hk⟩; cases h; exact hk
 ·intro h; exact ⟨a, b, rfl, h⟩
@[go_sem] theorem evMakeMap_eq {T' : TypeId} {K : AV -> Prop} : evMakeMap P d T' K = onMap (P.underlying T') fun k e => K (.mp (64 * (d + 1)) P k e (.map [])) := by
 unfold evMakeMap onMap
 apply propext
 constructor
 ·intro h
  split at h
  ·rename_i k e hT; exact ⟨k, e, hT, h⟩
  ·exact h.elim
 ·rintro ⟨k, e, hT, h⟩
  rw [hT]; exact h
@[go_sem] theorem evLenM_sl {T' : TypeId} {K : AV -> Prop} {t' es : Nat} {xs : List AV} : evLenM P T' (.sl t' es xs) K = evLen P T' (.sl t' es xs) K := rfl
@[go_sem] theorem evLenM_tl {T' : TypeId} {K : AV -> Prop} {t' es i : Nat} {xs : List AV} : evLenM P T' (.tl t' es xs i) K = evLen P T' (.tl t' es xs i) K := rfl
@[go_sem] theorem evLenM_so {T' : TypeId} {K : AV -> Prop} {t' : Nat} {xs : List AV} : evLenM P T' (.so t' xs) K = evLen P T' (.so t' xs) K := rfl
@[go_sem] theorem evLenM_nil {T' : TypeId} {K : AV -> Prop} : evLenM P T' .nil K = evLen P T' .nil K := rfl
@[go_sem] theorem evLenM_sc {T' : TypeId} {K : AV -> Prop} {v : Value} : evLenM P T' (.sc v) K = evLen P T' (.sc v) K := rfl
@[go_sem] theorem evLenM_ag {T' : TypeId} {K : AV -> Prop} {cs : List AV} : evLenM P T' (.ag cs) K = evLen P T' (.ag cs) K := rfl
@[go_sem] theorem evLenM_mp {T' : TypeId} {K : AV -> Prop} {t' : Nat} {P' : Program} {k e : TypeId} {D : DataW Unit} : evLenM P T' (.mp t' P' k e D) K = andK (isMap (P.underlying T') = true) (K (.sc (.int .i64 (mapLen D)))) := rfl
attribute [go_sem] isMap
theorem evLookup_str {T' : TypeId} {K : AV -> Prop} {t' : Nat} {k e : TypeId} {D : DataW Unit} {s : ByteArray} {q : Nat × Nat × Option Value} (hT : P.underlying T' = some (.map k e)) (hk : P.underlying k = some .string) (he : P.underlying e = some .bool)
  (hq : tinfo P e = some q) (hz : q.2.2 = some (.bool false)) (hs : s.size <= 9223372036854775807) (h : K (.sc (.bool (boolAt D (.string s.data.toList))))) : evLookup P T' (.mp t' P k e D) (.sc (.string s)) K := by
 unfold evLookup
 refine ⟨rfl, hT, by rw [hk]; rfl, _, Go.WideMaps.keyOf_string_mk hk (by unfold maxLen; omega), q, hq, ?_⟩
 rw [he]; exact ⟨hz, h⟩
theorem evMapPut_str {T' : TypeId} {σ : St} {K : St -> Prop} {t' : Nat} {k e : TypeId} {D : DataW Unit} {s : ByteArray} {x : Bool} (hT : P.underlying T' = some (.map k e)) (hk : P.underlying k = some .string) (he : P.underlying e = some .bool)
  (hs : s.size <= 9223372036854775807) (hl : mapLen D < 9223372036854775807) (h : K (σ.map (putMap t' P k e (D.put (.string s.data.toList) (.lit (.bool x)))))) : evMapPut P T' σ (.mp t' P k e D) (.sc (.string s)) (.sc (.bool x)) K := by
 unfold evMapPut
 exact ⟨rfl, hT, by rw [hk]; rfl, hl, _, _, Go.WideMaps.keyOf_string_mk hk (by unfold maxLen; omega), plainElem_bool he x, h⟩
@[go_sem] theorem wpOp_len {x : Operand} {T' : TypeId} : wpOp P ⟨some d, .call ⟨.builtin .len, [x].toArray, [T'].toArray⟩, T, pos, af, g⟩ ⟨n, t, b⟩ K = andK (d < n) (evLenM P T' (St.ev ⟨n, t, b⟩ x) fun r => K (St.put ⟨n, t, b⟩ (some d) r)) := by simp [wpOp, wpAt, evOp, needsFresh, andK]
@[go_sem] theorem wpOp_cap {x : Operand} {T' : TypeId} : wpOp P ⟨some d, .call ⟨.builtin .cap, [x].toArray, [T'].toArray⟩, T, pos, af, g⟩ ⟨n, t, b⟩ K = andK (d < n) (evCap P T' (St.ev ⟨n, t, b⟩ x) fun r => K (St.put ⟨n, t, b⟩ (some d) r)) := by simp [wpOp, wpAt, evOp, needsFresh, andK]
@[go_sem] theorem wpOp_min {x y : Operand} {As : Array TypeId} : wpOp P ⟨some d, .call ⟨.builtin .min, [x, y].toArray, As⟩, T, pos, af, g⟩ ⟨n, t, b⟩ K = andK (d < n) (evMin (St.ev ⟨n, t, b⟩ x) (St.ev ⟨n, t, b⟩ y) fun r => K (St.put ⟨n, t, b⟩ (some d) r)) := by simp [wpOp, wpAt, evOp, needsFresh, andK]
@[go_sem] theorem wpOp_append {x y : Operand} {T' T'' : TypeId} : wpOp P ⟨some d, .call ⟨.builtin .append, [x, y].toArray, [T', T''].toArray⟩, T, pos, af, g⟩ ⟨n, t, b⟩ K = andK (d < n) (evAppend P T' T'' d ⟨n, t, b⟩ (St.ev ⟨n, t, b⟩ x) (St.ev ⟨n, t, b⟩ y) K) := by simp [wpOp, wpAt, andK]
@[go_sem] theorem wpOp_call {f : FuncId} {args : List Operand} {As : Array TypeId} : wpOp P ⟨some d, .call ⟨.value (.func f), args.toArray, As⟩, T, pos, af, g⟩ ⟨n, t, b⟩ K = andK (d < n) (CallU P f (evAll ⟨n, t, b⟩ args) d ⟨n, t, b⟩ K) := by simp [wpOp, wpAt, andK, St.ev, evAll_eq]
def CallF (P : Program) (f : AV) (args : List AV) (d : Nat) (σ : St) (K : St -> Prop) : Prop :=
 match f with
 | .fn fid caps => CallU P fid (args ++ caps) d σ K
 | .cl fid caps => CallU P fid (args ++ caps) d σ K
 | _ => False
@[congr] theorem CallF_congr {f f' : AV} {args args' : List AV} {d : Nat} {K : St -> Prop} {σ σ' : St} (h0 : mkd f = f') (h1 : args = args') (h : σ = σ') : CallF P f args d σ K = CallF P f' args' d σ' K := by subst_vars; rfl
@[go_sem] theorem CallF_fn {f : FuncId} {caps args : List AV} {d : Nat} {σ : St} {K : St -> Prop} : CallF P (.fn f caps) args d σ K = CallU P f (args ++ caps) d σ K := rfl
@[go_sem] theorem CallF_cl {f : FuncId} {caps args : List AV} {d : Nat} {σ : St} {K : St -> Prop} : CallF P (.cl f caps) args d σ K = CallU P f (args ++ caps) d σ K := rfl
@[go_sem] theorem wpOp_callF {f : Tmp} {args : List Operand} {As : Array TypeId} : wpOp P ⟨some d, .call ⟨.value (.tmp f), args.toArray, As⟩, T, pos, af, g⟩ ⟨n, t, b⟩ K = andK (d < n) (CallF P (lookT t f) (evAll ⟨n, t, b⟩ args) d ⟨n, t, b⟩ K) := by
 simp only [wpOp, wpAt, andK, St.ev, St.get, evAll_eq, CallF]; rfl
@[go_sem] theorem wpOp_box {T' : TypeId} {x : Operand} : wpOp P ⟨some d, .box T' x, T, pos, af, g⟩ ⟨n, t, b⟩ K = andK (d < n) (andK ((St.ev ⟨n, t, b⟩ x).one = true) (K (St.put ⟨n, t, b ++ [(St.ev ⟨n, t, b⟩ x).cells]⟩ (some d) (.pb b.length 0)))) := by simp [wpOp, wpAt, andK]
def evAlloc (P : Program) (T : TypeId) (K : List AV -> Prop) : Prop := caseO (tinfo P T) fun q => caseO q.2.2 fun z => andK ((z.cells.toList.all fun u => u.oneCell') = true) (K (ofConst z).cells)
@[go_sem] theorem wpOp_alloc {T' : TypeId} : wpOp P ⟨some d, .alloc T', T, pos, af, g⟩ ⟨n, t, b⟩ K = andK (d < n) (evAlloc P T' fun cs => K (St.put ⟨n, t, b ++ [cs]⟩ (some d) (.pb b.length 0))) := by
 apply propext
 simp only [wpOp, wpAt, andK, evAlloc, caseO]
 constructor
 ·rintro ⟨h1, q, z, h2, h3, h4, h5⟩; exact ⟨h1, q, h2, z, h3, h4, h5⟩
 ·rintro ⟨h1, q, h2, z, h3, h4, h5⟩; exact ⟨h1, q, z, h2, h3, h4, h5⟩
def storeK (P : Program) (T : TypeId) (x y : Operand) (σ : St) (K : St -> Prop) : Prop := evStore P T σ (σ.ev x) (σ.ev y) K
@[congr] theorem storeK_congr {T : TypeId} {x y : Operand} {σ σ' : St} {K : St -> Prop} (h : mkd σ = σ') : storeK P T x y σ K = storeK P T x y σ' K := by subst_vars; rfl
@[go_sem] theorem storeK_mk {T : TypeId} {x y : Operand} {K : St -> Prop} : storeK P T x y ⟨n, t, b⟩ K = evStore P T ⟨n, t, b⟩ (St.ev ⟨n, t, b⟩ x) (St.ev ⟨n, t, b⟩ y) K := rfl
@[go_sem] theorem stFrz_pe {t es i o : Nat} {xs : List AV} {x : AV} {σ : St} : stFrz σ (.pe t es xs i o) x = σ.frz x.tags := rfl
@[go_sem] theorem stFrz_pb {i o : Nat} {x : AV} {σ : St} : stFrz σ (.pb i o) x = σ := rfl
@[go_sem] theorem stFrz_po_sl {t i t' es : Nat} {xs ys : List AV} {σ : St} : stFrz σ (.po t xs i) (.sl t' es ys) = if 2 <= t' /\ root t' ≠ root t then σ.map (retagLeaf t' (subT t i)) else σ := rfl
@[go_sem] theorem stFrz_po_sc {t i : Nat} {xs : List AV} {v : Value} {σ : St} : stFrz σ (.po t xs i) (.sc v) = σ := rfl
@[go_sem] theorem stFrz_po_nil {t i : Nat} {xs : List AV} {σ : St} : stFrz σ (.po t xs i) .nil = σ := rfl
@[go_sem] theorem stFrz_po_ub {t i : Nat} {xs : List AV} {σ : St} : stFrz σ (.po t xs i) .ub = σ := rfl
@[go_sem] theorem wpOp_store {T' : TypeId} {x y : Operand} : wpOp P ⟨none, .store T' x y, T, pos, af, g⟩ ⟨n, t, b⟩ K = storeK P T' x y (stFrz ⟨n, t, b⟩ (St.ev ⟨n, t, b⟩ x) (St.ev ⟨n, t, b⟩ y)) K := by simp [wpOp, storeK]
end
theorem beqTF : (true == false) = false := rfl
theorem beqFT : (false == true) = false := rfl
theorem beqTT : (true == true) = true := rfl
theorem beqFF : (false == false) = true := rfl
attribute [go_sem] beqTF beqFT beqTT beqFF
theorem cast0 : ((0 : Nat) : Int) = 0 := rfl
theorem cast1 : ((1 : Nat) : Int) = 1 := rfl
attribute [go_sem] cast0 cast1 Int.cast_ofNat_Int
@[go_sem] theorem lit_lt_cast {a n : Nat} : ((no_index (OfNat.ofNat n : Int)) < (a : Int)) = ((OfNat.ofNat n : Nat) < a) := propext Int.ofNat_lt
@[go_sem] theorem cast_le_lit {a n : Nat} : ((a : Int) <= (no_index (OfNat.ofNat n : Int))) = (a <= (OfNat.ofNat n : Nat)) := propext Int.ofNat_le
@[go_sem] theorem lit_le_cast {a n : Nat} : ((no_index (OfNat.ofNat n : Int)) <= (a : Int)) = ((OfNat.ofNat n : Nat) <= a) := propext Int.ofNat_le
theorem cast_beq {a b : Nat} : ((a : Int) == (b : Int)) = decide (a = b) := by
 by_cases h : a = b
 ·subst h; simp
 ·have : (a : Int) ≠ b := by omega
  rw [decide_eq_false h]; exact beq_eq_false_iff_ne.2 this
attribute [go_sem] cast_beq
attribute [go_sem] Nat.reduceAdd Nat.reduceMul Nat.reduceEqDiff Nat.reduceLeDiff Nat.reduceLT Nat.reduceSub Nat.reduceDiv Nat.reduceBEq Int.reduceToNat Int.reduceLE Int.reduceLT Int.reduceAdd Int.reduceSub Int.reduceMul Int.reduceNeg if_true if_false Bool.false_eq_true decide_true decide_false Bool.and_true Bool.true_and Bool.and_false Bool.false_and Bool.or_true Bool.true_or Bool.or_false Bool.false_or Bool.not_true Bool.not_false and_true true_and not_true_eq_false not_false_eq_true ne_eq Option.isSome_some List.length_map List.length_cons List.length_nil List.getElem?_cons_zero List.getElem?_cons_succ List.map_cons List.map_nil Int.toNat_natCast Int.natCast_add List.append_nil Option.map_some Option.map_none List.size_toArray Int.natCast_nonneg Int.ofNat_lt Int.ofNat_le List.getElem?_map List.reverse_cons List.idxOf_cons beq_self_eq_true cond_true cond_false Nat.zero_le List.getElem?_toArray Option.bind_some Option.getD_some reduceCtorEq eq_self and_self false_and and_false List.all_cons List.all_nil bne_self_eq_false Int.reduceEq Int.reduceNe Int.reduceBNe Int.reduceBEq Nat.reduceBNe
section
variable {P : Program} {n : Nat} {t : List (Nat × AV)} {b : List (List AV)}
theorem root_small {t : Nat} (h : t < 1048576) : root t = t := Nat.mod_eq_of_lt h
theorem renT_small {ts : List Nat} {t : Nat} (h : t < 1048576) : renT ts t = 2 + ts.idxOf t := by unfold renT; rw [root_small h, Nat.div_eq_of_lt h]; rfl
theorem sub_lit {t i k : Nat} (h : k < 1048576) : (subT t i = k) = False := eq_false (fun e => by have := sub_big t i; omega)
theorem lit_sub {t i k : Nat} (h : k < 1048576) : (k = subT t i) = False := eq_false (fun e => by have := sub_big t i; omega)
theorem sub_sub {t i s j : Nat} : (subT t i = subT s j) = (t = s /\ i = j) := propext ⟨sub_inj, fun ⟨h1, h2⟩ => by rw [h1, h2]⟩
theorem sub_two {t i : Nat} : (2 <= subT t i) = True := eq_true (by have := sub_big t i; omega)
theorem sub_lt2 {t i : Nat} : (subT t i < 2) = False := eq_false (by have := sub_big t i; omega)
attribute [go_sem] root_small root_sub renT_small sub_lit lit_sub sub_sub sub_two sub_lt2
@[go_sem] theorem ev_tmp {s : Nat} : St.ev ⟨n, t, b⟩ (.tmp s) = lookT t s := rfl
@[go_sem] theorem ev_const {v : Value} : St.ev ⟨n, t, b⟩ (.const v) = ofLit v := rfl
@[go_sem] theorem ev_func {f : FuncId} : St.ev ⟨n, t, b⟩ (.func f) = .fn f [] := rfl
@[go_sem] theorem put_some {d : Nat} {x : AV} : St.put ⟨n, t, b⟩ (some d) x = ⟨n, putT t d x, b⟩ := rfl
@[go_sem] theorem put_none {x : AV} : St.put ⟨n, t, b⟩ none x = ⟨n, t, b⟩ := rfl
@[go_sem] theorem st_map {f : AV -> AV} : St.map ⟨n, t, b⟩ f = ⟨n, mapT f t, mapB f b⟩ := rfl
@[go_sem] theorem st_free {d : Nat} : St.free ⟨n, t, b⟩ d = (decide (d < 16383) && (freeT d t && freeB d b)) := rfl
attribute [go_sem] putMap lookT putT mapT mapB mapTops AV.mapTop freeT freeB AV.allLeaf allLeafs freeLeaf killLeaf freezeLeaf viewLeaf AV.view shiftLeaf shiftTag AV.shift dstOk evAll evParts allFz fzLeaf AV.fz AV.one AV.cells AV.leafy isPtr isFn ptrAdd idxOk partOk leafAll storeLeaf updAt updElem setSeg fillA zeroOk lt64 flatLeaf memless AV.tags tagss argT tupA AV.canon renLeaf pbLt noTag guardSlot leT leC leB leafConst renRow killRow killS lt64c shiftRow viewRow freezeRow retagRow retagLeaf putLeaf storeRow rowOk AV.rowLike flatRow Nat.reduceMod Nat.mul_zero Nat.add_zero
@[go_sem] theorem ofLit_int {k : IntKind} {i : Int} : ofLit (.int k i) = .sc (.int k i) := rfl
@[go_sem] theorem ofLit_bool {v : Bool} : ofLit (.bool v) = .sc (.bool v) := rfl
@[go_sem] theorem ofLit_string {s : ByteArray} : ofLit (.string s) = .sc (.string s) := rfl
@[go_sem] theorem ofLit_nil : ofLit (.slice none 0 0) = .nil := rfl
@[go_sem] theorem ofLit_pointer : ofLit (.pointer none) = .sc (.pointer none) := rfl
@[go_sem] theorem ofLit_nilFunc : ofLit .nilFunc = .sc .nilFunc := rfl
@[go_sem] theorem ofLit_agg {cs : Array Value} : ofLit (.agg cs) = if (cs.toList.all fun u => u.oneCell') = true then .ag (cs.toList.map leafConst) else .any := rfl
@[go_sem] theorem ofConst_agg {cs : Array Value} : ofConst (.agg cs) = .ag (cs.toList.map leafConst) := rfl
@[go_sem] theorem ofConst_int {k : IntKind} {i : Int} : ofConst (.int k i) = .sc (.int k i) := rfl
@[go_sem] theorem ofConst_bool {v : Bool} : ofConst (.bool v) = .sc (.bool v) := rfl
@[go_sem] theorem ofConst_string {s : ByteArray} : ofConst (.string s) = .sc (.string s) := rfl
@[go_sem] theorem ofConst_nil : ofConst (.slice none 0 0) = .nil := rfl
@[go_sem] theorem leafConst_int {k : IntKind} {i : Int} : leafConst (.int k i) = .sc (.int k i) := rfl
@[go_sem] theorem leafConst_bool {v : Bool} : leafConst (.bool v) = .sc (.bool v) := rfl
@[go_sem] theorem leafConst_string {s : ByteArray} : leafConst (.string s) = .sc (.string s) := rfl
@[go_sem] theorem leafConst_nil : leafConst (.slice none 0 0) = .nil := rfl
@[go_sem] theorem oneCell_int {k : IntKind} {i : Int} : Value.oneCell' (.int k i) = true := rfl
@[go_sem] theorem oneCell_bool {v : Bool} : Value.oneCell' (.bool v) = true := rfl
@[go_sem] theorem oneCell_string {s : ByteArray} : Value.oneCell' (.string s) = true := rfl
@[go_sem] theorem oneCell_slice {a : Option Addr} {l c : Nat} : Value.oneCell' (.slice a l c) = true := rfl
@[go_sem] theorem oneCell_pointer {a : Option Addr} : Value.oneCell' (.pointer a) = true := rfl
@[go_sem] theorem cells_int {k : IntKind} {i : Int} : Value.cells (.int k i) = #[.int k i] := rfl
@[go_sem] theorem cells_bool {v : Bool} : Value.cells (.bool v) = #[.bool v] := rfl
@[go_sem] theorem cells_string {s : ByteArray} : Value.cells (.string s) = #[.string s] := rfl
@[go_sem] theorem cells_slice {a : Option Addr} {l c : Nat} : Value.cells (.slice a l c) = #[.slice a l c] := rfl
@[go_sem] theorem cells_agg {cs : Array Value} : Value.cells (.agg cs) = cs := rfl
@[go_sem] theorem typed_sc {d : Nat} {T : TypeId} {v : Value} : typed P d T (.sc v) = .sc v := rfl
@[go_sem] theorem typed_sl {d : Nat} {T : TypeId} {t es : Nat} {xs : List AV} : typed P d T (.sl t es xs) = .sl t es xs := rfl
@[go_sem] theorem typed_mp {d : Nat} {T : TypeId} {P' : Program} {t : Nat} {k e : TypeId} {D : DataW Unit} : typed P d T (.mp t P' k e D) = .mp t P' k e D := rfl
@[go_sem] theorem typed_tl {d : Nat} {T : TypeId} {t es i : Nat} {xs : List AV} : typed P d T (.tl t es xs i) = .tl t es xs i := rfl
@[go_sem] theorem typed_so {d : Nat} {T : TypeId} {t : Nat} {xs : List AV} : typed P d T (.so t xs) = .so t xs := rfl
@[go_sem] theorem typed_po {d : Nat} {T : TypeId} {t i : Nat} {xs : List AV} : typed P d T (.po t xs i) = .po t xs i := rfl
@[go_sem] theorem typed_ag {d : Nat} {T : TypeId} {xs : List AV} : typed P d T (.ag xs) = .ag xs := rfl
@[go_sem] theorem typed_tup {d : Nat} {T : TypeId} {xs : List AV} : typed P d T (.tup xs) = .tup xs := rfl
@[go_sem] theorem typed_pb {d : Nat} {T : TypeId} {i o : Nat} : typed P d T (.pb i o) = .pb i o := rfl
@[go_sem] theorem typed_pe {d : Nat} {T : TypeId} {t es i o : Nat} {xs : List AV} : typed P d T (.pe t es xs i o) = .pe t es xs i o := rfl
@[go_sem] theorem typed_fn {d : Nat} {T : TypeId} {f : FuncId} {xs : List AV} : typed P d T (.fn f xs) = .fn f xs := rfl
@[go_sem] theorem typed_fp {d : Nat} {T : TypeId} {xs : List AV} {o : Nat} : typed P d T (.fp xs o) = .fp xs o := rfl
@[go_sem] theorem typed_ub {d : Nat} {T : TypeId} : typed P d T .ub = .ub := rfl
@[go_sem] theorem typed_any {d : Nat} {T : TypeId} : typed P d T .any = .any := rfl
@[go_sem] theorem typed_nil {d : Nat} {T : TypeId} : typed P d T .nil = .nil := rfl
@[go_sem] theorem le_mk {n' : Nat} {t' : List (Nat × AV)} {b' : List (List AV)} : St.le ⟨n, t, b⟩ ⟨n', t', b'⟩ = (n' = n /\ leT t t' /\ leB b b') := rfl
@[go_sem] theorem leV_self {x : AV} : leV x x = True := eq_true (leV_refl x)
@[go_sem] theorem leV_toAny {x : AV} : leV x .any = True := eq_true (leV_any x)
@[go_sem] theorem leV_toNil {t es : Nat} : leV .nil (.sl t es []) = True := eq_true (leV_nil t es)
theorem leV_int {k : IntKind} {x y : Int} (h : x = y) : leV (.sc (.int k x)) (.sc (.int k y)) := h ▸ leV_refl _
@[go_sem] theorem evBinOp_sc {op : BinOp} {T : TypeId} {u v : Value} {K : AV -> Prop} : evBinOp P op T (.sc u) (.sc v) K = evBin P op T u v fun r => K (.sc r) := rfl
def nilK (xs : List AV) (v : Bool) (K : AV -> Prop) : Prop := (xs = [] -> K .ub) /\ (xs ≠ [] -> K (.sc (.bool v)))
@[congr] theorem nilK_congr {xs xs' : List AV} {v : Bool} {K : AV -> Prop} (h : mkd xs = xs') : nilK xs v K = nilK xs' v K := by subst_vars; rfl
@[go_sem] theorem nilK_nil {v : Bool} {K : AV -> Prop} : nilK [] v K = K .ub := by simp [nilK]
@[go_sem] theorem nilK_cons {x : AV} {xs : List AV} {v : Bool} {K : AV -> Prop} : nilK (x :: xs) v K = K (.sc (.bool v)) := by simp [nilK]
@[go_sem] theorem evBinOp_eql_nil {T : TypeId} {t es : Nat} {xs : List AV} {K : AV -> Prop} : evBinOp P .eql T (.sl t es xs) .nil K = onSlice (P.underlying T) fun _ => nilK xs false K := by simp [evBinOp, onSlice, nilK]
def onPtr (d : Option TypeDesc) (k : TypeId -> Prop) : Prop := ∃ E, d = some (.pointer E) /\ k E
@[congr] theorem onPtr_congr {d d' : Option TypeDesc} {k : TypeId -> Prop} (h : mkd d = d') : onPtr d k = onPtr d' k := by subst_vars; rfl
def cellI (x y : Option AV) (K : Bool -> Prop) : Prop := match x, y with
 | some (.sc (.int k a)), some (.sc (.int k' b)) => k = k' /\ K (a == b)
 | _, _ => False
def cellB (x y : Option AV) (K : Bool -> Prop) : Prop := match x, y with
 | some (.sc (.bool a)), some (.sc (.bool b)) => K (a == b)
 | _, _ => False
@[go_sem] theorem cellI_some {k k' : IntKind} {a b : Int} {K : Bool -> Prop} : cellI (some (.sc (.int k a))) (some (.sc (.int k' b))) K = andK (k = k') (K (a == b)) := rfl
@[go_sem] theorem cellB_some {a b : Bool} {K : Bool -> Prop} : cellB (some (.sc (.bool a))) (some (.sc (.bool b))) K = K (a == b) := rfl
@[go_sem] theorem eqCK_nil {xs ys : List AV} {K : Bool -> Prop} : eqCK xs ys [] K = K true := rfl
@[go_sem] theorem eqCK_int {xs ys : List AV} {o : Nat} {r : List (Nat × Bool)} {K : Bool -> Prop} : eqCK xs ys ((o, true) :: r) K = cellI xs[o]? ys[o]? fun c => eqCK xs ys r fun c' => K (c && c') := by
 rw [eqCK]
 generalize xs[o]? = x
 generalize ys[o]? = y
 unfold cellI
 split
 ·rfl
 ·rename_i h
  split
  ·exact (h _ _ _ _ rfl rfl).elim
  ·rfl
@[go_sem] theorem evBinOp_neq_ag {T : TypeId} {xs ys : List AV} {K : AV -> Prop} : evBinOp P .neq T (.ag xs) (.ag ys) K = caseO (flatF P T) fun l => eqCK xs ys l fun c => K (.sc (.bool (!c))) := by simp [evBinOp, caseO]
section
variable {T : TypeId} {k k' : IntKind} {x y : Int} {K : Value -> Prop}
@[go_sem] theorem evBin_add : evBin P .add T (.int k x) (.int k' y) K = andK (k = k') (K (.int k (k.wrap (x + y)))) := rfl
@[go_sem] theorem evBin_sub : evBin P .sub T (.int k x) (.int k' y) K = andK (k = k') (K (.int k (k.wrap (x - y)))) := rfl
@[go_sem] theorem evBin_mul : evBin P .mul T (.int k x) (.int k' y) K = andK (k = k') (K (.int k (k.wrap (x * y)))) := rfl
@[go_sem] theorem evBin_quo : evBin P .quo T (.int k x) (.int k' y) K = andK (k = k') (y ≠ 0 /\ K (.int k (k.wrap (x.tdiv y)))) := rfl
@[go_sem] theorem evBin_rem : evBin P .rem T (.int k x) (.int k' y) K = andK (k = k') (y ≠ 0 /\ K (.int k (x.tmod y))) := rfl
@[go_sem] theorem evBin_and : evBin P .and T (.int k x) (.int k' y) K = andK (k = k') (K (.int k (k.wrap (BitVec.ofInt k.bits x &&& BitVec.ofInt k.bits y).toNat))) := rfl
@[go_sem] theorem evBin_or : evBin P .or T (.int k x) (.int k' y) K = andK (k = k') (K (.int k (k.wrap (BitVec.ofInt k.bits x ||| BitVec.ofInt k.bits y).toNat))) := rfl
@[go_sem] theorem evBin_xor : evBin P .xor T (.int k x) (.int k' y) K = andK (k = k') (K (.int k (k.wrap (BitVec.ofInt k.bits x ^^^ BitVec.ofInt k.bits y).toNat))) := rfl
@[go_sem] theorem evBin_shl : evBin P .shl T (.int k x) (.int k' y) K = andK (0 <= y) (K (.int k (k.wrap (x * 2 ^ (min y.toNat k.bits))))) := rfl
@[go_sem] theorem evBin_shr : evBin P .shr T (.int k x) (.int k' y) K = andK (0 <= y) (K (.int k (x.fdiv (2 ^ (min y.toNat k.bits))))) := rfl
@[go_sem] theorem evBin_eql : evBin P .eql T (.int k x) (.int k' y) K = andK (k = k') (K (.bool (x == y))) := rfl
@[go_sem] theorem evBin_neq : evBin P .neq T (.int k x) (.int k' y) K = andK (k = k') (K (.bool (x != y))) := rfl
@[go_sem] theorem evBin_lss : evBin P .lss T (.int k x) (.int k' y) K = andK (k = k') (K (.bool (decide (x < y)))) := rfl
@[go_sem] theorem evBin_leq : evBin P .leq T (.int k x) (.int k' y) K = andK (k = k') (K (.bool (decide (x <= y)))) := rfl
@[go_sem] theorem evBin_gtr : evBin P .gtr T (.int k x) (.int k' y) K = andK (k = k') (K (.bool (decide (y < x)))) := rfl
@[go_sem] theorem evBin_geq : evBin P .geq T (.int k x) (.int k' y) K = andK (k = k') (K (.bool (decide (y <= x)))) := rfl
@[go_sem] theorem evBin_beql {u v : Bool} : evBin P .eql T (.bool u) (.bool v) K = andK (P.underlying T = some .bool) (K (.bool (u == v))) := rfl
@[go_sem] theorem evBin_bneq {u v : Bool} : evBin P .neq T (.bool u) (.bool v) K = andK (P.underlying T = some .bool) (K (.bool (!(u == v)))) := rfl
@[go_sem] theorem evBin_sadd {u v : ByteArray} : evBin P .add T (.string u) (.string v) K = (u.size + v.size <= 9223372036854775807 /\ K (.string (u ++ v))) := rfl
@[go_sem] theorem evBin_seql {u v : ByteArray} : evBin P .eql T (.string u) (.string v) K = K (.bool (u.toList == v.toList)) := rfl
@[go_sem] theorem evBin_sneq {u v : ByteArray} : evBin P .neq T (.string u) (.string v) K = K (.bool (!(u.toList == v.toList))) := rfl
@[go_sem] theorem evBin_slss {u v : ByteArray} : evBin P .lss T (.string u) (.string v) K = K (.bool (Op.bytesLess u.toList v.toList)) := rfl
@[go_sem] theorem evBin_sleq {u v : ByteArray} : evBin P .leq T (.string u) (.string v) K = K (.bool (Op.bytesLess u.toList v.toList || u.toList == v.toList)) := rfl
@[go_sem] theorem evBin_sgtr {u v : ByteArray} : evBin P .gtr T (.string u) (.string v) K = K (.bool (!(Op.bytesLess u.toList v.toList || u.toList == v.toList))) := rfl
@[go_sem] theorem evBin_sgeq {u v : ByteArray} : evBin P .geq T (.string u) (.string v) K = K (.bool (!(Op.bytesLess u.toList v.toList))) := rfl
end
section
variable {T : TypeId} {K : AV -> Prop}
@[go_sem] theorem evPart_eq {cs : List AV} {o : Nat} : evPart P T cs o K = caseO (aggT P T) fun a => onB a (caseO (tinfo P T) fun q => andK (o + q.1 <= cs.length) (K (.ag ((cs.drop o).take q.1)))) (caseO cs[o]? K) := by
 unfold evPart caseO onB andK
 cases aggT P T with
 | none => simp
 | some a => cases a with
  | false => simp
  | true => cases tinfo P T <;> simp
@[go_sem] theorem evLoad_pe {bx : List (List AV)} {t es i o : Nat} {xs : List AV} : evLoad P bx T (.pe t es xs i o) K = caseO xs[i]? fun x => evPart P T x.cells o K := by
 cases h : xs[i]? <;> simp [evLoad, cellsAt, h, caseO, evPart]
@[go_sem] theorem evLoad_pb {bx : List (List AV)} {i o : Nat} : evLoad P bx T (.pb i o) K = caseO bx[i]? fun cs => evPart P T cs o K := by
 cases h : bx[i]? <;> simp [evLoad, cellsAt, h, caseO, evPart]
@[go_sem] theorem evLoad_fp {bx : List (List AV)} {cs : List AV} {o : Nat} : evLoad P bx T (.fp cs o) K = evPart P T cs o K := rfl
@[go_sem] theorem evLoad_po {bx : List (List AV)} {t i : Nat} {xs : List AV} : evLoad P bx T (.po t xs i) K = caseO xs[i]? fun x => evPart P T [x] 0 K := by
 cases h : xs[i]? <;> simp [evLoad, cellsAt, h, caseO, evPart]
@[go_sem] theorem evIndexAddr_so {t : Nat} {xs : List AV} {k : IntKind} {i : Int} : evIndexAddr P T (.so t xs) (.sc (.int k i)) K =
  onSlice (P.underlying T) fun E => caseO (tinfo P E) fun q => (q.1 = 1 /\ 0 <= i /\ i < xs.length /\ K (.po t xs i.toNat)) := by
 unfold evIndexAddr onSlice caseO
 cases hU : P.underlying T with
 | none => simp
 | some D =>
  cases D <;> simp [isPtr]
  constructor
  ·rintro ⟨⟨a, b, h1⟩, h3⟩; exact ⟨1, ⟨a, b, h1⟩, rfl, h3⟩
  ·rintro ⟨_, ⟨a, b, h1⟩, rfl, h3⟩; exact ⟨⟨a, b, h1⟩, h3⟩
@[go_sem] theorem evIndexAddr_tl {t es i : Nat} {xs : List AV} {k : IntKind} {n : Int} : evIndexAddr P T (.tl t es xs i) (.sc (.int k n)) K =
  onSlice (P.underlying T) fun E => caseO (tinfo P E) fun q => andK (q.1 = es) (0 <= n /\ i + n < xs.length /\ K (.pe t es xs (i + n.toNat) 0)) := by
 unfold evIndexAddr onSlice caseO andK
 cases hU : P.underlying T with
 | none => simp
 | some D =>
  cases D <;> simp [isPtr]
  constructor
  ·rintro ⟨⟨a, b, h1⟩, h3⟩; exact ⟨_, ⟨a, b, h1⟩, rfl, h3⟩
  ·rintro ⟨_, ⟨a, b, h1⟩, rfl, h3⟩; exact ⟨⟨a, b, h1⟩, h3⟩
@[go_sem] theorem evIndexAddr_sl {t es : Nat} {xs : List AV} {k : IntKind} {i : Int} : evIndexAddr P T (.sl t es xs) (.sc (.int k i)) K =
  onSlice (P.underlying T) fun E => caseO (tinfo P E) fun q => andK (q.1 = es) (0 <= i /\ i < xs.length /\ K (.pe t es xs i.toNat 0)) := by
 unfold evIndexAddr onSlice caseO andK
 apply propext
 constructor
 ·intro h
  generalize hu : P.underlying T = u at h
  match u, hu, h with
  | none, _, h => exact h.elim
  | some d, hu, h =>
   cases d with
   | slice E => obtain ⟨⟨q, hq, h1⟩, h2⟩ := h; exact ⟨E, rfl, q, hq, h1, h2⟩
   | array len E => exact absurd h.1 (by simp [isPtr])
   | _ => exact h.elim
 ·rintro ⟨E, hT, q, hq, h1, h2⟩
  simp only [hT]
  exact ⟨⟨q, hq, h1⟩, h2⟩
theorem evIndexAddr_arr {x : AV} {k : IntKind} {i : Int} (hx : isPtr x = true) : evIndexAddr P T x (.sc (.int k i)) K =
  onArray (P.underlying T) fun len E => caseO (tinfo P E) fun q => (0 <= i /\ i < len /\ K (ptrAdd x (i.toNat * q.1))) := by
 cases x <;> simp only [isPtr, Bool.false_eq_true] at hx
 all_goals
  unfold evIndexAddr onArray caseO
  apply propext
  constructor
  ·intro h
   generalize hu : P.underlying T = u at h
   match u, hu, h with
   | none, _, h => exact h.elim
   | some d, hu, h =>
    cases d with
    | array len E => obtain ⟨_, h1, h2, q, hq, h3⟩ := h; exact ⟨len, E, rfl, q, hq, h1, h2, h3⟩
    | _ => exact h.elim
  ·rintro ⟨len, E, hT, q, hq, h1, h2, h3⟩
   simp only [hT]
   exact ⟨rfl, h1, h2, q, hq, h3⟩
@[go_sem] theorem evIndexAddr_pb {j o : Nat} {k : IntKind} {i : Int} : evIndexAddr P T (.pb j o) (.sc (.int k i)) K = onArray (P.underlying T) fun len E => caseO (tinfo P E) fun q => (0 <= i /\ i < len /\ K (ptrAdd (.pb j o) (i.toNat * q.1))) := evIndexAddr_arr rfl
@[go_sem] theorem evIndexAddr_pe {t es j o : Nat} {xs : List AV} {k : IntKind} {i : Int} : evIndexAddr P T (.pe t es xs j o) (.sc (.int k i)) K = onArray (P.underlying T) fun len E => caseO (tinfo P E) fun q => (0 <= i /\ i < len /\ K (ptrAdd (.pe t es xs j o) (i.toNat * q.1))) := evIndexAddr_arr rfl
@[go_sem] theorem evFieldAddr_eq {x : AV} {f : Nat} : evFieldAddr P T x f K = andK (isPtr x = true) (caseO (fieldOf P T f) fun p => caseO (tinfo P p.2) fun q => andK (q.1 ≠ 0) (K (ptrAdd x p.1))) := by
 unfold evFieldAddr andK caseO
 apply propext
 constructor
 ·rintro ⟨h1, p, h2, ⟨q, h3, h4⟩, h5⟩; exact ⟨h1, p, h2, q, h3, h4, h5⟩
 ·rintro ⟨h1, p, h2, q, h3, h4, h5⟩; exact ⟨h1, p, h2, ⟨q, h3, h4⟩, h5⟩
@[go_sem] theorem evField_ag {cs : List AV} {f : Nat} : evField P T (.ag cs) f K = caseO (fieldOf P T f) fun p => evPart P p.2 cs p.1 K := rfl
@[go_sem] theorem evIndex_ag {cs : List AV} {k : IntKind} {i : Int} : evIndex P T (.ag cs) (.sc (.int k i)) K = onArray (P.underlying T) fun len E => (0 <= i /\ i < len /\ caseO (tinfo P E) fun q => evPart P E cs (i.toNat * q.1) K) := by
 unfold evIndex onArray caseO
 apply propext
 constructor
 ·intro h
  simp only at h
  split at h
  ·rename_i len E cs' hT hx; cases hx; exact ⟨len, E, hT, h⟩
  ·rename_i hx; cases hx
  ·exact h.elim
 ·rintro ⟨len, E, hT, h⟩
  simp only [hT]; exact h
def isString (d : Option TypeDesc) : Bool := match d with | some .string => true | _ => false
@[go_sem] theorem isString_some : isString (some .string) = true := rfl
@[go_sem] theorem evIndex_str {s : ByteArray} {k : IntKind} {i : Int} : evIndex P T (.sc (.string s)) (.sc (.int k i)) K = andK (isString (P.underlying T) = true) (0 <= i /\ caseO s[i.toNat]? fun c => K (.sc (.int .u8 c.toNat))) := by
 unfold evIndex andK caseO isString
 apply propext
 constructor
 ·intro h
  simp only at h
  split at h
  ·rename_i hx; cases hx
  ·rename_i s' hT hx; cases hx; exact ⟨by rw [hT], h⟩
  ·exact h.elim
 ·rintro ⟨hT, h⟩
  split at hT
  ·rename_i hT'; simp only [hT']; exact h
  ·cases hT
@[go_sem] theorem evExtract_tup {xs : List AV} {i : Nat} : evExtract (.tup xs) i K = caseO xs[i]? K := rfl
@[go_sem] theorem evUn_not {v : Bool} : evUn .not (.sc (.bool v)) K = K (.sc (.bool (!v))) := rfl
@[go_sem] theorem evUn_not_ub : evUn .not .ub K = K .ub := rfl
@[go_sem] theorem evUn_neg {k : IntKind} {i : Int} : evUn .neg (.sc (.int k i)) K = K (.sc (.int k (k.wrap (0 - i)))) := rfl
def onInt (d : Option TypeDesc) (k : IntKind -> Prop) : Prop := ∃ i, d = some (.int i) /\ k i
@[congr] theorem onInt_congr {d d' : Option TypeDesc} {k : IntKind -> Prop} (h : mkd d = d') : onInt d k = onInt d' k := by subst_vars; rfl
@[go_sem] theorem onInt_some (i : IntKind) (k : IntKind -> Prop) : onInt (some (.int i)) k = k i := by simp [onInt]
@[go_sem] theorem evConv_int {s s' : TypeId} {k : IntKind} {i : Int} : evConv P s s' (.sc (.int k i)) K = onInt (P.underlying s) fun _ => onInt (P.underlying s') fun k' => K (.sc (.int k' (k'.wrap i))) := by
 unfold evConv onInt
 apply propext
 constructor
 ·intro h
  split at h
  ·rename_i h1 h2 hx; cases hx; exact ⟨_, h1, _, h2, h⟩
  ·rename_i hx; cases hx
  ·rename_i hx; cases hx
  ·exact h.elim
 ·rintro ⟨_, h1, _, h2, h⟩
  simp only [h1, h2]; exact h
@[go_sem] theorem evLen_sl {t es : Nat} {xs : List AV} : evLen P T (.sl t es xs) K = onSlice (P.underlying T) fun _ => K (.sc (.int .i64 xs.length)) := by
 unfold evLen onSlice
 cases hU : P.underlying T with
 | none => simp
 | some D => cases D <;> simp
@[go_sem] theorem evLen_tl {t es i : Nat} {xs : List AV} : evLen P T (.tl t es xs i) K = onSlice (P.underlying T) fun _ => K (.sc (.int .i64 (xs.length - i : Nat))) := by
 unfold evLen onSlice
 cases hU : P.underlying T with
 | none => simp
 | some D => cases D <;> simp
@[go_sem] theorem evLen_so {t : Nat} {xs : List AV} : evLen P T (.so t xs) K = onSlice (P.underlying T) fun _ => K (.sc (.int .i64 xs.length)) := by
 unfold evLen onSlice
 cases hU : P.underlying T with
 | none => simp
 | some D => cases D <;> simp
@[go_sem] theorem evLen_nil : evLen P T .nil K = onSlice (P.underlying T) fun _ => K (.sc (.int .i64 0)) := by
 unfold evLen onSlice
 cases hU : P.underlying T with
 | none => simp
 | some D => cases D <;> simp
@[go_sem] theorem evLen_str {s : ByteArray} : evLen P T (.sc (.string s)) K = andK (isString (P.underlying T) = true) (K (.sc (.int .i64 s.size))) := by
 unfold evLen andK isString
 cases hU : P.underlying T with
 | none => simp
 | some D => cases D <;> simp
@[go_sem] theorem evMax_int {k k' : IntKind} {x y : Int} : evMax (.sc (.int k x)) (.sc (.int k' y)) K = K (.sc (.int k (max x y))) := rfl
@[go_sem] theorem evMin_int {k k' : IntKind} {x y : Int} : evMin (.sc (.int k x)) (.sc (.int k' y)) K = K (.sc (.int k (min x y))) := rfl
@[go_sem] theorem evBound_none {n : Nat} {K : Nat -> Prop} : evBound none n K = K n := rfl
@[go_sem] theorem evBound_int {n : Nat} {k : IntKind} {i : Int} {K : Nat -> Prop} : evBound (some (.sc (.int k i))) n K = (0 <= i /\ K i.toNat) := rfl
@[go_sem] theorem evSlice_sl {t es : Nat} {xs : List AV} {lo hi : Option AV} : evSlice P T (.sl t es xs) lo hi none K = onSlice (P.underlying T) fun E => caseO (tinfo P E) fun q => andK (q.1 = es) (onB (decide (t < 2))
  (evBound hi xs.length fun h => evBound lo 0 fun l => (l <= h /\ h <= xs.length /\ K (.sl 0 es ((xs.take h).drop l))))
  (onB (hi.isNone && lo.isSome) (evBound lo 0 fun l => (l < xs.length /\ K (.tl t es xs l)))
  (evBound hi xs.length fun h => evBound lo 0 fun l => (l = 0 /\ h <= xs.length /\ K (.sl t es (xs.take h)))))) := by
 unfold evSlice onSlice caseO andK onB
 apply propext
 constructor
 ·intro h
  split at h
  ·rename_i E t' es' xs' hT hx; cases hx
   obtain ⟨⟨q, hq, h1⟩, h2⟩ := h; exact ⟨E, hT, q, hq, h1, by by_cases ht : t < 2 <;> by_cases hb : (hi.isNone && lo.isSome) = true <;> simp [ht, hb] at h2 ⊢ <;> exact h2⟩
  ·rename_i hx; cases hx
  ·rename_i hx; cases hx
  ·rename_i hx; cases hx
  ·exact h.elim
 ·rintro ⟨E, hT, q, hq, h1, h2⟩
  simp only [hT]; exact ⟨⟨q, hq, h1⟩, by by_cases ht : t < 2 <;> by_cases hb : (hi.isNone && lo.isSome) = true <;> simp [ht, hb] at h2 ⊢ <;> exact h2⟩
@[go_sem] theorem isSomeA_some {x : AV} : (some x).isSome = true := rfl
@[go_sem] theorem isSomeA_none : (none : Option AV).isSome = false := rfl
@[go_sem] theorem isNoneA_some {x : AV} : (some x).isNone = false := rfl
@[go_sem] theorem isNoneA_none : (none : Option AV).isNone = true := rfl
@[go_sem] theorem evSlice_sl3 {t es : Nat} {xs : List AV} {lo hi : Option AV} {m : AV} : evSlice P T (.sl t es xs) lo hi (some m) K = onSlice (P.underlying T) fun E => caseO (tinfo P E) fun q => andK (q.1 = es) (andK (t < 2)
  (andK (hi.isSome = true) (evBound (some m) 0 fun m => evBound hi 0 fun h => evBound lo 0 fun l => (m = h /\ l <= h /\ h <= xs.length /\ K (.sl 1 es ((xs.take h).drop l)))))) := by
 unfold evSlice onSlice caseO andK
 apply propext
 constructor
 ·intro h
  split at h
  ·rename_i E t' es' xs' hT hx; cases hx
   obtain ⟨⟨q, hq, h1⟩, h2⟩ := h
   by_cases ht : t < 2
   ·rw [if_pos ht] at h2; exact ⟨E, hT, q, hq, h1, ht, h2⟩
   ·rw [if_neg ht] at h2; cases h2.1
  ·rename_i hx; cases hx
  ·rename_i hx; cases hx
  ·rename_i hx; cases hx
  ·exact h.elim
 ·rintro ⟨E, hT, q, hq, h1, h2, h3⟩
  simp only [hT]; exact ⟨⟨q, hq, h1⟩, by rw [if_pos h2]; exact h3⟩
@[go_sem] theorem evSlice_nil {lo hi : Option AV} : evSlice P T .nil lo hi none K = onSlice (P.underlying T) fun E => andK ((tinfo P E).isSome = true) (evBound hi 0 fun h => evBound lo 0 fun l => (l = 0 /\ h = 0 /\ K .nil)) := by
 unfold evSlice onSlice andK
 apply propext
 constructor
 ·intro h
  split at h
  ·rename_i hx; cases hx
  ·rename_i hx; cases hx
  ·rename_i E hT _; obtain ⟨_, ⟨q, hq⟩, h⟩ := h; exact ⟨E, hT, by simp [hq], h⟩
  ·rename_i hx; cases hx
  ·exact h.elim
 ·rintro ⟨E, hT, hq, h⟩
  simp only [hT]
  obtain ⟨q, hq⟩ := Option.isSome_iff_exists.1 hq
  exact ⟨by simp, ⟨q, hq⟩, h⟩
@[go_sem] theorem evCap_nil : evCap P T .nil K = onSlice (P.underlying T) fun _ => K (.sc (.int .i64 0)) := by
 unfold evCap onSlice
 apply propext
 constructor
 ·intro h
  split at h
  ·rename_i hx; cases hx
  ·rename_i hT _; exact ⟨_, hT, h⟩
  ·exact h.elim
 ·rintro ⟨_, h1, h⟩
  simp only [h1]; exact h
def allPart (es : Nat) : List (Nat × AV) -> Bool
 | [] => true
 | p :: r => partOk es p.2 && allPart es r
theorem allPart_eq (es : Nat) : ∀ l, allPart es l = l.all fun p => partOk es p.2
 | [] => rfl
 | p :: r => by simp [allPart, allPart_eq es r]
attribute [go_sem] allPart
@[go_sem] theorem evBuildSlice_eq {d : Nat} {len : Nat} {ps : List (Nat × AV)} : evBuildSlice P d T len ps K = onSlice (P.underlying T) fun E => caseO (tinfo P E) fun q => andK (0 < q.1 /\ q.2.2.isSome = true /\ len * q.1 <= 16777216 /\ ps.length = len /\ idxOk 0 ps = true) (andK (allPart q.1 ps = true) (K (.sl (64 * (d + 1)) q.1 (ps.map (·.2))))) := by
 unfold evBuildSlice onSlice caseO andK
 simp only [allPart_eq]
 apply propext
 constructor
 ·intro h
  split at h
  ·rename_i E hT; obtain ⟨q, h1, h2, h3, h4, h5, h6, h7, h8⟩ := h; exact ⟨E, hT, q, h1, ⟨h2, h3, h4, h5, h6⟩, h7, h8⟩
  ·exact h.elim
 ·rintro ⟨E, hT, q, h1, ⟨h2, h3, h4, h5, h6⟩, h7, h8⟩
  simp only [hT]; exact ⟨q, h1, h2, h3, h4, h5, h6, h7, h8⟩
@[go_sem] theorem evMake_int {d : Nat} {k k' : IntKind} {l c : Int} : evMake P d T (.sc (.int k l)) (.sc (.int k' c)) K = onSlice (P.underlying T) fun E => caseO (tinfo P E) fun q => caseO q.2.2 fun z => andK (0 < q.1 /\ zeroOk q.1 z = true) (0 <= l /\ l <= c /\ (q.2.1 : Int) * c <= 281474976710656 /\ c <= 9223372036854775807 /\ K (.sl (64 * (d + 1)) q.1 (List.replicate l.toNat (ofConst z)))) := by
 unfold evMake onSlice caseO andK
 apply propext
 constructor
 ·intro h
  split at h
  ·rename_i E _ _ _ _ hT hx hy; cases hx; cases hy
   obtain ⟨q, h1, h2, h3, h4, h5, h6, z, h7, h8, h9⟩ := h; exact ⟨E, hT, q, h1, z, h7, ⟨h2, h8⟩, h3, h4, h5, h6, h9⟩
  ·exact h.elim
 ·rintro ⟨E, hT, q, h1, z, h7, ⟨h2, h8⟩, h3, h4, h5, h6, h9⟩
  simp only [hT]; exact ⟨q, h1, h2, h3, h4, h5, h6, z, h7, h8, h9⟩
@[go_sem] theorem evBuild_eq {ps : List (Nat × AV)} : evBuild P T ps K = caseO (tinfo P T) fun q => caseO (placesOf P T) fun places => caseO q.2.2 fun z => andK ((z.cells.toList.all fun u => u.oneCell') = true) (caseO (fillA (fun i => places[i]?) (ofConst z).cells ps) fun r => K (.ag r)) := by
 unfold evBuild caseO andK
 apply propext
 constructor
 ·rintro ⟨q, places, z, r, h1, h2, h3, h4, h5, h6⟩; exact ⟨q, h1, places, h2, z, h3, h4, r, h5, h6⟩
 ·rintro ⟨q, h1, places, h2, z, h3, h4, r, h5, h6⟩; exact ⟨q, places, z, r, h1, h2, h3, h4, h5, h6⟩
end
section
variable {T T' : TypeId} {d : Nat} {K : St -> Prop} {σ : St}
@[go_sem] theorem evAppend_sl {t es : Nat} {xs : List AV} {y : AV} : evAppend P T T' d σ (.sl t es xs) y K = onB (decide (2 <= t)) (evAppendOwn P T T' (.sl t es xs) y fun t r => K ((σ.map (killLeaf t)).put (some d) r)) (andK (σ.free d = true) (evAppendX P d T T' (.sl t es xs) y fun r => K (σ.put (some d) r))) := by
 unfold evAppend onB andK
 by_cases h : 2 <= t <;> simp [h]
@[go_sem] theorem evAppend_nil {y : AV} : evAppend P T T' d σ .nil y K = andK (σ.free d = true) (evAppendX P d T T' .nil y fun r => K (σ.put (some d) r)) := rfl
@[go_sem] theorem evAppend_tl {t es i : Nat} {xs : List AV} {y : AV} : evAppend P T T' d σ (.tl t es xs i) y K = evAppendTl P T T' (.tl t es xs i) y fun t r1 r2 => K ((σ.map (killLeaf t)).put (some d) r1) /\ K ((σ.map (killLeaf t)).put (some d) r2) := rfl
@[go_sem] theorem evAppend_so {t : Nat} {xs : List AV} {y : AV} : evAppend P T T' d σ (.so t xs) y K = evAppSo P T T' d σ t xs y K := rfl
@[go_sem] theorem evAppendX_sl {x : AV} {t es : Nat} {xs : List AV} {K : AV -> Prop} : evAppendX P d T T' x (.sl t es xs) K = evAppendNew P d T T' x (.sl t es xs) K := rfl
@[go_sem] theorem evAppendX_nil {x : AV} {K : AV -> Prop} : evAppendX P d T T' x .nil K = evAppendNew P d T T' x .nil K := rfl
@[go_sem] theorem evAppendX_int {x : AV} {k : IntKind} {n : Int} {K : AV -> Prop} : evAppendX P d T T' x (.sc (.int k n)) K = evAppendZ P d T T' x n K := rfl
@[go_sem] theorem evAppendZ_nil {n : Int} {K : AV -> Prop} : evAppendZ P d T T' .nil n K = onSlice (P.underlying T) fun E => onInt (P.underlying T') fun _ => caseO (tinfo P E) fun q => caseO q.2.2 fun z => andK (0 < q.1 /\ zeroOk q.1 z = true) (0 < n /\ n.toNat * q.2.1 <= 140737488355328 /\ n <= 9223372036854775807 /\ K (.sl (64 * (d + 1)) q.1 (List.replicate n.toNat (ofConst z)))) := by
 unfold evAppendZ onSlice onInt caseO andK
 apply propext
 constructor
 ·intro h
  split at h
  ·rename_i E k hT hT' _
   obtain ⟨q, h1, h2, h3, h4, h5, z, h6, h7, h8⟩ := h; exact ⟨E, hT, k, hT', q, h1, z, h6, ⟨h2, h7⟩, h3, h4, h5, h8⟩
  ·exact h.elim
 ·rintro ⟨E, hT, k, hT', q, h1, z, h6, ⟨h2, h7⟩, h3, h4, h5, h8⟩
  simp only [hT, hT']; exact ⟨q, h1, h2, h3, h4, h5, z, h6, h7, h8⟩
@[go_sem] theorem evAppendOwn_sl {t es t' es' : Nat} {xs ys : List AV} {K : Nat -> AV -> Prop} : evAppendOwn P T T' (.sl t es xs) (.sl t' es' ys) K = onSlice (P.underlying T) fun E => andK (T' = T) (caseO (tinfo P E) fun q => caseO q.2.2 fun z => andK (0 < q.1 /\ z.cells.size = q.1 /\ 2 <= t /\ t' ≠ t /\ es = q.1 /\ es' = q.1) (roomFor (xs.length + ys.length) q.2.1 /\ K t (.sl t es (xs ++ ys)))) := by
 unfold evAppendOwn onSlice caseO andK
 apply propext
 constructor
 ·intro h
  split at h
  ·rename_i E hT
   obtain ⟨h0, q, h1, h2, ⟨z, h3, h4⟩, h5, h6, h7, h8, h9, h10⟩ := h
   exact ⟨E, hT, h0, q, h1, z, h3, ⟨h2, h4, h5, h6, h7, h8⟩, h9, h10⟩
  ·exact h.elim
 ·rintro ⟨E, hT, h0, q, h1, z, h3, ⟨h2, h4, h5, h6, h7, h8⟩, h9, h10⟩
  simp only [hT]; exact ⟨h0, q, h1, h2, ⟨z, h3, h4⟩, h5, h6, h7, h8, h9, h10⟩
@[go_sem] theorem evAppendNew_nil_sl {t es : Nat} {ys : List AV} {K : AV -> Prop} : evAppendNew P d T T' .nil (.sl t es ys) K = onSlice (P.underlying T) fun E => andK (T' = T) (caseO (tinfo P E) fun q => caseO q.2.2 fun z => andK (0 < q.1 /\ z.cells.size = q.1 /\ es = q.1) (roomFor ys.length q.2.1 /\ K (.sl (64 * (d + 1)) es ys))) := by
 unfold evAppendNew onSlice caseO andK
 apply propext
 constructor
 ·intro h
  split at h
  ·rename_i E hT
   obtain ⟨h0, q, h1, h2, ⟨z, h3, h4⟩, h5, h6, h7⟩ := h
   exact ⟨E, hT, h0, q, h1, z, h3, ⟨h2, h4, h5⟩, h6, h7⟩
  ·exact h.elim
 ·rintro ⟨E, hT, h0, q, h1, z, h3, ⟨h2, h4, h5⟩, h6, h7⟩
  simp only [hT]; exact ⟨h0, q, h1, h2, ⟨z, h3, h4⟩, h5, h6, h7⟩
@[go_sem] theorem evAppendNew_sl_sl {t es t' es' : Nat} {xs ys : List AV} {K : AV -> Prop} : evAppendNew P d T T' (.sl t es xs) (.sl t' es' ys) K = onSlice (P.underlying T) fun E => andK (T' = T) (caseO (tinfo P E) fun q => caseO q.2.2 fun z => andK (0 < q.1 /\ z.cells.size = q.1 /\ t = 1 /\ es = q.1 /\ es' = q.1) (ys ≠ [] /\ roomFor (xs.length + ys.length) q.2.1 /\ K (.sl (64 * (d + 1)) es (xs ++ ys)))) := by
 unfold evAppendNew onSlice caseO andK
 apply propext
 constructor
 ·intro h
  split at h
  ·rename_i E hT
   obtain ⟨h0, q, h1, h2, ⟨z, h3, h4⟩, h5, h6, h7, h8, h9, h10⟩ := h
   exact ⟨E, hT, h0, q, h1, z, h3, ⟨h2, h4, h5, h6, h7⟩, h8, h9, h10⟩
  ·exact h.elim
 ·rintro ⟨E, hT, h0, q, h1, z, h3, ⟨h2, h4, h5, h6, h7⟩, h8, h9, h10⟩
  simp only [hT]; exact ⟨h0, q, h1, h2, ⟨z, h3, h4⟩, h5, h6, h7, h8, h9, h10⟩
@[go_sem] theorem evStore_pb {i o : Nat} {x : AV} {n : Nat} {t : List (Nat × AV)} {b : List (List AV)} : evStore P T ⟨n, t, b⟩ (.pb i o) x K = caseO b[i]? fun cs => caseO (tinfo P T) fun q => andK (x.cells.length = q.1 /\ x.one = true /\ o + q.1 <= cs.length) (K ⟨n, t, b.set i (setSeg cs o x.cells)⟩) := by
 unfold evStore caseO andK
 apply propext
 constructor
 ·rintro ⟨cs, q, h1, h2, h3, h4, h5, h6⟩; exact ⟨cs, h1, q, h2, ⟨h3, h4, h5⟩, h6⟩
 ·rintro ⟨cs, h1, q, h2, ⟨h3, h4, h5⟩, h6⟩; exact ⟨cs, q, h1, h2, h3, h4, h5, h6⟩
@[go_sem] theorem evStore_pe {t es i o : Nat} {xs : List AV} {x : AV} : evStore P T σ (.pe t es xs i o) x K = caseO (tinfo P T) fun q => andK (2 <= t /\ x.cells.length = q.1 /\ 0 < q.1 /\ o + q.1 <= es /\ x.fz = true /\ x.one = true /\ leafAll x.cells = true) (K (σ.map (storeLeaf t es i o x.cells))) := by
 unfold evStore caseO andK
 apply propext
 constructor
 ·rintro ⟨h0, q, h1, h2, h3, h4, h5, h6, h7, h8⟩; exact ⟨q, h1, ⟨h0, h2, h3, h4, h5, h6, h7⟩, h8⟩
 ·rintro ⟨q, h1, ⟨h0, h2, h3, h4, h5, h6, h7⟩, h8⟩; exact ⟨h0, q, h1, h2, h3, h4, h5, h6, h7, h8⟩
@[go_sem] theorem evStore_po {t i : Nat} {xs : List AV} {x : AV} : evStore P T σ (.po t xs i) x K = caseO (tinfo P T) fun q => andK (q.1 = 1 /\ x.one = true /\ rowOk t x = true) (K (σ.map (putLeaf t i x))) := by
 unfold evStore caseO andK
 apply propext
 constructor
 ·rintro ⟨q, h1, h2, h3, h4, h5⟩; exact ⟨q, h1, ⟨h2, h3, h4⟩, h5⟩
 ·rintro ⟨q, h1, ⟨h2, h3, h4⟩, h5⟩; exact ⟨q, h1, h2, h3, h4, h5⟩
attribute [go_sem] evAlloc
end
@[go_sem] theorem resK_nil {K : List AV -> Prop} : resK P ⟨n, t, b⟩ [] K = K [] := rfl
@[go_sem] theorem resK_tmp {s : Nat} {r : List ResultVar} {K : List AV -> Prop} : resK P ⟨n, t, b⟩ (.tmp s :: r) K = resK P ⟨n, t, b⟩ r fun l => K (lookT t s :: l) := rfl
@[go_sem] theorem resK_cell {s : Nat} {T : TypeId} {r : List ResultVar} {K : List AV -> Prop} : resK P ⟨n, t, b⟩ (.cell s T :: r) K = evLoad P b T (lookT t s) fun x => resK P ⟨n, t, b⟩ r fun l => K (x :: l) := rfl
def finK (m : Nat) (post : AV -> List (List AV) -> Prop) (b : List (List AV)) (l : List AV) : Prop :=
 m <= b.length /\ (tupA l).allLeaf (pbLt m) = true /\ (tupA l).tags.length < 1000 /\ ((b.take m).all fun cs => cs.all fun x => x.allLeaf fun y => noTag y && pbLt m y) = true /\ post (tupA l).canon (b.take m)
@[congr] theorem finK_congr {m : Nat} {post : AV -> List (List AV) -> Prop} {b b' : List (List AV)} {l l' : List AV} (h : mkd b = b') (h1 : l = l') : finK m post b l = finK m post b' l' := by subst_vars; rfl
@[go_sem] theorem endK_eq {rs : List ResultVar} {m : Nat} {post : AV -> List (List AV) -> Prop} : endK P rs m post ⟨n, t, b⟩ = resK P ⟨n, t, b⟩ rs (finK m post b) := rfl
def allNoTag (m : Nat) : List (List AV) -> Bool
 | [] => true
 | cs :: r => allLeafs (fun y => noTag y && pbLt m y) cs && allNoTag m r
theorem allLeafs_all (q : AV -> Bool) : ∀ cs : List AV, (cs.all fun x => x.allLeaf q) = allLeafs q cs
 | [] => rfl
 | x :: r => by simp [allLeafs, allLeafs_all q r]
theorem allNoTag_eq (m : Nat) : ∀ b : List (List AV), (b.all fun cs => cs.all fun x => x.allLeaf fun y => noTag y && pbLt m y) = allNoTag m b
 | [] => rfl
 | cs :: r => by rw [List.all_cons, allLeafs_all, allNoTag_eq m r]; rfl
@[go_sem] theorem finK_one {m : Nat} {post : AV -> List (List AV) -> Prop} {x : AV} : finK m post b [x] = andK (m <= b.length) (andK (x.allLeaf (pbLt m) = true) (andK (x.tags.length < 1000) (andK (allNoTag m (b.take m) = true) (post x.canon (b.take m))))) := by
 simp only [finK, allNoTag_eq, andK, tupA]
@[go_sem] theorem finK_nil {m : Nat} {post : AV -> List (List AV) -> Prop} : finK m post b [] = andK (m <= b.length) (andK (allNoTag m (b.take m) = true) (post (.tup []) (b.take m))) := by
 simp [finK, allNoTag_eq, andK, tupA, AV.allLeaf, allLeafs, AV.canon, AV.mapTop, mapTops, AV.tags, tagss]
@[go_sem] theorem finK_two {m : Nat} {post : AV -> List (List AV) -> Prop} {x y : AV} {l : List AV} : finK m post b (x :: y :: l) = andK (m <= b.length) (andK (allLeafs (pbLt m) (x :: y :: l) = true) (andK ((tagss (x :: y :: l)).length < 1000) (andK (allNoTag m (b.take m) = true) (post (AV.tup (x :: y :: l)).canon (b.take m))))) := by
 simp only [finK, allNoTag_eq, andK, tupA, AV.allLeaf, AV.tags]
def finW (post : AV -> List AV -> Prop) (b : List (List AV)) (l : List AV) : Prop :=
 ∃ ys rest, b = ys :: rest /\ allLeafs (pbLt 0) (tupA l :: ys) = true /\ (tagss (tupA l :: ys)).length < 1000 /\ post ((tupA l).mapTop (renLeaf (tagss (tupA l :: ys)))) (mapTops (renLeaf (tagss (tupA l :: ys))) ys)
@[congr] theorem finW_congr {post : AV -> List AV -> Prop} {b b' : List (List AV)} {l l' : List AV} (h : mkd b = b') (h1 : l = l') : finW post b l = finW post b' l' := by subst_vars; rfl
@[go_sem] theorem endQW_normal {rs : List ResultVar} {post : AV -> List AV -> Prop} {σ : St} : endQW P rs post .normal σ = endW P rs post σ := rfl
@[go_sem] theorem endQW_ret {rs : List ResultVar} {post : AV -> List AV -> Prop} {σ : St} : endQW P rs post .ret σ = endW P rs post σ := rfl
@[go_sem] theorem endW_eq {rs : List ResultVar} {post : AV -> List AV -> Prop} : endW P rs post ⟨n, t, b⟩ = resK P ⟨n, t, b⟩ rs (finW post b) := rfl
@[go_sem] theorem finW_cons {post : AV -> List AV -> Prop} {ys : List AV} {r : List (List AV)} {l : List AV} : finW post (ys :: r) l = andK (allLeafs (pbLt 0) (tupA l :: ys) = true) (andK ((tagss (tupA l :: ys)).length < 1000) (post ((tupA l).mapTop (renLeaf (tagss (tupA l :: ys)))) (mapTops (renLeaf (tagss (tupA l :: ys))) ys))) := by
 unfold finW andK
 apply propext
 constructor
 ·rintro ⟨ys', r', h, h1, h2, h3⟩
  cases h; exact ⟨h1, h2, h3⟩
 ·rintro ⟨h1, h2, h3⟩
  exact ⟨ys, r, rfl, h1, h2, h3⟩
def finX (m : Nat) (post : AV -> List (List AV) -> Prop) (b : List (List AV)) (l : List AV) : Prop :=
 m <= b.length /\ allLeafs (pbLt m) (tupA l :: catB (b.take m)) = true /\ (tagss (tupA l :: catB (b.take m))).length < 1000 /\
  post ((tupA l).mapTop (renLeaf (tagss (tupA l :: catB (b.take m))))) (mapB (renLeaf (tagss (tupA l :: catB (b.take m)))) (b.take m))
@[congr] theorem finX_congr {m : Nat} {post : AV -> List (List AV) -> Prop} {b b' : List (List AV)} {l l' : List AV} (h : mkd b = b') (h1 : l = l') : finX m post b l = finX m post b' l' := by subst_vars; rfl
@[go_sem] theorem endQX_normal {rs : List ResultVar} {m : Nat} {post : AV -> List (List AV) -> Prop} {σ : St} : endQX P rs m post .normal σ = endX P rs m post σ := rfl
@[go_sem] theorem endQX_ret {rs : List ResultVar} {m : Nat} {post : AV -> List (List AV) -> Prop} {σ : St} : endQX P rs m post .ret σ = endX P rs m post σ := rfl
@[go_sem] theorem endX_eq {rs : List ResultVar} {m : Nat} {post : AV -> List (List AV) -> Prop} : endX P rs m post ⟨n, t, b⟩ = resK P ⟨n, t, b⟩ rs (finX m post b) := rfl
@[go_sem] theorem finX_cons {m : Nat} {post : AV -> List (List AV) -> Prop} {c : List AV} {b : List (List AV)} {l : List AV} : finX m post (c :: b) l = andK (m <= (c :: b).length) (andK (allLeafs (pbLt m) (tupA l :: catB ((c :: b).take m)) = true) (andK ((tagss (tupA l :: catB ((c :: b).take m))).length < 1000)
  (post ((tupA l).mapTop (renLeaf (tagss (tupA l :: catB ((c :: b).take m))))) (mapB (renLeaf (tagss (tupA l :: catB ((c :: b).take m)))) ((c :: b).take m))))) := rfl
attribute [go_sem] catB
attribute [go_sem] allNoTag List.take_zero List.take_succ_cons List.take_nil
end
end Go.AM
