/-
  An abstract machine over plain data: values without memory, and how they stand for the model's values. Nothing of a program is named here.
-/
import Derived.WalkKit
import Derived.Maps.Own
namespace Go.AM
open Go.RowKit

/-- Abstract values. 'sl t es xs': a slice of the elements xs, of es cells each; t = 0: it may be read for ever; t = 1: besides its capacity is its length; t from 2 on: the owner's tag. -/
inductive AV where
  | any
  | nil
  | ub
  | sc (v : Value)
  | sl (t es : Nat) (xs : List AV)
  | ag (cs : List AV)
  | tup (vs : List AV)
  | pb (i o : Nat)
  | pe (t es : Nat) (xs : List AV) (i o : Nat)
  | fn (f : FuncId) (caps : List AV)
  | fp (cs : List AV) (o : Nat)
  | so (t : Nat) (xs : List AV)
  | po (t : Nat) (xs : List AV) (i : Nat)
  | mp (t : Nat) (P : Program) (k e : TypeId) (D : DataW Unit)
  | cl (f : FuncId) (caps : List AV)
  | tl (t es : Nat) (xs : List AV) (i : Nat)
  deriving Inhabited

def AV.cells : AV → List AV
  | .ag cs => cs
  | x => [x]

def flat (xs : List AV) : List AV := xs.flatMap AV.cells

/-- pointwise -/
def PW {α β : Type} (R : α → β → Prop) (xs : List α) (ys : List β) : Prop :=
  xs.length = ys.length ∧ ∀ (j : Nat) x y, xs[j]? = some x → ys[j]? = some y → R x y

theorem PW.nil {α β : Type} (R : α → β → Prop) : PW R [] [] := ⟨rfl, fun j x y h => by simp at h⟩
theorem PW.cons {α β : Type} {R : α → β → Prop} {x : α} {y : β} {xs : List α} {ys : List β} (h : R x y) (t : PW R xs ys) : PW R (x :: xs) (y :: ys) := by
  refine ⟨by simp [t.1], fun j a b ha hb => ?_⟩
  cases j with
  | zero => simp at ha hb; subst ha; subst hb; exact h
  | succ j => exact t.2 j a b (by simpa using ha) (by simpa using hb)
theorem PW.cons_inv {α β : Type} {R : α → β → Prop} {x : α} {xs : List α} {vs : List β} (h : PW R (x :: xs) vs) : ∃ y ys, vs = y :: ys ∧ R x y ∧ PW R xs ys := by
  cases vs with
  | nil => have := h.1; simp at this
  | cons y ys => exact ⟨y, ys, rfl, h.2 0 x y rfl rfl, by have := h.1; simp at this; exact this, fun j a b ha hb => h.2 (j+1) a b (by simpa using ha) (by simpa using hb)⟩
theorem PW.nil_inv {α β : Type} {R : α → β → Prop} {vs : List β} (h : PW R [] vs) : vs = [] := by
  have := h.1; simp at this; exact List.eq_nil_of_length_eq_zero this.symm
theorem PW.mono {α β : Type} {R R' : α → β → Prop} {xs : List α} {ys : List β} (h : PW R xs ys) (hr : ∀ x y, x ∈ xs → R x y → R' x y) : PW R' xs ys :=
  ⟨h.1, fun j x y hx hy => hr x y (List.mem_of_getElem? hx) (h.2 j x y hx hy)⟩
theorem PW.append {α β : Type} {R : α → β → Prop} {xs xs' : List α} {ys ys' : List β} (h : PW R xs ys) (h' : PW R xs' ys') : PW R (xs ++ xs') (ys ++ ys') := by
  refine ⟨by simp [h.1, h'.1], fun j x y hx hy => ?_⟩
  by_cases hj : j < xs.length
  · rw [List.getElem?_append_left hj] at hx
    rw [List.getElem?_append_left (by rw [← h.1]; exact hj)] at hy
    exact h.2 j x y hx hy
  · rw [List.getElem?_append_right (by omega)] at hx
    rw [List.getElem?_append_right (by rw [← h.1]; omega), ← h.1] at hy
    exact h'.2 _ x y hx hy
theorem PW.take {α β : Type} {R : α → β → Prop} {xs : List α} {ys : List β} (h : PW R xs ys) (n : Nat) : PW R (xs.take n) (ys.take n) := by
  refine ⟨by simp [h.1], fun j x y hx hy => ?_⟩
  simp only [List.getElem?_take] at hx hy
  split at hx
  · rename_i hlt; rw [if_pos hlt] at hy; exact h.2 j x y hx hy
  · cases hx
theorem PW.drop {α β : Type} {R : α → β → Prop} {xs : List α} {ys : List β} (h : PW R xs ys) (n : Nat) : PW R (xs.drop n) (ys.drop n) := by
  refine ⟨by simp [h.1], fun j x y hx hy => ?_⟩
  simp only [List.getElem?_drop] at hx hy
  exact h.2 _ x y hx hy
theorem PW.set {α β : Type} {R : α → β → Prop} {xs : List α} {ys : List β} (h : PW R xs ys) (n : Nat) {x : α} {y : β} (hr : R x y) : PW R (xs.set n x) (ys.set n y) := by
  refine ⟨by simp [h.1], fun j a b ha hb => ?_⟩
  simp only [List.getElem?_set] at ha hb
  by_cases hj : n = j
  · subst hj
    simp only [if_true] at ha hb
    split at ha
    · split at hb
      · simp at ha hb; subst ha; subst hb; exact hr
      · cases hb
    · cases ha
  · rw [if_neg hj] at ha hb
    exact h.2 j a b ha hb

/-- each is the value of one cell -/
def One (vs : List Value) : Prop := ∀ u ∈ vs, u.oneCell' = true

/-- What an abstract value without an owner stands for, in a world of which the blocks in S are never written again. -/
inductive FRel (S : Nat → Prop) (w : World) : AV → Value → Prop
  | any (v : Value) : FRel S w .any v
  | nil : FRel S w .nil (.slice none 0 0)
  | ub (b : Bool) : FRel S w .ub (.bool b)
  | sc (v : Value) : FRel S w (.sc v) v
  | slNil (t es : Nat) (a : Option Addr) (c : Nat) : t < 2 → (t = 1 → c = 0) → (a = none → c = 0) → FRel S w (.sl t es []) (.slice a 0 c)
  | sl (t es : Nat) (xs : List AV) (b off c : Nat) (vals : List Value) : t < 2 → S b → (t = 1 → c = xs.length) → xs.length ≤ c → (∀ x ∈ xs, x.cells.length = es) →
      (flat xs).length = vals.length → One vals → (∀ j u, vals[j]? = some u → w.cell? ⟨b, off + j, none⟩ = some u) →
      (∀ (j : Nat) x u, (flat xs)[j]? = some x → vals[j]? = some u → FRel S w x u) → FRel S w (.sl t es xs) (.slice (some ⟨b, off, none⟩) xs.length c)
  | ag (cs : List AV) (vs : Array Value) : cs.length = vs.toList.length → One vs.toList → (∀ (j : Nat) x u, cs[j]? = some x → vs.toList[j]? = some u → FRel S w x u) → FRel S w (.ag cs) (.agg vs)
  | tup (cs : List AV) (vs : Array Value) : cs.length = vs.toList.length → (∀ (j : Nat) x u, cs[j]? = some x → vs.toList[j]? = some u → FRel S w x u) → FRel S w (.tup cs) (.tuple vs)
  | pe (t es : Nat) (xs : List AV) (i o b off c : Nat) : FRel S w (.sl t es xs) (.slice (some ⟨b, off, none⟩) xs.length c) → i < xs.length →
      FRel S w (.pe t es xs i o) (.pointer (some ⟨b, off + i * es + o, none⟩))
  | fn (f : FuncId) (caps : List AV) (vs : Array Value) : caps.length = vs.toList.length → (∀ (j : Nat) x u, caps[j]? = some x → vs.toList[j]? = some u → FRel S w x u) → FRel S w (.fn f caps) (.func (.func f) #[] vs)
  | fp (cs : List AV) (o b : Nat) (vals : List Value) : S b → cs.length = vals.length → One vals → (∀ j u, vals[j]? = some u → w.cell? ⟨b, j, none⟩ = some u) →
      (∀ (j : Nat) x u, cs[j]? = some x → vals[j]? = some u → FRel S w x u) → FRel S w (.fp cs o) (.pointer (some ⟨b, o, none⟩))

theorem FRel.mono {S S' : Nat → Prop} {w w' : World} {x : AV} {v : Value} (h : FRel S w x v) (hs : ∀ b, S b → S' b) (hw : ∀ b, S b → w'.heap[b]? = w.heap[b]?) : FRel S' w' x v := by
  induction h with
  | any v => exact .any v
  | nil => exact .nil
  | ub b => exact .ub b
  | sc v => exact .sc v
  | slNil t es a c h1 h2 h3 => exact .slNil t es a c h1 h2 h3
  | sl t es xs b off c vals h1 h2 h3 hc h4 h5 h0 h6 _ ih =>
    exact .sl t es xs b off c vals h1 (hs _ h2) h3 hc h4 h5 h0 (fun j u hj => by rw [World.cell?_of_block (w := w) (hw b h2)]; exact h6 j u hj) (fun j x u hx hu => ih j x u hx hu)
  | ag cs vs h1 h0 _ ih => exact .ag cs vs h1 h0 ih
  | tup cs vs h1 _ ih => exact .tup cs vs h1 ih
  | pe t es xs i o b off c _ hi ih => exact .pe t es xs i o b off c ih hi
  | fn f caps vs h1 _ ih => exact .fn f caps vs h1 ih
  | fp cs o b vals h1 h2 h0 h3 _ ih => exact .fp cs o b vals (hs _ h1) h2 h0 (fun j u hj => by rw [World.cell?_of_block (w := w) (hw b h1)]; exact h3 j u hj) ih

/-- What becomes of a block. -/
inductive Status where
  | stable
  | tag (t : Nat)
  | box (i : Nat)
  | junk
  deriving DecidableEq

def Stable (G : Nat → Status) (b : Nat) : Prop := G b = .stable

/-- what a closure holds: a pointer to a variable, or what is never written again -/
def CapRel (G : Nat → Status) (w : World) (x : AV) (v : Value) : Prop := (∃ i o b, x = .pb i o ∧ G b = .box i ∧ v = .pointer (some ⟨b, o, none⟩)) ∨ FRel (Stable G) w x v
theorem CapRel.mono {G G' : Nat → Status} {w w' : World} {x : AV} {v : Value} (h : CapRel G w x v) (hs : ∀ b, Stable G b → Stable G' b) (hw : ∀ b, Stable G b → w'.heap[b]? = w.heap[b]?) (hb : ∀ b i, G b = .box i → G' b = .box i) : CapRel G' w' x v := by
  rcases h with ⟨i, o, b, rfl, h1, rfl⟩ | h
  · exact .inl ⟨i, o, b, rfl, hb b i h1, rfl⟩
  · exact .inr (h.mono hs hw)

/-- what may be a row of a table -/
def AV.rowLike : AV → Bool
  | .any => true
  | .nil => true
  | .ub => true
  | .sc _ => true
  | .sl _ _ _ => true
  | _ => false

/-- a table's tag and its rows' tags are of one root -/
def root (t : Nat) : Nat := t % 1048576

/-- the row of a table: without an owner, or the table's own -/
inductive LRel (G : Nat → Status) (w : World) (r : Nat) : AV → Value → Prop
  | froz {x : AV} {v : Value} : FRel (Stable G) w x v → LRel G w r x v
  | own (t es : Nat) (xs : List AV) (v : Value) (e : TypeId) (vals : List Value) : 2 ≤ t → root t = r → w.ownsRow 0 e es v xs.length vals → (∀ b, v.ownBlock = some b → G b = .tag t) →
      (∀ x ∈ xs, x.cells.length = es) → One vals → PW (FRel (Stable G) w) (flat xs) vals → LRel G w r (.sl t es xs) v

inductive VRel (G : Nat → Status) (w : World) : AV → Value → Prop
  | froz {x : AV} {v : Value} : FRel (Stable G) w x v → VRel G w x v
  | own (t es : Nat) (xs : List AV) (v : Value) (e : TypeId) (vals : List Value) : 2 ≤ t → w.ownsRow 0 e es v xs.length vals → (∀ b, v.ownBlock = some b → G b = .tag t) →
      (∀ x ∈ xs, x.cells.length = es) → One vals → PW (FRel (Stable G) w) (flat xs) vals → VRel G w (.sl t es xs) v
  | ag (cs : List AV) (vs : Array Value) : cs.length = vs.toList.length → One vs.toList → (∀ (j : Nat) x u, cs[j]? = some x → vs.toList[j]? = some u → VRel G w x u) → VRel G w (.ag cs) (.agg vs)
  | tup (cs : List AV) (vs : Array Value) : cs.length = vs.toList.length → (∀ (j : Nat) x u, cs[j]? = some x → vs.toList[j]? = some u → VRel G w x u) → VRel G w (.tup cs) (.tuple vs)
  | pb (i o b : Nat) : G b = .box i → VRel G w (.pb i o) (.pointer (some ⟨b, o, none⟩))
  | pe (t es : Nat) (xs : List AV) (i o b off c : Nat) : VRel G w (.sl t es xs) (.slice (some ⟨b, off, none⟩) xs.length c) → i < xs.length →
      VRel G w (.pe t es xs i o) (.pointer (some ⟨b, off + i * es + o, none⟩))
  | so (t : Nat) (xs : List AV) (v : Value) (e : TypeId) (vals : List Value) : 2 ≤ t → w.ownsRow 0 e 1 v xs.length vals → (∀ b, v.ownBlock = some b → G b = .tag t) →
      (∀ x ∈ xs, x.rowLike = true) → One vals → PW (LRel G w (root t)) xs vals → VRel G w (.so t xs) v
  | po (t : Nat) (xs : List AV) (i b off c : Nat) : VRel G w (.so t xs) (.slice (some ⟨b, off, none⟩) xs.length c) → i < xs.length →
      VRel G w (.po t xs i) (.pointer (some ⟨b, off + i, none⟩))
  | cl (f : FuncId) (caps : List AV) (vs : Array Value) : PW (CapRel G w) caps vs.toList → VRel G w (.cl f caps) (.func (.func f) #[] vs)
  | tl (t es : Nat) (xs : List AV) (i b off off' c : Nat) : VRel G w (.sl t es xs) (.slice (some ⟨b, off, none⟩) xs.length c) → i ≤ xs.length → (off' = off + i * es ∨ c ≤ i) →
      VRel G w (.tl t es xs i) (.slice (some ⟨b, off', none⟩) (xs.length - i) (c - i))
  | mp (t : Nat) (P : Program) (k e : TypeId) (D : DataW Unit) (b n : Nat) : 2 ≤ t → G b = .tag t → w.ownsMap P k (plainElem P e) b n D → VRel G w (.mp t P k e D) (.map (some b))

/-- An additive step. -/
structure Ext (G : Nat → Status) (w : World) (G' : Nat → Status) (w' : World) : Prop where
  os : w'.os = w.os
  tape : w'.tape = w.tape
  output : w'.output = w.output
  size : w.heap.size ≤ w'.heap.size
  stat : ∀ b, b < w.heap.size → G' b = G b
  keep : ∀ b, b < w.heap.size → w'.heap[b]? = w.heap[b]?

structure Good (G : Nat → Status) (w : World) : Prop where
  lt : ∀ b, G b ≠ .junk → b < w.heap.size
  tags : ∀ b b' t, G b = .tag t → G b' = .tag t → b = b'
  boxes : ∀ b b' i, G b = .box i → G b' = .box i → b = b'

theorem Ext.refl (G : Nat → Status) (w : World) : Ext G w G w := ⟨rfl, rfl, rfl, Nat.le_refl _, fun _ _ => rfl, fun _ _ => rfl⟩
theorem Ext.trans {G w G' w' G'' w''} (h : Ext G w G' w') (k : Ext G' w' G'' w'') : Ext G w G'' w'' :=
  ⟨k.os.trans h.os, k.tape.trans h.tape, k.output.trans h.output, Nat.le_trans h.size k.size,
   fun b hb => (k.stat b (Nat.lt_of_lt_of_le hb h.size)).trans (h.stat b hb), fun b hb => (k.keep b (Nat.lt_of_lt_of_le hb h.size)).trans (h.keep b hb)⟩

theorem ownsRow_block {w : World} {base e size n : Nat} {v : Value} {xs : List Value} (h : w.ownsRow base e size v n xs) {b : Nat} (hb : v.ownBlock = some b) : b < w.heap.size := by
  rcases h.2 with ⟨hv, _⟩ | ⟨g, cap, cur, hv, _, hh, _⟩
  · subst hv; simp [Value.ownBlock] at hb
  · subst hv
    simp only [Value.ownBlock, Option.some.injEq] at hb
    subst hb
    rcases Nat.lt_or_ge g w.heap.size with h | h
    · exact h
    · simp [Array.getElem?_eq_none h] at hh

theorem ownsRow_congr {w w' : World} {base e size n : Nat} {v : Value} {xs : List Value} (h : w.ownsRow base e size v n xs) (hk : ∀ b, v.ownBlock = some b → w'.heap[b]? = w.heap[b]?) : w'.ownsRow base e size v n xs := by
  refine ⟨h.1, ?_⟩
  rcases h.2 with hv | ⟨g, cap, cur, hv, hg, hh, r⟩
  · exact .inl hv
  · exact .inr ⟨g, cap, cur, hv, hg, by rw [hk g (by rw [hv]; rfl)]; exact hh, r⟩

theorem ownsMap_congr {H : Type} {P : Program} {k : TypeId} {R : Value → Option (DataW H × List MemPlace)} {w w' : World} {b n : Nat} {D : DataW H} (h : w.ownsMap P k R b n D) (hb : w'.heap[b]? = w.heap[b]?) : w'.ownsMap P k R b n D := by
  obtain ⟨es, clock, h1, h2⟩ := h
  exact ⟨es, clock, by rw [hb]; exact h1, h2⟩

theorem LRel.mono {G G' : Nat → Status} {w w' : World} {r : Nat} {x : AV} {v : Value} (h : LRel G w r x v)
    (hs : ∀ b, G b ≠ .junk → G' b = G b) (hw : ∀ b, G b ≠ .junk → (∀ i, G b ≠ .box i) → w'.heap[b]? = w.heap[b]?) : LRel G' w' r x v := by
  have hS : ∀ b, Stable G b → Stable G' b := fun b hb => by unfold Stable at *; rw [hs b (by rw [hb]; simp), hb]
  have hW : ∀ b, Stable G b → w'.heap[b]? = w.heap[b]? := fun b hb => hw b (by unfold Stable at hb; rw [hb]; simp) (fun i => by unfold Stable at hb; rw [hb]; simp)
  cases h with
  | froz h => exact .froz (h.mono hS hW)
  | own t es xs v e vals h1 hr h2 h3 h4 h0 h5 =>
    refine .own t es xs v e vals h1 hr (ownsRow_congr h2 fun b hb => hw b (by rw [h3 b hb]; simp) (fun i => by rw [h3 b hb]; simp)) (fun b hb => ?_) h4 h0 (h5.mono fun x y _ hr => hr.mono hS hW)
    rw [hs b (by rw [h3 b hb]; simp)]; exact h3 b hb

theorem VRel.mono {G G' : Nat → Status} {w w' : World} {x : AV} {v : Value} (h : VRel G w x v)
    (hs : ∀ b, G b ≠ .junk → G' b = G b) (hw : ∀ b, G b ≠ .junk → (∀ i, G b ≠ .box i) → w'.heap[b]? = w.heap[b]?) : VRel G' w' x v := by
  have hS : ∀ b, Stable G b → Stable G' b := fun b hb => by unfold Stable at *; rw [hs b (by rw [hb]; simp), hb]
  have hW : ∀ b, Stable G b → w'.heap[b]? = w.heap[b]? := fun b hb => hw b (by unfold Stable at hb; rw [hb]; simp) (fun i => by unfold Stable at hb; rw [hb]; simp)
  induction h with
  | froz h => exact .froz (h.mono hS hW)
  | own t es xs v e vals h1 h2 h3 h4 h0 h5 =>
    refine .own t es xs v e vals h1 (ownsRow_congr h2 fun b hb => hw b (by rw [h3 b hb]; simp) (fun i => by rw [h3 b hb]; simp)) (fun b hb => ?_) h4 h0 (h5.mono fun x y _ hr => hr.mono hS hW)
    rw [hs b (by rw [h3 b hb]; simp)]; exact h3 b hb
  | ag cs vs h1 h0 _ ih => exact .ag cs vs h1 h0 ih
  | tup cs vs h1 _ ih => exact .tup cs vs h1 ih
  | pb i o b h => exact .pb i o b (by rw [hs b (by rw [h]; simp)]; exact h)
  | pe t es xs i o b off c _ hi ih => exact .pe t es xs i o b off c ih hi
  | so t xs v e vals h1 h2 h3 h4 h0 h5 =>
    refine .so t xs v e vals h1 (ownsRow_congr h2 fun b hb => hw b (by rw [h3 b hb]; simp) (fun i => by rw [h3 b hb]; simp)) (fun b hb => ?_) h4 h0 (h5.mono fun x y _ hr => hr.mono hs hw)
    rw [hs b (by rw [h3 b hb]; simp)]; exact h3 b hb
  | po t xs i b off c _ hi ih => exact .po t xs i b off c ih hi
  | cl f caps vs hp => exact .cl f caps vs (PW.mono hp fun x y _ hr => CapRel.mono hr hS hW fun b i hb => by rw [hs b (by rw [hb]; simp)]; exact hb)
  | tl t es xs i b off off' c _ hi ho ih => exact .tl t es xs i b off off' c ih hi ho
  | mp t P k e D b n h1 h2 h3 => exact .mp t P k e D b n h1 (by rw [hs b (by rw [h2]; simp)]; exact h2) (ownsMap_congr h3 (hw b (by rw [h2]; simp) (fun i => by rw [h2]; simp)))

/-- a map, in another world that leaves its block be -/
theorem VRel.mpMono {G G' : Nat → Status} {w w' : World} {t : Nat} {P : Program} {k e : TypeId} {D : DataW Unit} {v : Value} (h : VRel G w (.mp t P k e D) v) (hs : ∀ b, G b = .tag t → G' b = .tag t)
    (hw : ∀ b es cl, G b = .tag t → w.heap[b]? = some (.map es cl) → w'.heap[b]? = w.heap[b]?) : VRel G' w' (.mp t P k e D) v := by
  cases h with
  | froz h => cases h
  | mp _ _ _ _ _ b n h1 h2 h3 =>
    obtain ⟨es, cl, hb, r⟩ := h3
    exact .mp t P k e D b n h1 (hs b h2) (ownsMap_congr ⟨es, cl, hb, r⟩ (hw b es cl h2 hb))
theorem VRel.cl_inv {G : Nat → Status} {w : World} {f : FuncId} {caps : List AV} {v : Value} (h : VRel G w (.cl f caps) v) : ∃ vs : Array Value, v = .func (.func f) #[] vs ∧ PW (CapRel G w) caps vs.toList := by
  cases h with
  | froz h => cases h
  | cl _ _ vs h => exact ⟨vs, rfl, h⟩
theorem VRel.clMono {G G' : Nat → Status} {w w' : World} {f : FuncId} {caps : List AV} {v : Value} (h : VRel G w (.cl f caps) v) (hs : ∀ b, Stable G b → Stable G' b) (hw : ∀ b, Stable G b → w'.heap[b]? = w.heap[b]?)
    (hb : ∀ b i, G b = .box i → G' b = .box i) : VRel G' w' (.cl f caps) v := by
  obtain ⟨vs, rfl, hp⟩ := h.cl_inv
  exact .cl f caps vs (PW.mono hp fun x y _ hr => CapRel.mono hr hs hw hb)
theorem VRel.mp_two {G : Nat → Status} {w : World} {t : Nat} {P : Program} {k e : TypeId} {D : DataW Unit} {v : Value} (h : VRel G w (.mp t P k e D) v) : 2 ≤ t := by
  cases h with
  | froz h => cases h
  | mp _ _ _ _ _ _ _ h1 => exact h1

theorem VRel.ext {G G' : Nat → Status} {w w' : World} {x : AV} {v : Value} (h : VRel G w x v) (hg : Good G w) (he : Ext G w G' w') : VRel G' w' x v :=
  h.mono (fun b hb => he.stat b (hg.lt b hb)) (fun b hb _ => he.keep b (hg.lt b hb))

end Go.AM
