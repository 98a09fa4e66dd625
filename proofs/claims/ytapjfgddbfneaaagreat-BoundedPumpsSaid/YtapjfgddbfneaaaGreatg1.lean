/- AmA AmB AmC AmD AmE AmF AmG -/
import Derived.WalkKit
import Derived.Maps.Own
import Derived.Laws.BytesString
import Derived.Laws.CopyRow
import Derived.Laws.StructEq
namespace Go.AM
open Go.RowKit
inductive AV where
 | any
 | nil
 | ub
 | sc (v : Value)
 | sl (t es : Nat) (xs : List AV)
 | ag (cs : List AV)
 | tup (vs : List AV)
 | pb (i o : Nat)
 | pe (t es : Nat) (xs : List AV) (i o : Nat)
 | fn (f : FuncId) (caps : List AV)
 | fp (cs : List AV) (o : Nat)
 | so (t : Nat) (xs : List AV)
 | po (t : Nat) (xs : List AV) (i : Nat)
 | mp (t : Nat) (P : Program) (k e : TypeId) (D : DataW Unit)
 | cl (f : FuncId) (caps : List AV)
 | tl (t es : Nat) (xs : List AV) (i : Nat)
 deriving Inhabited
def AV.cells : AV -> List AV
 | .ag cs => cs
 | x => [x]
def flat (xs : List AV) : List AV := xs.flatMap AV.cells
def PW {α β : Type} (R : α -> β -> Prop) (xs : List α) (ys : List β) : Prop :=
 xs.length = ys.length /\ ∀ (j : Nat) x y, xs[j]? = some x -> ys[j]? = some y -> R x y
theorem PW.nil {α β : Type} (R : α -> β -> Prop) : PW R [] [] := ⟨rfl, fun j x y h => by simp at h⟩
theorem PW.cons {α β : Type} {R : α -> β -> Prop} {x : α} {y : β} {xs : List α} {ys : List β} (h : R x y) (t : PW R xs ys) : PW R (x :: xs) (y :: ys) := by
 refine ⟨by simp [t.1], fun j a b ha hb => ?_⟩
 cases j with
 | zero => simp at ha hb; subst ha; subst hb; exact h
 | succ j => exact t.2 j a b (by simpa using ha) (by simpa using hb)
theorem PW.cons_inv {α β : Type} {R : α -> β -> Prop} {x : α} {xs : List α} {vs : List β} (h : PW R (x :: xs) vs) : ∃ y ys, vs = y :: ys /\ R x y /\ PW R xs ys := by
 cases vs with
 | nil => have := h.1; simp at this
 | cons y ys => exact ⟨y, ys, rfl, h.2 0 x y rfl rfl, by have := h.1; simp at this; exact this, fun j a b ha hb => h.2 (j+1) a b (by simpa using ha) (by simpa using hb)⟩
theorem PW.nil_inv {α β : Type} {R : α -> β -> Prop} {vs : List β} (h : PW R [] vs) : vs = [] := by
 have := h.1; simp at this; exact List.eq_nil_of_length_eq_zero this.symm
theorem PW.mono {α β : Type} {R R' : α -> β -> Prop} {xs : List α} {ys : List β} (h : PW R xs ys) (hr : ∀ x y, x ∈ xs -> R x y -> R' x y) : PW R' xs ys :=
 ⟨h.1, fun j x y hx hy => hr x y (List.mem_of_getElem? hx) (h.2 j x y hx hy)⟩
theorem PW.append {α β : Type} {R : α -> β -> Prop} {xs xs' : List α} {ys ys' : List β} (h : PW R xs ys) (h' : PW R xs' ys') : PW R (xs ++ xs') (ys ++ ys') := by
 refine ⟨by simp [h.1, h'.1], fun j x y hx hy => ?_⟩
 by_cases hj : j < xs.length
 ·rw [List.getElem?_append_left hj] at hx
  rw [List.getElem?_append_left (by rw [<- h.1]; exact hj)] at hy
  exact h.2 j x y hx hy
 ·rw [List.getElem?_append_right (by omega)] at hx
  rw [List.getElem?_append_right (by rw [<- h.1]; omega), <- h.1] at hy
  exact h'.2 _ x y hx hy
theorem PW.take {α β : Type} {R : α -> β -> Prop} {xs : List α} {ys : List β} (h : PW R xs ys) (n : Nat) : PW R (xs.take n) (ys.take n) := by
 refine ⟨by simp [h.1], fun j x y hx hy => ?_⟩
 simp only [List.getElem?_take] at hx hy
 split at hx
 ·rename_i hlt; rw [if_pos hlt] at hy; exact h.2 j x y hx hy
 ·cases hx
theorem PW.drop {α β : Type} {R : α -> β -> Prop} {xs : List α} {ys : List β} (h : PW R xs ys) (n : Nat) : PW R (xs.drop n) (ys.drop n) := by
 refine ⟨by simp [h.1], fun j x y hx hy => ?_⟩
 simp only [List.getElem?_drop] at hx hy
 exact h.2 _ x y hx hy
theorem PW.set {α β : Type} {R : α -> β -> Prop} {xs : List α} {ys : List β} (h : PW R xs ys) (n : Nat) {x : α} {y : β} (hr : R x y) : PW R (xs.set n x) (ys.set n y) := by
 refine ⟨by simp [h.1], fun j a b ha hb => ?_⟩
 simp only [List.getElem?_set] at ha hb
 by_cases hj : n = j
 ·subst hj
  simp only [if_true] at ha hb
  split at ha
  ·split at hb
   ·simp at ha hb; subst ha; subst hb; exact hr
   ·cases hb
  ·cases ha
 ·rw [if_neg hj] at ha hb
  exact h.2 j a b ha hb
def One (vs : List Value) : Prop := ∀ u ∈ vs, u.oneCell' = true
inductive FRel (S : Nat -> Prop) (w : World) : AV -> Value -> Prop
 | any (v : Value) : FRel S w .any v
 | nil : FRel S w .nil (.slice none 0 0)
 | ub (b : Bool) : FRel S w .ub (.bool b)
 | sc (v : Value) : FRel S w (.sc v) v
 | slNil (t es : Nat) (a : Option Addr) (c : Nat) : t < 2 -> (t = 1 -> c = 0) -> (a = none -> c = 0) -> FRel S w (.sl t es []) (.slice a 0 c)
 | sl (t es : Nat) (xs : List AV) (b off c : Nat) (vals : List Value) : t < 2 -> S b -> (t = 1 -> c = xs.length) -> xs.length <= c -> (∀ x ∈ xs, x.cells.length = es) ->
   (flat xs).length = vals.length -> One vals -> (∀ j u, vals[j]? = some u -> w.cell? ⟨b, off + j, none⟩ = some u) ->
   (∀ (j : Nat) x u, (flat xs)[j]? = some x -> vals[j]? = some u -> FRel S w x u) -> FRel S w (.sl t es xs) (.slice (some ⟨b, off, none⟩) xs.length c)
 | ag (cs : List AV) (vs : Array Value) : cs.length = vs.toList.length -> One vs.toList -> (∀ (j : Nat) x u, cs[j]? = some x -> vs.toList[j]? = some u -> FRel S w x u) -> FRel S w (.ag cs) (.agg vs)
 | tup (cs : List AV) (vs : Array Value) : cs.length = vs.toList.length -> (∀ (j : Nat) x u, cs[j]? = some x -> vs.toList[j]? = some u -> FRel S w x u) -> FRel S w (.tup cs) (.tuple vs)
 | pe (t es : Nat) (xs : List AV) (i o b off c : Nat) : FRel S w (.sl t es xs) (.slice (some ⟨b, off, none⟩) xs.length c) -> i < xs.length ->
   FRel S w (.pe t es xs i o) (.pointer (some ⟨b, off + i * es + o, none⟩))
 | fn (f : FuncId) (caps : List AV) (vs : Array Value) : caps.length = vs.toList.length -> (∀ (j : Nat) x u, caps[j]? = some x -> vs.toList[j]? = some u -> FRel S w x u) -> FRel S w (.fn f caps) (.func (.func f) #[] vs)
 | fp (cs : List AV) (o b : Nat) (vals : List Value) : S b -> cs.length = vals.length -> One vals -> (∀ j u, vals[j]? = some u -> w.cell? ⟨b, j, none⟩ = some u) ->
   (∀ (j : Nat) x u, cs[j]? = some x -> vals[j]? = some u -> FRel S w x u) -> FRel S w (.fp cs o) (.pointer (some ⟨b, o, none⟩))
theorem FRel.mono {S S' : Nat -> Prop} {w w' : World} {x : AV} {v : Value} (h : FRel S w x v) (hs : ∀ b, S b -> S' b) (hw : ∀ b, S b -> w'.heap[b]? = w.heap[b]?) : FRel S' w' x v := by
 induction h with
 | any v => exact .any v
 | nil => exact .nil
 | ub b => exact .ub b
 | sc v => exact .sc v
 | slNil t es a c h1 h2 h3 => exact .slNil t es a c h1 h2 h3
 | sl t es xs b off c vals h1 h2 h3 hc h4 h5 h0 h6 _ ih =>
  exact .sl t es xs b off c vals h1 (hs _ h2) h3 hc h4 h5 h0 (fun j u hj => by rw [World.cell?_of_block (w := w) (hw b h2)]; exact h6 j u hj) (fun j x u hx hu => ih j x u hx hu)
 | ag cs vs h1 h0 _ ih => exact .ag cs vs h1 h0 ih
 | tup cs vs h1 _ ih => exact .tup cs vs h1 ih
 | pe t es xs i o b off c _ hi ih => exact .pe t es xs i o b off c ih hi
 | fn f caps vs h1 _ ih => exact .fn f caps vs h1 ih
 | fp cs o b vals h1 h2 h0 h3 _ ih => exact .fp cs o b vals (hs _ h1) h2 h0 (fun j u hj => by rw [World.cell?_of_block (w := w) (hw b h1)]; exact h3 j u hj) ih
inductive Status where
 | stable
 | tag (t : Nat)
 | box (i : Nat)
 | junk
 deriving DecidableEq
def Stable (G : Nat -> Status) (b : Nat) : Prop := G b = .stable
def CapRel (G : Nat -> Status) (w : World) (x : AV) (v : Value) : Prop := (∃ i o b, x = .pb i o /\ G b = .box i /\ v = .pointer (some ⟨b, o, none⟩)) \/ FRel (Stable G) w x v
theorem CapRel.mono {G G' : Nat -> Status} {w w' : World} {x : AV} {v : Value} (h : CapRel G w x v) (hs : ∀ b, Stable G b -> Stable G' b) (hw : ∀ b, Stable G b -> w'.heap[b]? = w.heap[b]?) (hb : ∀ b i, G b = .box i -> G' b = .box i) : CapRel G' w' x v := by
 rcases h with ⟨i, o, b, rfl, h1, rfl⟩ | h
 ·exact .inl ⟨i, o, b, rfl, hb b i h1, rfl⟩
 ·exact .inr (h.mono hs hw)
def AV.rowLike : AV -> Bool
 | .any => true
 | .nil => true
 | .ub => true
 | .sc _ => true
 | .sl _ _ _ => true
 | _ => false
def root (t : Nat) : Nat := t % 1048576
inductive LRel (G : Nat -> Status) (w : World) (r : Nat) : AV -> Value -> Prop
 | froz {x : AV} {v : Value} : FRel (Stable G) w x v -> LRel G w r x v
 | own (t es : Nat) (xs : List AV) (v : Value) (e : TypeId) (vals : List Value) : 2 <= t -> root t = r -> w.ownsRow 0 e es v xs.length vals -> (∀ b, v.ownBlock = some b -> G b = .tag t) ->
   (∀ x ∈ xs, x.cells.length = es) -> One vals -> PW (FRel (Stable G) w) (flat xs) vals -> LRel G w r (.sl t es xs) v
inductive VRel (G : Nat -> Status) (w : World) : AV -> Value -> Prop
 | froz {x : AV} {v : Value} : FRel (Stable G) w x v -> VRel G w x v
 | own (t es : Nat) (xs : List AV) (v : Value) (e : TypeId) (vals : List Value) : 2 <= t -> w.ownsRow 0 e es v xs.length vals -> (∀ b, v.ownBlock = some b -> G b = .tag t) ->
   (∀ x ∈ xs, x.cells.length = es) -> One vals -> PW (FRel (Stable G) w) (flat xs) vals -> VRel G w (.sl t es xs) v
 | ag (cs : List AV) (vs : Array Value) : cs.length = vs.toList.length -> One vs.toList -> (∀ (j : Nat) x u, cs[j]? = some x -> vs.toList[j]? = some u -> VRel G w x u) -> VRel G w (.ag cs) (.agg vs)
 | tup (cs : List AV) (vs : Array Value) : cs.length = vs.toList.length -> (∀ (j : Nat) x u, cs[j]? = some x -> vs.toList[j]? = some u -> VRel G w x u) -> VRel G w (.tup cs) (.tuple vs)
 | pb (i o b : Nat) : G b = .box i -> VRel G w (.pb i o) (.pointer (some ⟨b, o, none⟩))
 | pe (t es : Nat) (xs : List AV) (i o b off c : Nat) : VRel G w (.sl t es xs) (.slice (some ⟨b, off, none⟩) xs.length c) -> i < xs.length ->
   VRel G w (.pe t es xs i o) (.pointer (some ⟨b, off + i * es + o, none⟩))
 | so (t : Nat) (xs : List AV) (v : Value) (e : TypeId) (vals : List Value) : 2 <= t -> w.ownsRow 0 e 1 v xs.length vals -> (∀ b, v.ownBlock = some b -> G b = .tag t) ->
   (∀ x ∈ xs, x.rowLike = true) -> One vals -> PW (LRel G w (root t)) xs vals -> VRel G w (.so t xs) v
 | po (t : Nat) (xs : List AV) (i b off c : Nat) : VRel G w (.so t xs) (.slice (some ⟨b, off, none⟩) xs.length c) -> i < xs.length ->
   VRel G w (.po t xs i) (.pointer (some ⟨b, off + i, none⟩))
 | cl (f : FuncId) (caps : List AV) (vs : Array Value) : PW (CapRel G w) caps vs.toList -> VRel G w (.cl f caps) (.func (.func f) #[] vs)
 | tl (t es : Nat) (xs : List AV) (i b off off' c : Nat) : VRel G w (.sl t es xs) (.slice (some ⟨b, off, none⟩) xs.length c) -> i <= xs.length -> (off' = off + i * es \/ c <= i) ->
   VRel G w (.tl t es xs i) (.slice (some ⟨b, off', none⟩) (xs.length - i) (c - i))
 | mp (t : Nat) (P : Program) (k e : TypeId) (D : DataW Unit) (b n : Nat) : 2 <= t -> G b = .tag t -> w.ownsMap P k (plainElem P e) b n D -> VRel G w (.mp t P k e D) (.map (some b))
structure Ext (G : Nat -> Status) (w : World) (G' : Nat -> Status) (w' : World) : Prop where
 os : w'.os = w.os
 tape : w'.tape = w.tape
 output : w'.output = w.output
 size : w.heap.size <= w'.heap.size
 stat : ∀ b, b < w.heap.size -> G' b = G b
 keep : ∀ b, b < w.heap.size -> w'.heap[b]? = w.heap[b]?
structure Good (G : Nat -> Status) (w : World) : Prop where
 lt : ∀ b, G b ≠ .junk -> b < w.heap.size
 tags : ∀ b b' t, G b = .tag t -> G b' = .tag t -> b = b'
 boxes : ∀ b b' i, G b = .box i -> G b' = .box i -> b = b'
theorem Ext.refl (G : Nat -> Status) (w : World) : Ext G w G w := ⟨rfl, rfl, rfl, Nat.le_refl _, fun _ _ => rfl, fun _ _ => rfl⟩
theorem ownsRow_congr {w w' : World} {base e size n : Nat} {v : Value} {xs : List Value} (h : w.ownsRow base e size v n xs) (hk : ∀ b, v.ownBlock = some b -> w'.heap[b]? = w.heap[b]?) : w'.ownsRow base e size v n xs := by
 refine ⟨h.1, ?_⟩
 rcases h.2 with hv | ⟨g, cap, cur, hv, hg, hh, r⟩
 ·exact .inl hv
 ·exact .inr ⟨g, cap, cur, hv, hg, by rw [hk g (by rw [hv]; rfl)]; exact hh, r⟩
theorem ownsMap_congr {H : Type} {P : Program} {k : TypeId} {R : Value -> Option (DataW H × List MemPlace)} {w w' : World} {b n : Nat} {D : DataW H} (h : w.ownsMap P k R b n D) (hb : w'.heap[b]? = w.heap[b]?) : w'.ownsMap P k R b n D := by
 obtain ⟨es, clock, h1, h2⟩ := h
 exact ⟨es, clock, by rw [hb]; exact h1, h2⟩
theorem LRel.mono {G G' : Nat -> Status} {w w' : World} {r : Nat} {x : AV} {v : Value} (h : LRel G w r x v)
  (hs : ∀ b, G b ≠ .junk -> G' b = G b) (hw : ∀ b, G b ≠ .junk -> (∀ i, G b ≠ .box i) -> w'.heap[b]? = w.heap[b]?) : LRel G' w' r x v := by
 have hS : ∀ b, Stable G b -> Stable G' b := fun b hb => by unfold Stable at *; rw [hs b (by rw [hb]; simp), hb]
 have hW : ∀ b, Stable G b -> w'.heap[b]? = w.heap[b]? := fun b hb => hw b (by unfold Stable at hb; rw [hb]; simp) (fun i => by unfold Stable at hb; rw [hb]; simp)
 cases h with
 | froz h => exact .froz (h.mono hS hW)
 | own t es xs v e vals h1 hr h2 h3 h4 h0 h5 =>
  refine .own t es xs v e vals h1 hr (ownsRow_congr h2 fun b hb => hw b (by rw [h3 b hb]; simp) (fun i => by rw [h3 b hb]; simp)) (fun b hb => ?_) h4 h0 (h5.mono fun x y _ hr => hr.mono hS hW)
  rw [hs b (by rw [h3 b hb]; simp)]; exact h3 b hb
theorem VRel.mono {G G' : Nat -> Status} {w w' : World} {x : AV} {v : Value} (h : VRel G w x v)
  (hs : ∀ b, G b ≠ .junk -> G' b = G b) (hw : ∀ b, G b ≠ .junk -> (∀ i, G b ≠ .box i) -> w'.heap[b]? = w.heap[b]?) : VRel G' w' x v := by
 have hS : ∀ b, Stable G b -> Stable G' b := fun b hb => by unfold Stable at *; rw [hs b (by rw [hb]; simp), hb]
 have hW : ∀ b, Stable G b -> w'.heap[b]? = w.heap[b]? := fun b hb => hw b (by unfold Stable at hb; rw [hb]; simp) (fun i => by unfold Stable at hb; rw [hb]; simp)
 induction h with
 | froz h => exact .froz (h.mono hS hW)
 | own t es xs v e vals h1 h2 h3 h4 h0 h5 =>
  refine .own t es xs v e vals h1 (ownsRow_congr h2 fun b hb => hw b (by rw [h3 b hb]; simp) (fun i => by rw [h3 b hb]; simp)) (fun b hb => ?_) h4 h0 (h5.mono fun x y _ hr => hr.mono hS hW)
  rw [hs b (by rw [h3 b hb]; simp)]; exact h3 b hb
 | ag cs vs h1 h0 _ ih => exact .ag cs vs h1 h0 ih
 | tup cs vs h1 _ ih => exact .tup cs vs h1 ih
 | pb i o b h => exact .pb i o b (by rw [hs b (by rw [h]; simp)]; exact h)
 | pe t es xs i o b off c _ hi ih => exact .pe t es xs i o b off c ih hi
 | so t xs v e vals h1 h2 h3 h4 h0 h5 =>
  refine .so t xs v e vals h1 (ownsRow_congr h2 fun b hb => hw b (by rw [h3 b hb]; simp) (fun i => by rw [h3 b hb]; simp)) (fun b hb => ?_) h4 h0 (h5.mono fun x y _ hr => hr.mono hs hw)
  rw [hs b (by rw [h3 b hb]; simp)]; exact h3 b hb
 | po t xs i b off c _ hi ih => exact .po t xs i b off c ih hi
 | cl f caps vs hp => exact .cl f caps vs (PW.mono hp fun x y _ hr => CapRel.mono hr hS hW fun b i hb => by rw [hs b (by rw [hb]; simp)]; exact hb)
 | tl t es xs i b off off' c _ hi ho ih => exact .tl t es xs i b off off' c ih hi ho
 | mp t P k e D b n h1 h2 h3 => exact .mp t P k e D b n h1 (by rw [hs b (by rw [h2]; simp)]; exact h2) (ownsMap_congr h3 (hw b (by rw [h2]; simp) (fun i => by rw [h2]; simp)))
theorem VRel.mpMono {G G' : Nat -> Status} {w w' : World} {t : Nat} {P : Program} {k e : TypeId} {D : DataW Unit} {v : Value} (h : VRel G w (.mp t P k e D) v) (hs : ∀ b, G b = .tag t -> G' b = .tag t)
  (hw : ∀ b es cl, G b = .tag t -> w.heap[b]? = some (.map es cl) -> w'.heap[b]? = w.heap[b]?) : VRel G' w' (.mp t P k e D) v := by
 cases h with
 | froz h => cases h
 | mp _ _ _ _ _ b n h1 h2 h3 =>
  obtain ⟨es, cl, hb, r⟩ := h3
  exact .mp t P k e D b n h1 (hs b h2) (ownsMap_congr ⟨es, cl, hb, r⟩ (hw b es cl h2 hb))
theorem VRel.cl_inv {G : Nat -> Status} {w : World} {f : FuncId} {caps : List AV} {v : Value} (h : VRel G w (.cl f caps) v) : ∃ vs : Array Value, v = .func (.func f) #[] vs /\ PW (CapRel G w) caps vs.toList := by
 cases h with
 | froz h => cases h
 | cl _ _ vs h => exact ⟨vs, rfl, h⟩
theorem CapRel.rel {G : Nat -> Status} {w : World} {x : AV} {v : Value} (h : CapRel G w x v) : VRel G w x v := by
 rcases h with ⟨i, o, b, rfl, hb, rfl⟩ | h
 ·exact .pb _ _ _ hb
 ·exact .froz h
theorem VRel.clMono {G G' : Nat -> Status} {w w' : World} {f : FuncId} {caps : List AV} {v : Value} (h : VRel G w (.cl f caps) v) (hs : ∀ b, Stable G b -> Stable G' b) (hw : ∀ b, Stable G b -> w'.heap[b]? = w.heap[b]?)
  (hb : ∀ b i, G b = .box i -> G' b = .box i) : VRel G' w' (.cl f caps) v := by
 obtain ⟨vs, rfl, hp⟩ := h.cl_inv
 exact .cl f caps vs (PW.mono hp fun x y _ hr => CapRel.mono hr hs hw hb)
theorem VRel.ext {G G' : Nat -> Status} {w w' : World} {x : AV} {v : Value} (h : VRel G w x v) (hg : Good G w) (he : Ext G w G' w') : VRel G' w' x v :=
 h.mono (fun b hb => he.stat b (hg.lt b hb)) (fun b hb _ => he.keep b (hg.lt b hb))
section inv
variable {G : Nat -> Status} {w : World}
theorem VRel.sc_inv {u v : Value} (h : VRel G w (.sc u) v) : v = u := by
 cases h with
 | froz h => cases h; rfl
theorem VRel.ub_inv {v : Value} (h : VRel G w .ub v) : ∃ b, v = .bool b := by
 cases h with
 | froz h => cases h; exact ⟨_, rfl⟩
theorem VRel.nil_inv {v : Value} (h : VRel G w .nil v) : v = .slice none 0 0 := by
 cases h with
 | froz h => cases h; rfl
def Seen (G : Nat -> Status) (w : World) (es : Nat) (xs : List AV) (ao : Option Addr) : Prop :=
 ∃ b off vals, ao = some ⟨b, off, none⟩ /\ G b ≠ .junk /\ (∀ x ∈ xs, x.cells.length = es) /\ One vals /\ (∀ j u, vals[j]? = some u -> w.cell? ⟨b, off + j, none⟩ = some u) /\ PW (FRel (Stable G) w) (flat xs) vals
theorem VRel.sl_inv {t es : Nat} {xs : List AV} {v : Value} (h : VRel G w (.sl t es xs) v) :
  ∃ ao c, v = .slice ao xs.length c /\ (t = 1 -> c = xs.length) /\ (ao = none -> c = 0 /\ xs = []) /\ xs.length <= c /\ (xs = [] \/ Seen G w es xs ao) := by
 cases h with
 | froz h =>
  cases h with
  | slNil _ _ a c h1 h2 h3 => exact ⟨a, c, rfl, h2, fun h => ⟨h3 h, rfl⟩, Nat.zero_le _, .inl rfl⟩
  | sl _ _ _ b off c vals h1 h2 h3 hc h4 h5 h0 h6 h7 => exact ⟨_, c, rfl, h3, (fun h => by cases h), hc, .inr ⟨b, off, vals, rfl, by unfold Stable at h2; rw [h2]; simp, h4, h0, h6, h5, h7⟩⟩
 | own _ _ _ v e vals h1 h2 h3 h4 h0 h5 =>
  rcases h2.2 with ⟨hv, hn⟩ | ⟨g, cap, cur, hv, hg, hh, hn, hc, hs, ht⟩
  ·subst hv; rw [hn]; exact ⟨none, 0, rfl, fun h => by omega, fun _ => ⟨rfl, List.eq_nil_of_length_eq_zero hn⟩, by omega, .inl (List.eq_nil_of_length_eq_zero hn)⟩
  ·subst hv
   refine ⟨_, cap, rfl, fun h => by omega, (fun h => by cases h), hn, .inr ⟨g, 0, vals, rfl, by rw [h3 g rfl]; simp, h4, h0, fun j u hj => ?_, h5⟩⟩
   have hj' : j < vals.length := (List.getElem?_eq_some_iff.1 hj).1
   have : cur.toList[j]? = some u := by
    rw [<- ht, List.getElem?_take] at hj
    split at hj
    ·exact hj
    ·cases hj
   simp only [World.cell?, hh, Nat.zero_add]
   simpa using this
theorem flat_cell {es : Nat} : ∀ {xs : List AV} (i o : Nat) {x y : AV}, (∀ x ∈ xs, x.cells.length = es) -> xs[i]? = some x -> x.cells[o]? = some y -> (flat xs)[i * es + o]? = some y
 | [], i, o, x, y, _, h, _ => by simp at h
 | a :: xs, i, o, x, y, hw, h, ho => by
  have ha : a.cells.length = es := hw a (by simp)
  cases i with
  | zero =>
   simp at h; subst h
   have : o < a.cells.length := (List.getElem?_eq_some_iff.1 ho).1
   simp only [flat, List.flatMap_cons, Nat.zero_mul, Nat.zero_add]
   rw [List.getElem?_append_left this]; exact ho
  | succ i =>
   have := flat_cell (xs := xs) i o (fun x hx => hw x (by simp [hx])) (by simpa using h) ho
   simp only [flat, List.flatMap_cons] at this ⊢
   rw [List.getElem?_append_right (by rw [ha, Nat.succ_mul]; omega), ha, show (i + 1) * es + o - es = i * es + o by rw [Nat.succ_mul]; omega]
   exact this
theorem flat_length {es : Nat} : ∀ {xs : List AV}, (∀ x ∈ xs, x.cells.length = es) -> (flat xs).length = xs.length * es
 | [], _ => by simp [flat]
 | a :: xs, hw => by
  have := flat_length (xs := xs) (fun x hx => hw x (by simp [hx]))
  simp only [flat, List.flatMap_cons, List.length_append, List.length_cons] at this ⊢
  rw [this, hw a (by simp), Nat.succ_mul]; omega
theorem VRel.pe_inv {t es i o : Nat} {xs : List AV} {v : Value} (h : VRel G w (.pe t es xs i o) v) :
  ∃ b off c, VRel G w (.sl t es xs) (.slice (some ⟨b, off, none⟩) xs.length c) /\ i < xs.length /\ v = .pointer (some ⟨b, off + i * es + o, none⟩) := by
 cases h with
 | froz h =>
  cases h with
  | pe _ _ _ _ _ b off c h1 h2 => exact ⟨b, off, c, .froz h1, h2, rfl⟩
 | pe _ _ _ _ _ b off c h1 h2 => exact ⟨b, off, c, h1, h2, rfl⟩
theorem VRel.tl_inv {t es i : Nat} {xs : List AV} {v : Value} (h : VRel G w (.tl t es xs i) v) :
  ∃ b off off' c, VRel G w (.sl t es xs) (.slice (some ⟨b, off, none⟩) xs.length c) /\ i <= xs.length /\ (off' = off + i * es \/ c <= i) /\ xs.length <= c /\ v = .slice (some ⟨b, off', none⟩) (xs.length - i) (c - i) := by
 cases h with
 | froz h => cases h
 | tl _ _ _ _ b off off' c h1 h2 h3 =>
  obtain ⟨_, c', hv, _, _, hc, _⟩ := h1.sl_inv
  cases hv
  exact ⟨b, off, off', c, h1, h2, h3, hc, rfl⟩
theorem VRel.pb_inv {i o : Nat} {v : Value} (h : VRel G w (.pb i o) v) : ∃ b, G b = .box i /\ v = .pointer (some ⟨b, o, none⟩) := by
 cases h with
 | froz h => cases h
 | pb _ _ b h => exact ⟨b, h, rfl⟩
theorem LRel.val {r : Nat} {x : AV} {v : Value} (h : LRel G w r x v) : VRel G w x v := by
 cases h with
 | froz h => exact .froz h
 | own t es xs v e vals h1 hr h2 h3 h4 h0 h5 => exact .own t es xs v e vals h1 h2 h3 h4 h0 h5
theorem rowLike_cells {x : AV} (h : x.rowLike = true) : x.cells = [x] := by
 cases x <;> first | rfl | (simp [AV.rowLike] at h)
theorem rowLike_flat {xs : List AV} (h : ∀ x ∈ xs, x.rowLike = true) : flat xs = xs := by
 induction xs with
 | nil => rfl
 | cons x xs ih =>
  have := ih fun y hy => h y (by simp [hy])
  simp only [flat, List.flatMap_cons, rowLike_cells (h x (by simp))] at this ⊢
  rw [this]; rfl
theorem VRel.so_inv {t : Nat} {xs : List AV} {v : Value} (h : VRel G w (.so t xs) v) :
  ∃ ao c, v = .slice ao xs.length c /\ (ao = none -> c = 0 /\ xs = []) /\ xs.length <= c /\ (xs = [] \/ ∃ b vals, ao = some ⟨b, 0, none⟩ /\ (∀ j u, vals[j]? = some u -> w.cell? ⟨b, j, none⟩ = some u) /\ One vals /\ PW (LRel G w (root t)) xs vals) := by
 cases h with
 | froz h => cases h
 | so _ _ _ e vals h1 h2 h3 h4 h0 h5 =>
  rcases h2.2 with ⟨hv, hn⟩ | ⟨g, cap, cur, hv, hg, hh, hn, hc, hs, ht⟩
  ·subst hv; rw [hn]; exact ⟨none, 0, rfl, fun _ => ⟨rfl, List.eq_nil_of_length_eq_zero hn⟩, by omega, .inl (List.eq_nil_of_length_eq_zero hn)⟩
  ·subst hv
   refine ⟨_, cap, rfl, (fun h => by cases h), hn, .inr ⟨g, vals, rfl, fun j u hj => ?_, h0, h5⟩⟩
   have : cur.toList[j]? = some u := by
    rw [<- ht, List.getElem?_take] at hj
    split at hj
    ·exact hj
    ·cases hj
   simp only [World.cell?, hh]
   simpa using this
theorem VRel.po_inv {t i : Nat} {xs : List AV} {v : Value} (h : VRel G w (.po t xs i) v) :
  ∃ b off c, VRel G w (.so t xs) (.slice (some ⟨b, off, none⟩) xs.length c) /\ i < xs.length /\ v = .pointer (some ⟨b, off + i, none⟩) := by
 cases h with
 | froz h => cases h
 | po _ _ _ b off c h1 h2 => exact ⟨b, off, c, h1, h2, rfl⟩
theorem VRel.toL {r : Nat} {x : AV} {v : Value} (h : VRel G w x v) (hx : x.rowLike = true) (hr : ∀ t es xs, x = .sl t es xs -> 2 <= t -> root t = r) : LRel G w r x v := by
 cases h with
 | froz h => exact .froz h
 | own t es xs v e vals h1 h2 h3 h4 h0 h5 => exact .own t es xs v e vals h1 (hr _ _ _ rfl h1) h2 h3 h4 h0 h5
 | _ => simp [AV.rowLike] at hx
theorem LRel.rootOf {r t es : Nat} {xs : List AV} {v : Value} (h : LRel G w r (.sl t es xs) v) (ht : 2 <= t) : root t = r := by
 cases h with
 | froz h => exfalso; cases h <;> omega
 | own _ _ _ _ _ _ _ hr => exact hr
theorem LRel.other {r : Nat} {x : AV} {v : Value} (h : LRel G w r x v) (hx : ∀ t es xs, x ≠ .sl t es xs) : FRel (Stable G) w x v := by
 cases h with
 | froz h => exact h
 | own => exact absurd rfl (hx _ _ _)
theorem VRel.so_two {t : Nat} {xs : List AV} {v : Value} (h : VRel G w (.so t xs) v) : 2 <= t := by
 cases h with
 | froz h => cases h
 | so _ _ _ _ _ h1 => exact h1
theorem VRel.ag_inv {cs : List AV} {v : Value} (h : VRel G w (.ag cs) v) : ∃ vs : Array Value, v = .agg vs /\ One vs.toList /\ PW (VRel G w) cs vs.toList := by
 cases h with
 | froz h =>
  cases h with
  | ag _ vs h1 h0 h2 => exact ⟨vs, rfl, h0, h1, fun j x u hx hu => .froz (h2 j x u hx hu)⟩
 | ag _ vs h1 h0 h2 => exact ⟨vs, rfl, h0, h1, h2⟩
theorem VRel.tup_inv {cs : List AV} {v : Value} (h : VRel G w (.tup cs) v) : ∃ vs : Array Value, v = .tuple vs /\ PW (VRel G w) cs vs.toList := by
 cases h with
 | froz h =>
  cases h with
  | tup _ vs h1 h2 => exact ⟨vs, rfl, h1, fun j x u hx hu => .froz (h2 j x u hx hu)⟩
 | tup _ vs h1 h2 => exact ⟨vs, rfl, h1, h2⟩
theorem VRel.fn_inv {f : FuncId} {caps : List AV} {v : Value} (h : VRel G w (.fn f caps) v) : ∃ vs : Array Value, v = .func (.func f) #[] vs /\ PW (FRel (Stable G) w) caps vs.toList := by
 cases h with
 | froz h =>
  cases h with
  | fn _ _ vs h1 h2 => exact ⟨vs, rfl, h1, h2⟩
theorem VRel.fp_inv {cs : List AV} {o : Nat} {v : Value} (h : VRel G w (.fp cs o) v) : ∃ b vals, Stable G b /\ v = .pointer (some ⟨b, o, none⟩) /\ One vals /\ (∀ j u, vals[j]? = some u -> w.cell? ⟨b, j, none⟩ = some u) /\ PW (FRel (Stable G) w) cs vals := by
 cases h with
 | froz h =>
  cases h with
  | fp _ _ b vals h1 h2 h0 h3 h4 => exact ⟨b, vals, h1, rfl, h0, h3, h2, h4⟩
end inv
abbrev Gh := Nat -> Option (List Value)
def noGh : Gh := fun _ => none
def BCell (gh : Gh) (G : Nat -> Status) (w : World) (i : Nat) (cs : List AV) : Prop :=
 (gh i = none /\ ∃ b vals ty, G b = .box i /\ w.heap[b]? = some (.cells vals ty (0, 0)) /\ One vals.toList /\ PW (VRel G w) cs vals.toList) \/ ((∀ b, G b ≠ .box i) /\ ∃ vs, gh i = some vs /\ PW (VRel G w) cs vs) \/ (gh i = none /\ (∀ b, G b ≠ .box i) /\ ∀ x ∈ cs, ∀ v, VRel G w x v)
structure BRel (gh : Gh) (G : Nat -> Status) (w : World) (bx : List (List AV)) : Prop where
 low : ∀ i vs, gh i = some vs -> i < bx.length
 cell : ∀ (i : Nat) cs, bx[i]? = some cs -> BCell gh G w i cs
theorem BRel.real {gh : Gh} {G : Nat -> Status} {w : World} {bx : List (List AV)} (h : BRel gh G w bx) {i : Nat} {cs : List AV} (hi : bx[i]? = some cs) {b : Nat} (hb : G b = .box i) :
  ∃ b vals ty, G b = .box i /\ w.heap[b]? = some (.cells vals ty (0, 0)) /\ One vals.toList /\ PW (VRel G w) cs vals.toList := by
 rcases h.cell i cs hi with h | h | h
 ·exact h.2
 ·exact absurd hb (h.1 b)
 ·exact absurd hb (h.2.1 b)
theorem BCell.turn {gh : Gh} {G G' : Nat -> Status} {w w' : World} {i : Nat} {cs cs' : List AV} (h : BCell gh G w i cs) (hl : cs.length = cs'.length) (hx : ∀ (j : Nat) x y v, cs[j]? = some x -> cs'[j]? = some y -> VRel G w x v -> VRel G' w' y v)
  (hb : ∀ b, G b = .box i -> G' b = .box i /\ w'.heap[b]? = w.heap[b]?) (hn : (∀ b, G b ≠ .box i) -> ∀ b, G' b ≠ .box i) : BCell gh G' w' i cs' := by
 have hp : ∀ {vs : List Value}, PW (VRel G w) cs vs -> PW (VRel G' w') cs' vs := fun hp => ⟨by rw [<- hl]; exact hp.1, fun j y v hy hv => by
  have hj : j < cs.length := by rw [hl]; exact (List.getElem?_eq_some_iff.1 hy).1
  exact hx j _ y v (List.getElem?_eq_getElem hj) hy (hp.2 j _ v (List.getElem?_eq_getElem hj) hv)⟩
 rcases h with ⟨h0, b, vals, ty, h1, h2, h3, h4⟩ | ⟨h1, vs, h2, h3⟩ | ⟨h0, h1, h2⟩
 ·exact .inl ⟨h0, b, vals, ty, (hb b h1).1, by rw [(hb b h1).2]; exact h2, h3, hp h4⟩
 ·exact .inr (.inl ⟨hn h1, vs, h2, hp h3⟩)
 ·refine .inr (.inr ⟨h0, hn h1, fun y hy v => ?_⟩)
  obtain ⟨j, hj⟩ := List.getElem?_of_mem hy
  have hjl : j < cs.length := by rw [hl]; exact (List.getElem?_eq_some_iff.1 hj).1
  exact hx j _ y v (List.getElem?_eq_getElem hjl) hj (h2 _ (List.getElem_mem hjl) v)
theorem BCell.same {gh : Gh} {G G' : Nat -> Status} {w w' : World} {i : Nat} {cs : List AV} (h : BCell gh G w i cs) (hx : ∀ x v, VRel G w x v -> VRel G' w' x v)
  (hb : ∀ b, G b = .box i -> G' b = .box i /\ w'.heap[b]? = w.heap[b]?) (hn : (∀ b, G b ≠ .box i) -> ∀ b, G' b ≠ .box i) : BCell gh G' w' i cs :=
 h.turn rfl (fun j x y v h1 h2 hr => by rw [h1] at h2; cases h2; exact hx x v hr) hb hn
theorem BCell.map {gh : Gh} {G G' : Nat -> Status} {w w' : World} {i : Nat} {cs : List AV} {f : AV -> AV} (h : BCell gh G w i cs) (hx : ∀ x v, VRel G w x v -> VRel G' w' (f x) v)
  (hb : ∀ b, G b = .box i -> G' b = .box i /\ w'.heap[b]? = w.heap[b]?) (hn : (∀ b, G b ≠ .box i) -> ∀ b, G' b ≠ .box i) : BCell gh G' w' i (cs.map f) :=
 h.turn (by simp) (fun j x y v h1 h2 hr => by rw [List.getElem?_map, h1] at h2; simp at h2; subst h2; exact hx x v hr) hb hn
theorem BRel.ext {gh : Gh} {G G' : Nat -> Status} {w w' : World} {bx : List (List AV)} (h : BRel gh G w bx) (hg : Good G w) (he : Ext G w G' w') (hn : ∀ b i, G' b = .box i -> i < bx.length -> G b = .box i) : BRel gh G' w' bx := by
 refine ⟨h.low, fun i cs hi => ?_⟩
 have hil := (List.getElem?_eq_some_iff.1 hi).1
 refine (h.cell i cs hi).same (fun x v hr => hr.ext hg he) (fun b hb => ?_) fun h0 b hb => h0 b (hn b i hb hil)
 have hbs : b < w.heap.size := hg.lt b (by rw [hb]; simp)
 exact ⟨by rw [he.stat b hbs]; exact hb, he.keep b hbs⟩
structure NewTags (d : Nat) (G G' : Nat -> Status) : Prop where
 tags : ∀ b t, G' b = .tag t -> G b = .tag t \/ root t / 64 = d + 1
 boxes : ∀ b i, G' b = .box i -> G b = .box i
theorem NewTags.refl (d : Nat) (G : Nat -> Status) : NewTags d G G := ⟨fun _ _ h => .inl h, fun _ _ h => h⟩
def Does (P : Program) (d : Nat) (G : Nat -> Status) (w : World) (s : Sem Value) (r : AV) : Prop :=
 ∃ v w' G', s.run P w = .ok v w' /\ VRel G' w' r v /\ Ext G w G' w' /\ Good G' w' /\ NewTags d G G'
theorem Does.pure {P : Program} {d : Nat} {G : Nat -> Status} {w : World} {s : Sem Value} {r : AV} {v : Value} (hg : Good G w) (hr : s.run P w = .ok v w) (hv : VRel G w r v) : Does P d G w s r :=
 ⟨v, w, G, hr, hv, .refl G w, hg, .refl d G⟩
theorem Addr.add_none (b off n : Nat) : Addr.add ⟨b, off, none⟩ n = ⟨b, off + n, none⟩ := by
 unfold Addr.add; split
 ·rename_i h; subst h; rfl
 ·rfl
def tinfo (P : Program) (t : TypeId) : Option (Nat × Nat × Option Value) := (P.info? t).map fun i => (i.size, i.bytes, i.zero)
theorem run_sizeOf {P : Program} {t : TypeId} {sz by_ : Nat} {z : Option Value} (h : tinfo P t = some (sz, by_, z)) (w : World) : (sizeOf t).run P w = .ok sz w := by
 unfold tinfo at h
 cases hi : P.info? t with
 | none => simp [hi] at h
 | some i => simp [hi] at h; simp [sizeOf, typeInfo, hi, h.1]
theorem tinfo_some {P : Program} {t : TypeId} {sz by_ : Nat} {z : Option Value} (h : tinfo P t = some (sz, by_, z)) : ∃ i, P.info? t = some i /\ i.size = sz /\ i.bytes = by_ /\ i.zero = z := by
 unfold tinfo at h
 cases hi : P.info? t with
 | none => simp [hi] at h
 | some i => simp [hi] at h; exact ⟨i, rfl, h.1, h.2.1, h.2.2⟩
def evBin (P : Program) (op : BinOp) (T : TypeId) (u v : Value) (K : Value -> Prop) : Prop :=
 match op, u, v with
 | .shl, .int k a, .int _ b => 0 <= b /\ K (.int k (k.wrap (a * 2 ^ (min b.toNat k.bits))))
 | .shr, .int k a, .int _ b => 0 <= b /\ K (.int k (a.fdiv (2 ^ (min b.toNat k.bits))))
 | .add, .int k a, .int k' b => k = k' /\ K (.int k (k.wrap (a + b)))
 | .sub, .int k a, .int k' b => k = k' /\ K (.int k (k.wrap (a - b)))
 | .mul, .int k a, .int k' b => k = k' /\ K (.int k (k.wrap (a * b)))
 | .quo, .int k a, .int k' b => k = k' /\ b ≠ 0 /\ K (.int k (k.wrap (a.tdiv b)))
 | .rem, .int k a, .int k' b => k = k' /\ b ≠ 0 /\ K (.int k (a.tmod b))
 | .and, .int k a, .int k' b => k = k' /\ K (.int k (k.wrap (BitVec.ofInt k.bits a &&& BitVec.ofInt k.bits b).toNat))
 | .or, .int k a, .int k' b => k = k' /\ K (.int k (k.wrap (BitVec.ofInt k.bits a ||| BitVec.ofInt k.bits b).toNat))
 | .xor, .int k a, .int k' b => k = k' /\ K (.int k (k.wrap (BitVec.ofInt k.bits a ^^^ BitVec.ofInt k.bits b).toNat))
 | .eql, .int k a, .int k' b => k = k' /\ K (.bool (a == b))
 | .neq, .int k a, .int k' b => k = k' /\ K (.bool (a != b))
 | .lss, .int k a, .int k' b => k = k' /\ K (.bool (decide (a < b)))
 | .leq, .int k a, .int k' b => k = k' /\ K (.bool (decide (a <= b)))
 | .gtr, .int k a, .int k' b => k = k' /\ K (.bool (decide (b < a)))
 | .geq, .int k a, .int k' b => k = k' /\ K (.bool (decide (b <= a)))
 | .eql, .bool a, .bool b => P.underlying T = some .bool /\ K (.bool (a == b))
 | .neq, .bool a, .bool b => P.underlying T = some .bool /\ K (.bool (!(a == b)))
 | .add, .string a, .string b => a.size + b.size <= 9223372036854775807 /\ K (.string (a ++ b))
 | .eql, .string a, .string b => K (.bool (a.toList == b.toList))
 | .neq, .string a, .string b => K (.bool (!(a.toList == b.toList)))
 | .lss, .string a, .string b => K (.bool (Op.bytesLess a.toList b.toList))
 | .leq, .string a, .string b => K (.bool (Op.bytesLess a.toList b.toList || a.toList == b.toList))
 | .gtr, .string a, .string b => K (.bool (!(Op.bytesLess a.toList b.toList || a.toList == b.toList)))
 | .geq, .string a, .string b => K (.bool (!(Op.bytesLess a.toList b.toList)))
 | _, _, _ => False
theorem run_equal_bool {P : Program} {T : TypeId} {a b : Bool} (h : P.underlying T = some .bool) (w : World) : (Op.equal T (.bool a) (.bool b)).run P w = .ok (a == b) w := by
 simp only [Op.equal, Op.maxDepth]
 show (Op.equalIn (9999 + 1) T (.bool a) (.bool b)).run P w = _
 rw [Op.equalIn]
 simp [run_underlying h]
theorem evBin_sound {P : Program} {op : BinOp} {T : TypeId} {u v : Value} {K : Value -> Prop} (x y : Operand) (h : evBin P op T u v K) :
    ∃ r, K r /\ ∀ w, (do eqGuard op T x y u v; binOp op T u v : Sem Value).run P w = .ok r w := by
  unfold evBin at h
  split at h
  case h_17 => obtain ⟨h1, h2⟩ := h; exact ⟨_, h2, fun w => by simp [eqGuard, binOp, run_equal_bool h1]⟩
  case h_18 => obtain ⟨h1, h2⟩ := h; exact ⟨_, h2, fun w => by simp [eqGuard, binOp, run_equal_bool h1]⟩
  case h_19 => obtain ⟨h1, h2⟩ := h; refine ⟨_, h2, fun w => ?_⟩; simp [eqGuard, binOp, Op.stringOp, IntKind.max, IntKind.signed, IntKind.bits]; omega
  all_goals first
    | exact h.elim
    | (obtain ⟨h1, h2, h3⟩ := h; refine ⟨_, h3, fun w => ?_⟩; subst h1
       simp [eqGuard, binOp, Op.intDiv, h2]
       done)
    | (obtain ⟨h1, h2⟩ := h; refine ⟨_, h2, fun w => ?_⟩; subst h1
       simp [eqGuard, binOp, Op.intArith, Op.intCmp, Op.intBits]
       done)
    | (obtain ⟨h1, h2⟩ := h; refine ⟨_, h2, fun w => ?_⟩
       simp [eqGuard, binOp, Op.shift, Int.not_lt.2 h1]
       done)
    | (refine ⟨_, h, fun w => ?_⟩
       simp [eqGuard, binOp, Op.stringOp]
       done)
section ops
variable {P : Program} {d : Nat} {G : Nat -> Status} {w : World}
def leafConst : Value -> AV
 | .slice none 0 0 => .nil
 | v => .sc v
def ofConst : Value -> AV
 | .agg cs => .ag (cs.toList.map leafConst)
 | v => leafConst v
def aggT (P : Program) (T : TypeId) : Option Bool := (P.underlying T).map fun | .struct _ => true | .array _ _ => true | _ => false
theorem run_isAgg {T : TypeId} {b : Bool} (h : aggT P T = some b) (w : World) : (isAgg T).run P w = .ok b w := by
 unfold aggT at h
 cases hd : P.underlying T with
 | none => simp [hd] at h
 | some d => simp only [hd, Option.map_some, Option.some.injEq] at h; subst h; cases d <;> simp [isAgg, run_underlying hd]
def ptrAdd (x : AV) (n : Nat) : AV :=
 match x with
 | .pb i o => .pb i (o + n)
 | .pe t es xs i o => .pe t es xs i (o + n)
 | .fp cs o => .fp cs (o + n)
 | _ => .any
def isPtr : AV -> Bool
 | .pb .. => true
 | .pe .. => true
 | .fp .. => true
 | _ => false
theorem VRel.ptr_inv {x : AV} {v : Value} (h : VRel G w x v) (hx : isPtr x = true) : ∃ b o, v = .pointer (some ⟨b, o, none⟩) /\ ∀ n, VRel G w (ptrAdd x n) (.pointer (some ⟨b, o + n, none⟩)) := by
 cases x <;> simp only [isPtr, Bool.false_eq_true] at hx
 case pb i o => obtain ⟨b, hb, rfl⟩ := h.pb_inv; exact ⟨b, o, rfl, fun n => .pb _ _ _ hb⟩
 case pe t es xs i o => obtain ⟨b, off, c, h1, h2, rfl⟩ := h.pe_inv; exact ⟨b, _, rfl, fun n => by rw [Nat.add_assoc]; exact .pe _ _ _ _ _ _ _ _ h1 h2⟩
 case fp cs o => obtain ⟨b, vals, h1, rfl, h0, h2, h3⟩ := h.fp_inv; exact ⟨b, o, rfl, fun n => .froz (.fp _ _ _ vals h1 h3.1 h0 h2 h3.2)⟩
def cellsAt (bx : List (List AV)) (x : AV) : Option (List AV × Nat) :=
 match x with
 | .pb i o => (bx[i]?).map fun cs => (cs, o)
 | .pe _ _ xs i o => (xs[i]?).map fun x => (x.cells, o)
 | .fp cs o => some (cs, o)
 | .po _ xs i => (xs[i]?).map fun x => ([x], 0)
 | _ => none
theorem cellsAt_rel {gh : Gh} {bx : List (List AV)} {x : AV} {v : Value} {cs : List AV} {o : Nat} (hg : Good G w) (h : VRel G w x v) (hb : BRel gh G w bx) (hc : cellsAt bx x = some (cs, o)) :
  ∃ b k, v = .pointer (some ⟨b, k, none⟩) /\ ∀ (j : Nat) y, cs[o + j]? = some y -> ∃ u, w.cell? ⟨b, k + j, none⟩ = some u /\ VRel G w y u /\ u.oneCell' = true := by
 cases x <;> simp only [cellsAt] at hc <;> try (cases hc; done)
 case pb i o' =>
  obtain ⟨b, hb', rfl⟩ := h.pb_inv
  cases hi : bx[i]? with
  | none => simp [hi] at hc
  | some cs' =>
   simp only [hi, Option.map_some, Option.some.injEq, Prod.mk.injEq] at hc
   obtain ⟨rfl, rfl⟩ := hc
   obtain ⟨b', vals, ty, h1, h2, h0, h3⟩ := hb.real hi hb'
   obtain rfl := hg.boxes _ _ _ hb' h1
   refine ⟨b, _, rfl, fun j y hy => ?_⟩
   have hlt : o' + j < vals.toList.length := by rw [<- h3.1]; exact (List.getElem?_eq_some_iff.1 hy).1
   have hv := List.getElem?_eq_getElem hlt
   refine ⟨_, ?_, h3.2 _ _ _ hy hv, h0 _ (List.mem_of_getElem? hv)⟩
   simp only [World.cell?, h2]
   simp
 case pe t es xs i o' =>
  obtain ⟨b, off, c, h1, h2, rfl⟩ := h.pe_inv
  rw [List.getElem?_eq_getElem h2] at hc
  simp only [Option.map_some, Option.some.injEq, Prod.mk.injEq] at hc
  obtain ⟨rfl, rfl⟩ := hc
  obtain ⟨ao, c', h3, _, _, _, h4⟩ := h1.sl_inv
  cases h3
  rcases h4 with h4 | ⟨b', off', vals, e, h5, h6, h0, h7, h8⟩
  ·subst h4; simp at h2
  ·cases e
   refine ⟨b, _, rfl, fun j y hy => ?_⟩
   have hf := flat_cell i (o' + j) h6 (List.getElem?_eq_getElem h2) hy
   have hlt : i * es + (o' + j) < vals.length := by rw [<- h8.1]; exact (List.getElem?_eq_some_iff.1 hf).1
   have hv := List.getElem?_eq_getElem hlt
   refine ⟨_, ?_, .froz (h8.2 _ _ _ hf hv), h0 _ (List.mem_of_getElem? hv)⟩
   have := h7 _ _ hv
   rw [show off + i * es + o' + j = off + (i * es + (o' + j)) by omega]; exact this
 case po t xs i =>
  obtain ⟨b, off, c, h1, h2, rfl⟩ := h.po_inv
  rw [List.getElem?_eq_getElem h2] at hc
  simp only [Option.map_some, Option.some.injEq, Prod.mk.injEq] at hc
  obtain ⟨rfl, rfl⟩ := hc
  obtain ⟨ao, c', h3, _, _, h4⟩ := h1.so_inv
  cases h3
  rcases h4 with h4 | ⟨b', vals, e, h7, h0, h8⟩
  ·subst h4; simp at h2
  ·cases e
   refine ⟨b, _, rfl, fun j y hy => ?_⟩
   have hj : j = 0 := by
    have := (List.getElem?_eq_some_iff.1 hy).1
    simp at this; omega
   subst hj
   simp at hy; subst hy
   have hlt : i < vals.length := by rw [<- h8.1]; exact h2
   have hv := List.getElem?_eq_getElem hlt
   refine ⟨_, ?_, (h8.2 _ _ _ (List.getElem?_eq_getElem h2) hv).val, h0 _ (List.mem_of_getElem? hv)⟩
   have := h7 _ _ hv
   simpa using this
 case fp cs' o' =>
  simp only [Option.some.injEq, Prod.mk.injEq] at hc
  obtain ⟨rfl, rfl⟩ := hc
  obtain ⟨b, vals, h1, rfl, h0, h2, h3⟩ := h.fp_inv
  refine ⟨b, _, rfl, fun j y hy => ?_⟩
  have hlt : o' + j < vals.length := by rw [<- h3.1]; exact (List.getElem?_eq_some_iff.1 hy).1
  have hv := List.getElem?_eq_getElem hlt
  exact ⟨_, h2 _ _ hv, .froz (h3.2 _ _ _ hy hv), h0 _ (List.mem_of_getElem? hv)⟩
def evLoad (P : Program) (bx : List (List AV)) (T : TypeId) (x : AV) (K : AV -> Prop) : Prop :=
 match cellsAt bx x with
 | none => False
 | some (cs, o) =>
  match aggT P T with
  | none => False
  | some false => (∃ y, cs[o]? = some y /\ K y)
  | some true => match tinfo P T with
   | none => False
   | some (sz, _, _) => o + sz <= cs.length /\ K (.ag ((cs.drop o).take sz))
theorem evLoad_reads {bx : List (List AV)} {T : TypeId} {x : AV} {K : AV -> Prop} (h : evLoad P bx T x K) :
  ∃ r, K r /\ ∀ (gh : Gh) (G : Nat -> Status) (w : World) (v : Value), Good G w -> BRel gh G w bx -> VRel G w x v -> ∃ u, (Instr.loadAt T v).run P w = .ok u w /\ VRel G w r u := by
 unfold evLoad at h
 cases hc : cellsAt bx x with
 | none => simp [hc] at h
 | some p =>
  obtain ⟨cs, o⟩ := p
  simp only [hc] at h
  cases ha : aggT P T with
  | none => simp [ha] at h
  | some b =>
   cases b with
   | false =>
    simp only [ha] at h
    obtain ⟨y, hy, hK⟩ := h
    refine ⟨y, hK, fun gh G w v hg hb hv => ?_⟩
    obtain ⟨b, k, rfl, hcell⟩ := cellsAt_rel hg hv hb hc
    obtain ⟨u, h1, h2, _⟩ := hcell 0 y (by simpa using hy)
    refine ⟨u, ?_, h2⟩
    simp only [Nat.add_zero] at h1
    simp [Instr.loadAt, Instr.sureAddr, loadVar, run_isAgg ha, h1]
   | true =>
    simp only [ha] at h
    cases ht : tinfo P T with
    | none => simp [ht] at h
    | some q =>
     obtain ⟨sz, by_, z⟩ := q
     simp only [ht] at h
     obtain ⟨hlen, hK⟩ := h
     refine ⟨_, hK, fun gh G w v hg hb hv => ?_⟩
     obtain ⟨b, k, rfl, hcell⟩ := cellsAt_rel hg hv hb hc
     have hex : ∃ f : Nat -> Value, ∀ j, j < sz -> ∃ y, cs[o + j]? = some y /\ w.cell? ⟨b, k + j, none⟩ = some (f j) /\ VRel G w y (f j) /\ (f j).oneCell' = true := by
      refine ⟨fun j => (w.cell? ⟨b, k + j, none⟩).getD undef, fun j hj => ?_⟩
      have hl : o + j < cs.length := by omega
      obtain ⟨u, h1, h2, h3⟩ := hcell j _ (List.getElem?_eq_getElem hl)
      exact ⟨_, List.getElem?_eq_getElem hl, by simp only [h1, Option.getD_some], by simp only [h1, Option.getD_some]; exact h2, by simp only [h1, Option.getD_some]; exact h3⟩
     obtain ⟨f, hf⟩ := hex
     refine ⟨.agg ((List.range sz).map f).toArray, ?_, .ag _ _ ?_ ?_ ?_⟩
     ·have := run_loadCells (P := P) w ⟨b, k, none⟩ sz f (fun j hj => by rw [Addr.add_none]; obtain ⟨_, _, h, _⟩ := hf j hj; exact h)
      simp [Instr.loadAt, Instr.sureAddr, loadVar, run_isAgg ha, run_sizeOf ht, this]
     ·simp; omega
     ·intro u hu
      simp only [List.mem_map, List.mem_range] at hu
      obtain ⟨j, hj, rfl⟩ := hu
      obtain ⟨_, _, _, _, h⟩ := hf j hj; exact h
     ·intro j x u hx hu
      simp only [List.getElem?_map] at hu
      have hj : j < sz := by
       rcases Nat.lt_or_ge j sz with h | h
       ·exact h
       ·simp [h] at hu
      simp [hj] at hu
      rw [List.getElem?_take, if_pos hj, List.getElem?_drop] at hx
      obtain ⟨y, h1, _, h2, _⟩ := hf j hj
      rw [h1] at hx; cases hx; rw [<- hu]; exact h2
theorem evLoad_sound {bx : List (List AV)} {T : TypeId} {x : AV} {K : AV -> Prop} (h : evLoad P bx T x K) :
  ∃ r, K r /\ ∀ (d : Nat) (gh : Gh) (G : Nat -> Status) (w : World) (v : Value), Good G w -> BRel gh G w bx -> VRel G w x v -> Does P d G w (Instr.loadAt T v) r := by
 obtain ⟨r, hK, hr⟩ := evLoad_reads h
 refine ⟨r, hK, fun d gh G w v hg hb hv => ?_⟩
 obtain ⟨u, h1, h2⟩ := hr gh G w v hg hb hv
 exact .pure hg h1 h2
def evIndexAddr (P : Program) (T : TypeId) (x i : AV) (K : AV -> Prop) : Prop :=
 match i with
 | .sc (.int _ n) =>
  match P.underlying T, x with
  | some (.slice E), .sl t es xs => (∃ q, tinfo P E = some q /\ q.1 = es) /\ 0 <= n /\ n < xs.length /\ K (.pe t es xs n.toNat 0)
  | some (.slice E), .so t xs => (∃ q, tinfo P E = some q /\ q.1 = 1) /\ 0 <= n /\ n < xs.length /\ K (.po t xs n.toNat)
  | some (.slice E), .tl t es xs i => (∃ q, tinfo P E = some q /\ q.1 = es) /\ 0 <= n /\ i + n < xs.length /\ K (.pe t es xs (i + n.toNat) 0)
  | some (.array len E), x => isPtr x = true /\ 0 <= n /\ n < len /\ (∃ q, tinfo P E = some q /\ K (ptrAdd x (n.toNat * q.1)))
  | _, _ => False
 | _ => False
theorem evIndexAddr_sound {T : TypeId} {x i : AV} {K : AV -> Prop} (h : evIndexAddr P T x i K) :
  ∃ r, K r /\ ∀ (d : Nat) (G : Nat -> Status) (w : World) (v u : Value), Good G w -> VRel G w x v -> VRel G w i u -> Does P d G w (Instr.indexAt T v u) r := by
 unfold evIndexAddr at h
 split at h
 ·rename_i k n
  split at h
  ·rename_i E t es xs hT
   obtain ⟨⟨⟨sz, by_, z⟩, hq, rfl⟩, h0, h1, hK⟩ := h
   refine ⟨_, hK, fun d G w v u hg hv hu => ?_⟩
   obtain rfl := hu.sc_inv
   obtain ⟨ao, c, rfl, h2, h3, _, h4⟩ := hv.sl_inv
   rcases h4 with rfl | ⟨b, off, vals, rfl, hs⟩
   ·simp at h1; omega
   ·refine .pure hg (v := .pointer (some ⟨b, off + n.toNat * sz + 0, none⟩)) ?_ (.pe _ _ _ _ _ _ _ c hv (by omega))
    simp [Instr.indexAt, asIntOf, run_underlying hT, h0, h1, run_sizeOf hq, Addr.add_none]
  ·rename_i E t xs hT
   obtain ⟨⟨⟨sz, by_, z⟩, hq, rfl⟩, h0, h1, hK⟩ := h
   refine ⟨_, hK, fun d G w v u hg hv hu => ?_⟩
   obtain rfl := hu.sc_inv
   obtain ⟨ao, c, rfl, h3, _, h4⟩ := hv.so_inv
   rcases h4 with rfl | ⟨b, vals, rfl, hs⟩
   ·simp at h1; omega
   ·refine .pure hg (v := .pointer (some ⟨b, 0 + n.toNat, none⟩)) ?_ (.po _ _ _ _ _ c hv (by omega))
    simp [Instr.indexAt, asIntOf, run_underlying hT, h0, h1, run_sizeOf hq, Addr.add_none]
  ·rename_i E t es xs i hT
   obtain ⟨⟨⟨sz, by_, z⟩, hq, rfl⟩, h0, h1, hK⟩ := h
   refine ⟨_, hK, fun d G w v u hg hv hu => ?_⟩
   obtain rfl := hu.sc_inv
   obtain ⟨b, off, off', c, h2, h3, h4, hc, rfl⟩ := hv.tl_inv
   obtain rfl : off' = off + i * sz := by rcases h4 with h4 | h4 <;> omega
   refine .pure hg (v := .pointer (some ⟨b, off + (i + n.toNat) * sz + 0, none⟩)) ?_ (.pe _ _ _ _ _ _ _ c h2 (by omega))
   have h1' : n < ((xs.length - i : Nat) : Int) := by omega
   simp [Instr.indexAt, asIntOf, run_underlying hT, h0, h1', run_sizeOf hq, Addr.add_none, Nat.add_mul, Nat.add_assoc]
  ·rename_i len E hT
   obtain ⟨hp, h0, h1, ⟨sz, by_, z⟩, hq, hK⟩ := h
   refine ⟨_, hK, fun d G w v u hg hv hu => ?_⟩
   obtain rfl := hu.sc_inv
   obtain ⟨b, o, rfl, ho⟩ := hv.ptr_inv hp
   refine .pure hg (v := .pointer (some ⟨b, o + n.toNat * sz, none⟩)) ?_ (ho _)
   simp [Instr.indexAt, asIntOf, run_underlying hT, Instr.sureAddr, h0, h1, run_sizeOf hq, Addr.add_none]
  ·exact h.elim
 ·exact h.elim
def fieldOf (P : Program) (T : TypeId) (f : Nat) : Option (Nat × TypeId) :=
 match P.underlying T with
 | some (.struct fs) => (fs[f]?).map fun fd => (fd.offset, fd.type)
 | _ => none
theorem fieldOf_some {T : TypeId} {f off : Nat} {ty : TypeId} (h : fieldOf P T f = some (off, ty)) : ∃ fs fd, P.underlying T = some (.struct fs) /\ fs[f]? = some fd /\ fd.offset = off /\ fd.type = ty := by
 unfold fieldOf at h
 split at h
 ·rename_i fs hT
  cases hf : fs[f]? with
  | none => simp [hf] at h
  | some fd => simp [hf] at h; exact ⟨fs, fd, hT, hf, h.1, h.2⟩
 ·cases h
def evFieldAddr (P : Program) (T : TypeId) (x : AV) (f : Nat) (K : AV -> Prop) : Prop :=
 isPtr x = true /\ ∃ p, fieldOf P T f = some p /\ (∃ q, tinfo P p.2 = some q /\ q.1 ≠ 0) /\ K (ptrAdd x p.1)
theorem evFieldAddr_sound {T : TypeId} {x : AV} {f : Nat} {K : AV -> Prop} (h : evFieldAddr P T x f K) :
  ∃ r, K r /\ ∀ (d : Nat) (G : Nat -> Status) (w : World) (v : Value), Good G w -> VRel G w x v -> Does P d G w (Instr.fieldAt T v f) r := by
 obtain ⟨hp, ⟨off, ty⟩, hf, ⟨⟨sz, by_, z⟩, hq, h0⟩, hK⟩ := h
 obtain ⟨fs, fd, hT, hfd, rfl, rfl⟩ := fieldOf_some hf
 refine ⟨_, hK, fun d G w v hg hv => ?_⟩
 obtain ⟨b, o, rfl, ho⟩ := hv.ptr_inv hp
 refine .pure hg (v := .pointer (some ⟨b, o + fd.offset, none⟩)) ?_ (ho _)
 simp only at h0 hq
 simp [Instr.fieldAt, run_underlying hT, hfd, Instr.sureAddr, fieldPlace, run_sizeOf hq, h0, Addr.add_none]
def evPart (P : Program) (T : TypeId) (cs : List AV) (o : Nat) (K : AV -> Prop) : Prop :=
 match aggT P T with
 | none => False
 | some false => ∃ y, cs[o]? = some y /\ K y
 | some true => match tinfo P T with
  | none => False
  | some (sz, _, _) => o + sz <= cs.length /\ K (.ag ((cs.drop o).take sz))
theorem evPart_sound {T : TypeId} {cs : List AV} {o : Nat} {K : AV -> Prop} (h : evPart P T cs o K) :
  ∃ r, K r /\ ∀ (d : Nat) (G : Nat -> Status) (w : World) (vs : Array Value), Good G w -> One vs.toList -> PW (VRel G w) cs vs.toList -> Does P d G w (part T vs o) r := by
 unfold evPart at h
 cases ha : aggT P T with
 | none => simp [ha] at h
 | some b =>
  cases b with
  | false =>
   simp only [ha] at h
   obtain ⟨y, hy, hK⟩ := h
   refine ⟨y, hK, fun d G w vs hg h0 hv => ?_⟩
   have hlt : o < vs.toList.length := by rw [<- hv.1]; exact (List.getElem?_eq_some_iff.1 hy).1
   have hu := List.getElem?_eq_getElem hlt
   refine .pure hg (v := vs.toList[o]) ?_ (hv.2 _ _ _ hy hu)
   have : vs[o]? = some vs.toList[o] := by simp
   simp [part, run_isAgg ha, this]
  | true =>
   simp only [ha] at h
   cases ht : tinfo P T with
   | none => simp [ht] at h
   | some q =>
    obtain ⟨sz, by_, z⟩ := q
    simp only [ht] at h
    obtain ⟨hlen, hK⟩ := h
    refine ⟨_, hK, fun d G w vs hg h0 hv => ?_⟩
    have hext : (vs.extract o (o + sz)).toList = (vs.toList.drop o).take sz := by
     simp [Array.toList_extract, List.extract]
    refine .pure hg (v := .agg (vs.extract o (o + sz))) (by simp [part, run_isAgg ha, run_sizeOf ht]) ?_
    have hp := (hv.drop o).take sz
    refine .ag _ _ ?_ ?_ ?_
    ·rw [hext]; exact hp.1
    ·rw [hext]; intro u hu; exact h0 u (List.mem_of_mem_drop (List.mem_of_mem_take hu))
    ·rw [hext]; exact hp.2
def evField (P : Program) (T : TypeId) (x : AV) (f : Nat) (K : AV -> Prop) : Prop :=
 match x with
 | .ag cs => ∃ p, fieldOf P T f = some p /\ evPart P p.2 cs p.1 K
 | _ => False
theorem evField_sound {T : TypeId} {x : AV} {f : Nat} {K : AV -> Prop} (h : evField P T x f K) :
  ∃ r, K r /\ ∀ (d : Nat) (G : Nat -> Status) (w : World) (v : Value), Good G w -> VRel G w x v -> Does P d G w (Instr.field T v f) r := by
 unfold evField at h
 split at h
 ·rename_i cs
  obtain ⟨⟨off, ty⟩, hf, hp⟩ := h
  obtain ⟨fs, fd, hT, hfd, rfl, rfl⟩ := fieldOf_some hf
  obtain ⟨r, hK, hr⟩ := evPart_sound hp
  refine ⟨r, hK, fun d G w v hg hv => ?_⟩
  obtain ⟨vs, rfl, h0, hv⟩ := hv.ag_inv
  obtain ⟨v, w', G', h1, h2⟩ := hr d G w vs hg h0 hv
  exact ⟨v, w', G', by simpa [Instr.field, run_underlying hT, hfd, asAgg] using h1, h2⟩
 ·exact h.elim
def evIndex (P : Program) (T : TypeId) (x i : AV) (K : AV -> Prop) : Prop :=
 match i with
 | .sc (.int _ n) =>
  match P.underlying T, x with
  | some (.array len E), .ag cs => 0 <= n /\ n < len /\ (∃ q, tinfo P E = some q /\ evPart P E cs (n.toNat * q.1) K)
  | some .string, .sc (.string s) => 0 <= n /\ (∃ b, s[n.toNat]? = some b /\ K (.sc (.int .u8 b.toNat)))
  | _, _ => False
 | _ => False
theorem evIndex_sound {T : TypeId} {x i : AV} {K : AV -> Prop} (h : evIndex P T x i K) :
  ∃ r, K r /\ ∀ (d : Nat) (G : Nat -> Status) (w : World) (v u : Value), Good G w -> VRel G w x v -> VRel G w i u -> Does P d G w (Instr.index T v u) r := by
 unfold evIndex at h
 split at h
 ·rename_i k n
  split at h
  ·rename_i len E cs hT
   obtain ⟨h0, h1, ⟨sz, by_, z⟩, hq, hp⟩ := h
   obtain ⟨r, hK, hr⟩ := evPart_sound hp
   refine ⟨r, hK, fun d G w v u hg hv hu => ?_⟩
   obtain rfl := hu.sc_inv
   obtain ⟨vs, rfl, h00, hv⟩ := hv.ag_inv
   obtain ⟨v, w', G', h2, h3⟩ := hr d G w vs hg h00 hv
   exact ⟨v, w', G', by simpa [Instr.index, asIntOf, run_underlying hT, h0, h1, run_sizeOf hq] using h2, h3⟩
  ·rename_i s hT
   obtain ⟨h0, b, hb, hK⟩ := h
   refine ⟨_, hK, fun d G w v u hg hv hu => ?_⟩
   obtain rfl := hu.sc_inv
   obtain rfl := hv.sc_inv
   exact .pure hg (v := .int .u8 b.toNat) (by simp [Instr.index, asIntOf, run_underlying hT, h0, hb]) (.froz (.sc _))
  ·exact h.elim
 ·exact h.elim
def evExtract (x : AV) (i : Nat) (K : AV -> Prop) : Prop :=
 match x with
 | .tup xs => ∃ y, xs[i]? = some y /\ K y
 | _ => False
theorem evExtract_sound {x : AV} {i : Nat} {K : AV -> Prop} (h : evExtract x i K) :
  ∃ r, K r /\ ∀ (d : Nat) (G : Nat -> Status) (w : World) (v : Value), Good G w -> VRel G w x v -> Does P d G w (Instr.extract v i) r := by
 unfold evExtract at h
 split at h
 ·obtain ⟨y, hy, hK⟩ := h
  refine ⟨y, hK, fun d G w v hg hv => ?_⟩
  obtain ⟨vs, rfl, hv'⟩ := hv.tup_inv
  have hlt : i < vs.toList.length := by rw [<- hv'.1]; exact (List.getElem?_eq_some_iff.1 hy).1
  have hu := List.getElem?_eq_getElem hlt
  refine .pure hg (v := vs.toList[i]) ?_ (hv'.2 _ _ _ hy hu)
  have : vs[i]? = some vs.toList[i] := by simp
  simp [Instr.extract, this]
 ·exact h.elim
def evUn (op : UnOp) (x : AV) (K : AV -> Prop) : Prop :=
 match op, x with
 | .not, .sc (.bool b) => K (.sc (.bool (!b)))
 | .not, .ub => K .ub
 | .neg, .sc (.int k n) => K (.sc (.int k (k.wrap (0 - n))))
 | _, _ => False
theorem evUn_sound {op : UnOp} {x : AV} {K : AV -> Prop} (h : evUn op x K) :
  ∃ r, K r /\ ∀ (d : Nat) (G : Nat -> Status) (w : World) (v : Value), Good G w -> VRel G w x v -> Does P d G w (Op.unary op v) r := by
 unfold evUn at h
 split at h
 ·refine ⟨_, h, fun d G w v hg hv => ?_⟩
  obtain rfl := hv.sc_inv
  exact .pure hg (by simp [Op.unary]) (.froz (.sc _))
 ·refine ⟨_, h, fun d G w v hg hv => ?_⟩
  obtain ⟨b, rfl⟩ := hv.ub_inv
  exact .pure hg (v := .bool (!b)) (by simp [Op.unary]) (.froz (.ub _))
 ·refine ⟨_, h, fun d G w v hg hv => ?_⟩
  obtain rfl := hv.sc_inv
  exact .pure hg (by simp [Op.unary, Op.intArith]) (.froz (.sc _))
 ·exact h.elim
def bytesOf : List AV -> Option (List Int)
 | [] => some []
 | .sc (.int .u8 n) :: r => (bytesOf r).map (n :: ·)
 | _ => none
def strOf (ns : List Int) : ByteArray := ns.foldl (fun r n => r.push (UInt8.ofNat n.toNat)) ByteArray.empty
theorem bytesOf_eq : ∀ {xs : List AV} {ns : List Int}, bytesOf xs = some ns -> xs = ns.map fun n => .sc (.int .u8 n)
 | [], ns, h => by cases h; rfl
 | x :: r, ns, h => by
  unfold bytesOf at h
  split at h
  ·rename_i e; cases e
  ·rename_i n r' e
   cases e
   cases hb : bytesOf r with
   | none => simp [hb] at h
   | some ms => simp [hb] at h; subst h; rw [bytesOf_eq hb]; rfl
  ·cases h
def evConv (P : Program) (src dst : TypeId) (x : AV) (K : AV -> Prop) : Prop :=
 match P.underlying src, P.underlying dst, x with
 | some (.int _), some (.int k), .sc (.int _ n) => K (.sc (.int k (k.wrap n)))
 | some .string, some .string, .sc (.string s) => K (.sc (.string s))
 | some (.slice e), some .string, .sl _ 1 xs => P.underlying e = some (.int .u8) /\ xs ≠ [] /\ ∃ ns, bytesOf xs = some ns /\ K (.sc (.string (strOf ns)))
 | _, _, _ => False
theorem evConv_sound {src dst : TypeId} {x : AV} {K : AV -> Prop} (h : evConv P src dst x K) :
  ∃ r, K r /\ ∀ (d : Nat) (G : Nat -> Status) (w : World) (v : Value), Good G w -> VRel G w x v -> Does P d G w (convert src dst v) r := by
 unfold evConv at h
 split at h
 ·rename_i h1 h2
  refine ⟨_, h, fun d G w v hg hv => ?_⟩
  obtain rfl := hv.sc_inv
  exact .pure hg (by simp [convert, run_underlying h1, run_underlying h2, Conv.intToInt]) (.froz (.sc _))
 ·rename_i h1 h2
  refine ⟨_, h, fun d G w v hg hv => ?_⟩
  obtain rfl := hv.sc_inv
  exact .pure hg (by simp [convert, run_underlying h1, run_underlying h2]) (.froz (.sc _))
 ·rename_i e t xs h1 h2
  obtain ⟨h3, hne, ns, hns, hK⟩ := h
  refine ⟨_, hK, fun d G w v hg hv => ?_⟩
  have hxs := bytesOf_eq hns
  obtain ⟨ao, c, rfl, _, _, _, h | ⟨b, off, vals, rfl, _, g1, g2, g3, g4⟩⟩ := hv.sl_inv
  ·exact absurd h hne
  ·have hflat : flat xs = xs := by
    have : ∀ ms : List Int, flat (ms.map fun n => AV.sc (.int .u8 n)) = ms.map fun n => AV.sc (.int .u8 n) := fun ms => by
     induction ms with
     | nil => rfl
     | cons n ms ih => simp only [List.map_cons, flat, List.flatMap_cons, AV.cells] at ih ⊢; rw [ih]; rfl
    rw [hxs]; exact this ns
   rw [hflat] at g4
   have hvals : vals = ns.map (Value.int .u8) := by
    apply List.ext_getElem?
    intro j
    have hlen := g4.1
    by_cases hj : j < vals.length
    ·obtain ⟨u, hu⟩ : ∃ u, vals[j]? = some u := ⟨vals[j], by simp [hj]⟩
     have hjx : j < xs.length := by omega
     have hxj : xs[j]? = (ns[j]?).map fun n => AV.sc (.int .u8 n) := by rw [hxs, List.getElem?_map]
     cases hn : ns[j]? with
     | none => rw [hn] at hxj; simp at hxj; omega
     | some n =>
      rw [hn] at hxj
      have hr := g4.2 j _ u hxj hu
      cases hr
      rw [hu, List.getElem?_map, hn]; rfl
    ·have hnl : xs.length = ns.length := by rw [hxs, List.length_map]
     rw [List.getElem?_eq_none (by omega), List.getElem?_eq_none (by rw [List.length_map]; omega)]
   have hl := run_loadCells_list (P := P) w ⟨b, off, none⟩ vals (fun j u hj => by rw [Addr.add_none]; exact g3 j u hj)
   have hlen : vals.length = xs.length := g4.1.symm
   rw [hlen, hvals] at hl
   refine .pure hg ?_ (.froz (.sc _))
   rw [run_convert_bytes_string w src dst e _ _ _ h1 h3 h2, run_bytesToString w _ _ _ ns hl]
   rfl
 ·exact h.elim
end ops
mutual
def AV.mapTop (f : AV -> AV) : AV -> AV
 | .ag cs => .ag (mapTops f cs)
 | .tup cs => .tup (mapTops f cs)
 | .any => f .any
 | .nil => f .nil
 | .ub => f .ub
 | .sc v => f (.sc v)
 | .sl t es xs => f (.sl t es xs)
 | .pb i o => f (.pb i o)
 | .pe t es xs i o => f (.pe t es xs i o)
 | .fn g caps => f (.fn g caps)
 | .fp cs o => f (.fp cs o)
 | .so t xs => f (.so t xs)
 | .po t xs i => f (.po t xs i)
 | .mp t P k e D => f (.mp t P k e D)
 | .cl g caps => f (.cl g caps)
 | .tl t es xs i => f (.tl t es xs i)
def mapTops (f : AV -> AV) : List AV -> List AV
 | [] => []
 | x :: r => AV.mapTop f x :: mapTops f r
end
theorem mapTops_eq (f : AV -> AV) : ∀ cs : List AV, mapTops f cs = cs.map (AV.mapTop f)
 | [] => by simp [mapTops]
 | x :: r => by simp [mapTops, mapTops_eq f r]
def AV.leafy : AV -> Bool
 | .ag _ => false
 | .tup _ => false
 | _ => true
theorem AV.mapTop_leaf (f : AV -> AV) {x : AV} (h : x.leafy = true) : x.mapTop f = f x := by
 cases x <;> first | (simp [AV.leafy] at h; done) | simp [AV.mapTop]
theorem FRel.mapTop {f : AV -> AV} {S : Nat -> Prop} {w w' : World} {G' : Nat -> Status} (hleaf : ∀ x v, x.leafy = true -> FRel S w x v -> VRel G' w' (f x) v)
  {x : AV} {v : Value} (h : FRel S w x v) : VRel G' w' (x.mapTop f) v := by
 induction h with
 | ag cs vs h1 h0 _ ih =>
  simp only [AV.mapTop, mapTops_eq]
  refine .ag _ _ (by simpa using h1) h0 fun j x u hx hu => ?_
  simp only [List.getElem?_map] at hx
  cases hc : cs[j]? with
  | none => simp [hc] at hx
  | some c => simp [hc] at hx; subst hx; exact ih j c u hc hu
 | tup cs vs h1 _ ih =>
  simp only [AV.mapTop, mapTops_eq]
  refine .tup _ _ (by simpa using h1) fun j x u hx hu => ?_
  simp only [List.getElem?_map] at hx
  cases hc : cs[j]? with
  | none => simp [hc] at hx
  | some c => simp [hc] at hx; subst hx; exact ih j c u hc hu
 | any v => exact hleaf _ _ rfl (.any v)
 | nil => exact hleaf _ _ rfl .nil
 | ub b => exact hleaf _ _ rfl (.ub b)
 | sc v => exact hleaf _ _ rfl (.sc v)
 | slNil t es a c h1 h2 h3 => exact hleaf _ _ rfl (.slNil t es a c h1 h2 h3)
 | sl t es xs b off c vals h1 h2 h3 hc h4 h5 h0 h6 h7 => exact hleaf _ _ rfl (.sl t es xs b off c vals h1 h2 h3 hc h4 h5 h0 h6 h7)
 | pe t es xs i o b off c h1 h2 => exact hleaf _ _ rfl (.pe t es xs i o b off c h1 h2)
 | fn g caps vs h1 h2 => exact hleaf _ _ rfl (.fn g caps vs h1 h2)
 | fp cs o b vals h1 h2 h0 h3 h4 => exact hleaf _ _ rfl (.fp cs o b vals h1 h2 h0 h3 h4)
theorem VRel.mapTop {f : AV -> AV} {w w' : World} {G G' : Nat -> Status} (hleaf : ∀ x v, x.leafy = true -> VRel G w x v -> VRel G' w' (f x) v)
  {x : AV} {v : Value} (h : VRel G w x v) : VRel G' w' (x.mapTop f) v := by
 induction h with
 | froz h => exact h.mapTop fun x v hx h => hleaf x v hx (.froz h)
 | own t es xs v e vals h1 h2 h3 h4 h0 h5 => exact hleaf _ _ rfl (.own t es xs v e vals h1 h2 h3 h4 h0 h5)
 | ag cs vs h1 h0 _ ih =>
  simp only [AV.mapTop, mapTops_eq]
  refine .ag _ _ (by simpa using h1) h0 fun j x u hx hu => ?_
  simp only [List.getElem?_map] at hx
  cases hc : cs[j]? with
  | none => simp [hc] at hx
  | some c => simp [hc] at hx; subst hx; exact ih j c u hc hu
 | tup cs vs h1 _ ih =>
  simp only [AV.mapTop, mapTops_eq]
  refine .tup _ _ (by simpa using h1) fun j x u hx hu => ?_
  simp only [List.getElem?_map] at hx
  cases hc : cs[j]? with
  | none => simp [hc] at hx
  | some c => simp [hc] at hx; subst hx; exact ih j c u hc hu
 | pb i o b h => exact hleaf _ _ rfl (.pb i o b h)
 | pe t es xs i o b off c h1 h2 => exact hleaf _ _ rfl (.pe t es xs i o b off c h1 h2)
 | so t xs v e vals h1 h2 h3 h4 h0 h5 => exact hleaf _ _ rfl (.so t xs v e vals h1 h2 h3 h4 h0 h5)
 | po t xs i b off c h1 h2 => exact hleaf _ _ rfl (.po t xs i b off c h1 h2)
 | mp t P k e D b n h1 h2 h3 => exact hleaf _ _ rfl (.mp t P k e D b n h1 h2 h3)
 | cl f caps vs h => exact hleaf _ _ rfl (.cl f caps vs h)
 | tl t es xs i b off off' c h1 h2 h3 => exact hleaf _ _ rfl (.tl t es xs i b off off' c h1 h2 h3)
theorem VRel.so_map {G G' : Nat -> Status} {w w' : World} {t t' : Nat} {xs : List AV} {v : Value} {f : AV -> AV} (h : VRel G w (.so t xs) v) (ht' : 2 <= t')
  (hrow : ∀ x u, x.rowLike = true -> LRel G w (root t) x u -> (f x).rowLike = true /\ LRel G' w' (root t') (f x) u) (hb : ∀ b, G b = .tag t -> G' b = .tag t' /\ w'.heap[b]? = w.heap[b]?) : VRel G' w' (.so t' (xs.map f)) v := by
 cases h with
 | froz h => cases h
 | so _ _ _ e vals h1 h2 h3 h4 h0 h5 =>
  refine .so t' _ v e vals ht' (by rw [List.length_map]; exact ownsRow_congr h2 fun b h => (hb b (h3 b h)).2) (fun b h => (hb b (h3 b h)).1) (fun y hy => ?_) h0 ⟨by simpa using h5.1, fun j y u hy hu => ?_⟩
  ·obtain ⟨x, hx, rfl⟩ := List.mem_map.1 hy
   obtain ⟨j, hj⟩ := List.getElem?_of_mem hx
   have hjl : j < vals.length := by rw [<- h5.1]; exact (List.getElem?_eq_some_iff.1 hj).1
   exact (hrow x _ (h4 x hx) (h5.2 j x _ hj (List.getElem?_eq_getElem hjl))).1
  ·rw [List.getElem?_map] at hy
   cases hx : xs[j]? with
   | none => simp [hx] at hy
   | some x => simp [hx] at hy; subst hy; exact (hrow x u (h4 x (List.mem_of_getElem? hx)) (h5.2 j x u hx hu)).2
theorem VRel.so_froz {G : Nat -> Status} {S : Nat -> Prop} {w : World} {t : Nat} {xs : List AV} {v : Value} {f : AV -> AV} (h : VRel G w (.so t xs) v)
  (hrow : ∀ x u, x.rowLike = true -> LRel G w (root t) x u -> (f x).rowLike = true /\ FRel S w (f x) u) (hb : ∀ b, G b = .tag t -> S b) : FRel S w (.sl 0 1 (xs.map f)) v := by
 cases h with
 | froz h => cases h
 | so _ _ _ e vals h1 h2 h3 h4 h0 h5 =>
  have hrl : ∀ y ∈ xs.map f, y.rowLike = true := fun y hy => by
   obtain ⟨x, hx, rfl⟩ := List.mem_map.1 hy
   obtain ⟨j, hj⟩ := List.getElem?_of_mem hx
   have hjl : j < vals.length := by rw [<- h5.1]; exact (List.getElem?_eq_some_iff.1 hj).1
   exact (hrow x _ (h4 x hx) (h5.2 j x _ hj (List.getElem?_eq_getElem hjl))).1
  rcases h2.2 with ⟨hv, hn⟩ | ⟨g, cap, cur, hv, hg, hh, hn, hc, hs, ht⟩
  ·subst hv; obtain rfl := List.eq_nil_of_length_eq_zero hn; exact .slNil 0 1 none 0 (by omega) (by simp) (by simp)
  ·subst hv
   have := FRel.sl (S := S) (w := w) 0 1 (xs.map f) g 0 cap vals (by omega) (hb g (h3 g rfl)) (by simp) (by simpa using hn) (fun y hy => by rw [rowLike_cells (hrl y hy)]; rfl)
    (by rw [rowLike_flat hrl]; simpa using h5.1) h0 (fun j u hj => by
     have : cur.toList[j]? = some u := by
      rw [<- ht, List.getElem?_take] at hj
      split at hj
      ·exact hj
      ·cases hj
     simp only [World.cell?, hh, Nat.zero_add]
     simpa using this)
    (fun j y u hy hu => by
     rw [rowLike_flat hrl, List.getElem?_map] at hy
     cases hx : xs[j]? with
     | none => simp [hx] at hy
     | some x => simp [hx] at hy; subst hy; exact (hrow x u (h4 x (List.mem_of_getElem? hx)) (h5.2 j x u hx hu)).2)
   rw [List.length_map] at this; exact this
theorem VRel.po_of {G' : Nat -> Status} {w' : World} {t i b off c n : Nat} {xs : List AV} (h : VRel G' w' (.so t xs) (.slice (some ⟨b, off, none⟩) n c)) (hn : n = xs.length) (hi : i < n) : VRel G' w' (.po t xs i) (.pointer (some ⟨b, off + i, none⟩)) := by
 subst hn; exact .po t xs i b off c h hi
theorem FRel.pe_of {S : Nat -> Prop} {w' : World} {t i b off c n : Nat} {xs : List AV} (h : FRel S w' (.sl t 1 xs) (.slice (some ⟨b, off, none⟩) n c)) (hn : n = xs.length) (hi : i < n) : FRel S w' (.pe t 1 xs i 0) (.pointer (some ⟨b, off + i, none⟩)) := by
 subst hn
 have := FRel.pe t 1 xs i 0 b off c h hi
 rw [show off + i * 1 + 0 = off + i by omega] at this; exact this
def freezeRow (p : Nat -> Bool) : AV -> AV
 | .sl t es xs => if 2 <= t /\ p (root t) = true then .sl 0 es xs else .sl t es xs
 | x => x
def freezeLeaf (p : Nat -> Bool) : AV -> AV
 | .sl t es xs => if 2 <= t /\ p (root t) = true then .sl 0 es xs else .sl t es xs
 | .pe t es xs i o => if 2 <= t /\ p (root t) = true then .pe 0 es xs i o else .pe t es xs i o
 | .so t xs => if p (root t) = true then .sl 0 1 (xs.map (freezeRow p)) else .so t xs
 | .po t xs i => if p (root t) = true then .pe 0 1 (xs.map (freezeRow p)) i 0 else .po t xs i
 | .mp t P k e D => if p (root t) = true then .any else .mp t P k e D
 | .tl t es xs i => if 2 <= t /\ p (root t) = true then .any else .tl t es xs i
 | x => x
def AV.freeze (p : Nat -> Bool) (x : AV) : AV := x.mapTop (freezeLeaf p)
def freezeG (p : Nat -> Bool) (G : Nat -> Status) (b : Nat) : Status :=
 match G b with
 | .tag t => if p (root t) = true then .stable else .tag t
 | s => s
theorem freezeG_stable {p : Nat -> Bool} {G : Nat -> Status} {b : Nat} (h : Stable G b) : Stable (freezeG p G) b := by
 unfold Stable at *; simp [freezeG, h]
theorem own_froz {_G : Nat -> Status} {S : Nat -> Prop} {w : World} {_t es : Nat} {xs : List AV} {v : Value} {e : TypeId} {vals : List Value} (h2 : w.ownsRow 0 e es v xs.length vals)
  (h3 : ∀ b, v.ownBlock = some b -> S b) (h4 : ∀ x ∈ xs, x.cells.length = es) (h0 : One vals) (h5 : PW (FRel S w) (flat xs) vals) : FRel S w (.sl 0 es xs) v := by
 rcases h2.2 with ⟨hv, hn⟩ | ⟨g, cap, cur, hv, hg, hh, hn, hc, hs, ht⟩
 ·subst hv; obtain rfl := List.eq_nil_of_length_eq_zero hn; exact .slNil 0 es none 0 (by omega) (by simp) (by simp)
 ·subst hv
  refine .sl 0 es xs g 0 cap vals (by omega) (h3 g rfl) (by simp) hn h4 h5.1 h0 (fun j u hj => ?_) h5.2
  have : cur.toList[j]? = some u := by
   rw [<- ht, List.getElem?_take] at hj
   split at hj
   ·exact hj
   ·cases hj
  simp only [World.cell?, hh, Nat.zero_add]
  simpa using this
theorem freezeLeaf_sl {p : Nat -> Bool} {G : Nat -> Status} {w : World} {t es : Nat} {xs : List AV} {v : Value} (h : VRel G w (.sl t es xs) v) : VRel (freezeG p G) w (freezeLeaf p (.sl t es xs)) v := by
 cases h with
 | froz h =>
  have ht : t < 2 := by cases h <;> assumption
  simp only [freezeLeaf]
  rw [if_neg (by omega)]
  exact .froz (h.mono (fun b => freezeG_stable) (fun _ _ => rfl))
 | own _ _ _ _ e vals h1 h2 h3 h4 h0 h5 =>
  have h5' : PW (FRel (Stable (freezeG p G)) w) (flat xs) vals := h5.mono fun x y _ hr => hr.mono (fun b => freezeG_stable) (fun _ _ => rfl)
  simp only [freezeLeaf]
  by_cases hp : p (root t) = true
  ·rw [if_pos ⟨h1, hp⟩]
   exact .froz (own_froz (_G := G) (_t := t) h2 (fun b hb => by unfold Stable freezeG; rw [h3 b hb]; simp [hp]) h4 h0 h5')
  ·rw [if_neg (fun h => hp h.2)]
   exact .own t es xs v e vals h1 h2 (fun b hb => by unfold freezeG; rw [h3 b hb]; simp [hp]) h4 h0 h5'
theorem freezeLeaf_so {p : Nat -> Bool} {G : Nat -> Status} {w : World} {t : Nat} {xs : List AV} {v : Value} (h : VRel G w (.so t xs) v) : VRel (freezeG p G) w (freezeLeaf p (.so t xs)) v := by
 simp only [freezeLeaf]
 by_cases hp : p (root t) = true
 ·rw [if_pos hp]
  refine .froz (h.so_froz (fun x u hx hr => ?_) (fun b hb => by unfold Stable freezeG; rw [hb]; simp [hp]))
  cases hr with
  | froz hr =>
   have hr' := hr.mono (S' := Stable (freezeG p G)) (w' := w) (fun b => freezeG_stable) (fun _ _ => rfl)
   cases x <;> first | exact ⟨hx, hr'⟩ | skip
   rename_i t' es ys
   have : t' < 2 := by cases hr <;> assumption
   simp only [freezeRow]; rw [if_neg (by omega)]; exact ⟨hx, hr'⟩
  | own t' es ys _ e vals h1 hrt h2 h3 h4 h0 h5 =>
   simp only [freezeRow]; rw [if_pos ⟨h1, by rw [hrt]; exact hp⟩]
   exact ⟨rfl, own_froz (_G := G) (_t := t') h2 (fun b hb => by unfold Stable freezeG; rw [h3 b hb]; simp [hrt, hp]) h4 h0 (h5.mono fun x y _ hr => hr.mono (fun b => freezeG_stable) (fun _ _ => rfl))⟩
 ·rw [if_neg hp]
  have ht : 2 <= t := by cases h with | froz h => cases h | so _ _ _ _ _ h1 => exact h1
  have := h.so_map (f := id) (G' := freezeG p G) (w' := w) (t' := t) ht (fun x u hx hr => ⟨hx, by
   cases hr with
   | froz hr => exact .froz (hr.mono (fun b => freezeG_stable) (fun _ _ => rfl))
   | own t' es ys _ e vals h1 hrt h2 h3 h4 h0 h5 =>
    exact .own t' es ys _ e vals h1 hrt h2 (fun b hb => by unfold freezeG; rw [h3 b hb]; simp [hrt, hp]) h4 h0 (h5.mono fun x y _ hr => hr.mono (fun b => freezeG_stable) (fun _ _ => rfl))⟩)
   (fun b hb => ⟨by unfold freezeG; rw [hb]; simp [hp], rfl⟩)
  simpa using this
theorem VRel.freeze {p : Nat -> Bool} {G : Nat -> Status} {w : World} {x : AV} {v : Value} (h : VRel G w x v) : VRel (freezeG p G) w (x.freeze p) v := by
 refine h.mapTop fun x v hx h => ?_
 cases x with
 | sl t es xs => exact freezeLeaf_sl h
 | pe t es xs i o =>
  obtain ⟨b, off, c, h1, h2, rfl⟩ := h.pe_inv
  have := freezeLeaf_sl (p := p) h1
  simp only [freezeLeaf] at this ⊢
  split at this
  ·rename_i hp; rw [if_pos hp]; exact .pe _ _ _ _ _ _ _ _ this h2
  ·rename_i hp; rw [if_neg hp]; exact .pe _ _ _ _ _ _ _ _ this h2
 | so t xs => exact freezeLeaf_so h
 | po t xs i =>
  obtain ⟨b, off, c, h1, h2, rfl⟩ := h.po_inv
  have := freezeLeaf_so (p := p) h1
  simp only [freezeLeaf] at this ⊢
  split at this
  ·rename_i hp; rw [if_pos hp]
   cases this with
   | froz this => exact .froz (this.pe_of (by simp) h2)
   | own _ _ _ _ _ _ h => omega
  ·rename_i hp; rw [if_neg hp]; exact this.po_of rfl h2
 | pb i o => obtain ⟨b, hb, rfl⟩ := h.pb_inv; exact .pb _ _ _ (by simp [freezeG, hb])
 | ag cs => simp [AV.leafy] at hx
 | tup cs => simp [AV.leafy] at hx
 | any => exact .froz (.any _)
 | nil => rw [h.nil_inv]; exact .froz .nil
 | ub => obtain ⟨b, rfl⟩ := h.ub_inv; exact .froz (.ub b)
 | sc u => rw [h.sc_inv]; exact .froz (.sc _)
 | fn g caps => cases h with | froz h => exact .froz (h.mono (fun b => freezeG_stable) (fun _ _ => rfl))
 | mp t P k e D =>
  simp only [freezeLeaf]; split
  ·exact .froz (.any _)
  ·rename_i hp; exact h.mpMono (fun b hb => by simp [freezeG, hb, hp]) (fun _ _ _ _ _ => rfl)
 | cl g caps => exact h.clMono (fun b => freezeG_stable) (fun _ _ => rfl) (fun b i hb => by simp [freezeG, hb])
 | tl t es xs i =>
  obtain ⟨b, off, off', c, h1, h2, h3, _, rfl⟩ := h.tl_inv
  have := freezeLeaf_sl (p := p) h1
  simp only [freezeLeaf] at this ⊢
  split at this
  ·rename_i hp; rw [if_pos hp]; exact .froz (.any _)
  ·rename_i hp; rw [if_neg hp]; exact .tl _ _ _ _ _ _ _ _ this h2 h3
 | fp cs o => cases h with | froz h => exact .froz (h.mono (fun b => freezeG_stable) (fun _ _ => rfl))
theorem Good.freeze {p : Nat -> Bool} {G : Nat -> Status} {w : World} (h : Good G w) : Good (freezeG p G) w := by
 have key : ∀ b t, freezeG p G b = .tag t -> G b = .tag t := by
  intro b t hb; unfold freezeG at hb
  split at hb
  ·rename_i t' ht; split at hb
   ·cases hb
   ·rw [ht]; exact hb
  ·exact hb
 have keyb : ∀ b i, freezeG p G b = .box i -> G b = .box i := by
  intro b t hb; unfold freezeG at hb
  split at hb
  ·split at hb <;> cases hb
  ·exact hb
 refine ⟨fun b hb => h.lt b fun h' => hb ?_, fun b b' t h1 h2 => h.tags b b' t (key _ _ h1) (key _ _ h2), fun b b' i h1 h2 => h.boxes b b' i (keyb _ _ h1) (keyb _ _ h2)⟩
 simp [freezeG, h']
def killRow (t0 : Nat) : AV -> AV
 | .sl t es xs => if t = t0 then .any else .sl t es xs
 | x => x
def killLeaf (t0 : Nat) : AV -> AV
 | .so t xs => if t = t0 then .any else .so t (xs.map (killRow t0))
 | .po t xs i => if t = t0 then .any else .po t (xs.map (killRow t0)) i
 | .sl t es xs => if t = t0 then .any else .sl t es xs
 | .pe t es xs i o => if t = t0 then .any else .pe t es xs i o
 | .mp t P k e D => if t = t0 then .any else .mp t P k e D
 | .tl t es xs i => if t = t0 then .any else .tl t es xs i
 | x => x
def AV.kill (t0 : Nat) (x : AV) : AV := x.mapTop (killLeaf t0)
def killG (t0 : Nat) (G : Nat -> Status) (b : Nat) : Status := if G b = .tag t0 then .junk else G b
theorem killG_stable {t0 : Nat} {G : Nat -> Status} {b : Nat} : Stable (killG t0 G) b ↔ Stable G b := by
 unfold Stable killG
 by_cases h : G b = .tag t0
 ·simp [h]
 ·simp [h]
theorem killLeaf_sl {t0 : Nat} {G : Nat -> Status} {w : World} {t es : Nat} {xs : List AV} {v : Value} (ht0 : t ≠ t0) (h : VRel G w (.sl t es xs) v) : VRel (killG t0 G) w (.sl t es xs) v := by
 cases h with
 | froz h => exact .froz (h.mono (fun b => killG_stable.2) (fun _ _ => rfl))
 | own _ _ _ _ e vals h1 h2 h3 h4 h0 h5 =>
  exact .own t es xs v e vals h1 h2 (fun b hb => by unfold killG; rw [h3 b hb, if_neg (by simpa using ht0)]) h4 h0 (h5.mono fun x y _ hr => hr.mono (fun b => killG_stable.2) (fun _ _ => rfl))
theorem killRow_rel {t0 r : Nat} {G : Nat -> Status} {w : World} {x : AV} {u : Value} (hx : x.rowLike = true) (hr : LRel G w r x u) : (killRow t0 x).rowLike = true /\ LRel (killG t0 G) w r (killRow t0 x) u := by
 cases hr with
 | froz hr =>
  have hr' := hr.mono (S' := Stable (killG t0 G)) (w' := w) (fun b => killG_stable.2) (fun _ _ => rfl)
  cases x <;> first | exact ⟨hx, .froz hr'⟩ | skip
  simp only [killRow]; split
  ·exact ⟨rfl, .froz (.any _)⟩
  ·exact ⟨hx, .froz hr'⟩
 | own t' es ys _ e vals h1 hrt h2 h3 h4 h0 h5 =>
  simp only [killRow]; split
  ·exact ⟨rfl, .froz (.any _)⟩
  ·rename_i hn
   exact ⟨rfl, .own t' es ys _ e vals h1 hrt h2 (fun b hb => by unfold killG; rw [h3 b hb, if_neg (by simpa using hn)]) h4 h0 (h5.mono fun x y _ hr => hr.mono (fun b => killG_stable.2) (fun _ _ => rfl))⟩
theorem killLeaf_so {t0 : Nat} {G : Nat -> Status} {w : World} {t : Nat} {xs : List AV} {v : Value} (hne : t ≠ t0) (h : VRel G w (.so t xs) v) : VRel (killG t0 G) w (.so t (xs.map (killRow t0))) v := by
 have ht : 2 <= t := by cases h with | froz h => cases h | so _ _ _ _ _ h1 => exact h1
 exact h.so_map ht (fun x u hx hr => killRow_rel hx hr) (fun b hb => ⟨by unfold killG; rw [hb, if_neg (by simpa using hne)], rfl⟩)
theorem VRel.kill {t0 : Nat} {G : Nat -> Status} {w : World} {x : AV} {v : Value} (h : VRel G w x v) : VRel (killG t0 G) w (x.kill t0) v := by
 refine h.mapTop fun x v hx h => ?_
 cases x with
 | sl t es xs =>
  simp only [killLeaf]; split
  ·exact .froz (.any _)
  ·rename_i hp; exact killLeaf_sl hp h
 | pe t es xs i o =>
  obtain ⟨b, off, c, h1, h2, rfl⟩ := h.pe_inv
  simp only [killLeaf]; split
  ·exact .froz (.any _)
  ·rename_i hp; exact .pe _ _ _ _ _ _ _ _ (killLeaf_sl hp h1) h2
 | so t xs =>
  simp only [killLeaf]; split
  ·exact .froz (.any _)
  ·rename_i hp; exact killLeaf_so hp h
 | po t xs i =>
  obtain ⟨b, off, c, h1, h2, rfl⟩ := h.po_inv
  simp only [killLeaf]; split
  ·exact .froz (.any _)
  ·rename_i hp; exact (killLeaf_so hp h1).po_of (by simp) h2
 | pb i o => obtain ⟨b, hb, rfl⟩ := h.pb_inv; exact .pb _ _ _ (by simp [killG, hb])
 | ag cs => simp [AV.leafy] at hx
 | tup cs => simp [AV.leafy] at hx
 | any => exact .froz (.any _)
 | nil => rw [h.nil_inv]; exact .froz .nil
 | ub => obtain ⟨b, rfl⟩ := h.ub_inv; exact .froz (.ub b)
 | sc u => rw [h.sc_inv]; exact .froz (.sc _)
 | fn g caps => cases h with | froz h => exact .froz (h.mono (fun b => killG_stable.2) (fun _ _ => rfl))
 | mp t P k e D =>
  simp only [killLeaf]; split
  ·exact .froz (.any _)
  ·rename_i hp; exact h.mpMono (fun b hb => by unfold killG; rw [hb, if_neg (by simpa using hp)]) (fun _ _ _ _ _ => rfl)
 | cl g caps => exact h.clMono (fun b => killG_stable.2) (fun _ _ => rfl) (fun b i hb => by simp [killG, hb])
 | tl t es xs i =>
  obtain ⟨b, off, off', c, h1, h2, h3, _, rfl⟩ := h.tl_inv
  simp only [killLeaf]; split
  ·exact .froz (.any _)
  ·rename_i hp; exact .tl _ _ _ _ _ _ _ _ (killLeaf_sl hp h1) h2 h3
 | fp cs o => cases h with | froz h => exact .froz (h.mono (fun b => killG_stable.2) (fun _ _ => rfl))
def shiftTag (k t : Nat) : Nat := if t < 2 then t else t + k
def shiftRow (k : Nat) : AV -> AV
 | .sl t es xs => .sl (shiftTag k t) es xs
 | x => x
def shiftLeaf (k : Nat) : AV -> AV
 | .so t xs => .so (shiftTag k t) (xs.map (shiftRow k))
 | .po t xs i => .po (shiftTag k t) (xs.map (shiftRow k)) i
 | .sl t es xs => .sl (shiftTag k t) es xs
 | .pe t es xs i o => .pe (shiftTag k t) es xs i o
 | x => x
def AV.shift (k : Nat) (x : AV) : AV := x.mapTop (shiftLeaf k)
def fzLeaf : AV -> Bool
 | .sl t _ _ => decide (t < 2)
 | .pe t _ _ _ _ => decide (t < 2)
 | .pb _ _ => false
 | .ag _ => false
 | .tup _ => false
 | .so _ _ => false
 | .po _ _ _ => false
 | .mp _ _ _ _ _ => false
 | .cl _ _ => false
 | .tl _ _ _ _ => false
 | _ => true
def AV.fz : AV -> Bool
 | .ag cs => cs.all fzLeaf
 | x => fzLeaf x
def AV.one : AV -> Bool
 | .any => false
 | .tup _ => false
 | .mp _ _ _ _ _ => false
 | .cl _ _ => false
 | .tl _ _ _ _ => false
 | .sc v => v.oneCell'
 | _ => true
theorem VRel.fzLeaf {G : Nat -> Status} {w : World} {x : AV} {v : Value} (h : VRel G w x v) (hx : AM.fzLeaf x = true) : FRel (Stable G) w x v := by
 cases h with
 | froz h => exact h
 | own t es xs v e vals h1 => simp [AM.fzLeaf] at hx; omega
 | ag => simp [AM.fzLeaf] at hx
 | tup => simp [AM.fzLeaf] at hx
 | pb => simp [AM.fzLeaf] at hx
 | so => simp [AM.fzLeaf] at hx
 | po => simp [AM.fzLeaf] at hx
 | mp => simp [AM.fzLeaf] at hx
 | cl => simp [AM.fzLeaf] at hx
 | tl => simp [AM.fzLeaf] at hx
 | pe t es xs i o b off c h1 h2 =>
  simp [AM.fzLeaf] at hx
  cases h1 with
  | froz h => exact .pe _ _ _ _ _ _ _ _ h h2
  | own _ _ _ _ e vals h1 => omega
theorem VRel.fz {G : Nat -> Status} {w : World} {x : AV} {v : Value} (h : VRel G w x v) (hx : x.fz = true) : FRel (Stable G) w x v := by
 cases x with
 | ag cs =>
  obtain ⟨vs, rfl, h0, h1⟩ := h.ag_inv
  simp only [AV.fz, List.all_eq_true] at hx
  exact .ag cs vs h1.1 h0 fun j x u hxj hu => (h1.2 j x u hxj hu).fzLeaf (hx x (List.mem_of_getElem? hxj))
 | _ => exact h.fzLeaf hx
theorem FRel.cells {S : Nat -> Prop} {w : World} {x : AV} {v : Value} (h : FRel S w x v) (h1 : x.one = true) : PW (FRel S w) x.cells v.cells.toList /\ One v.cells.toList := by
 have leaf : x.leafy = true -> x ≠ .any -> v.oneCell' = true -> PW (FRel S w) x.cells v.cells.toList /\ One v.cells.toList := by
  intro h2 _ h3
  have hc : x.cells = [x] := by cases x <;> first | rfl | (simp [AV.leafy] at h2)
  have hv : v.cells.toList = [v] := by cases v <;> first | rfl | (simp [Value.oneCell'] at h3)
  rw [hc, hv]
  exact ⟨.cons h (.nil _), fun u hu => by simp at hu; subst hu; exact h3⟩
 cases h with
 | any => simp [AV.one] at h1
 | ag cs vs h2 h0 h3 => exact ⟨⟨h2, h3⟩, h0⟩
 | tup => simp [AV.one] at h1
 | sc v => exact leaf rfl (by simp) (by simpa [AV.one] using h1)
 | _ => exact leaf rfl (by simp) rfl
def updG (G : Nat -> Status) (n : Nat) (s : Status) (b : Nat) : Status := if b = n then s else G b
theorem Ext.alloc {G : Nat -> Status} {w : World} (o : Obj) (s : Status) : Ext G w (updG G w.heap.size s) (w.alloc o) :=
 ⟨rfl, rfl, rfl, by simp, fun b hb => by simp [updG, Nat.ne_of_lt hb], fun b hb => heap_alloc_old w o hb⟩
theorem Good.upd {G : Nat -> Status} {w w' : World} (hg : Good G w) (n : Nat) (s : Status) (hn : w.heap.size <= n) (hn' : n < w'.heap.size) (_hsz : w.heap.size <= w'.heap.size)
  (ht : ∀ t, s = .tag t -> ∀ b, G b ≠ .tag t) (hb : ∀ i, s = .box i -> ∀ b, G b ≠ .box i) : Good (updG G n s) w' := by
 have hj : G n = .junk := Classical.byContradiction fun h => by have := hg.lt n h; omega
 refine ⟨fun b h => ?_, fun b b' t h1 h2 => ?_, fun b b' i h1 h2 => ?_⟩
 ·by_cases e : b = n
  ·omega
  ·simp only [updG, e, if_false] at h; have := hg.lt b h; omega
 ·simp only [updG] at h1 h2
  split at h1 <;> split at h2
  ·omega
  ·exact absurd h2 (ht t h1 _)
  ·exact absurd h1 (ht t h2 _)
  ·exact hg.tags b b' t h1 h2
 ·simp only [updG] at h1 h2
  split at h1 <;> split at h2
  ·omega
  ·exact absurd h2 (hb i h1 _)
  ·exact absurd h1 (hb i h2 _)
  ·exact hg.boxes b b' i h1 h2
def Fresh (d : Nat) (G : Nat -> Status) : Prop := d < 16383 /\ ∀ b t, G b = .tag t -> root t / 64 ≠ d + 1
theorem Fresh.own {d : Nat} {G : Nat -> Status} (h : Fresh d G) : root (64 * (d + 1)) / 64 = d + 1 := by have := h.1; unfold root; omega
theorem Fresh.ne {d b : Nat} {G : Nat -> Status} (h : Fresh d G) (hb : G b = .tag (64 * (d + 1))) : False := h.2 b _ hb h.own
theorem NewTags.upd {d : Nat} {G : Nat -> Status} {n t : Nat} (h : root t / 64 = d + 1) : NewTags d G (updG G n (.tag t)) := by
 refine ⟨fun b t' hb => ?_, fun b i hb => ?_⟩ <;> simp only [updG] at hb <;> split at hb
 ·cases hb; exact .inr h
 ·exact .inl hb
 ·cases hb
 ·exact hb
theorem fold_set (off : Nat) : ∀ (ys : List Value) (j0 : Nat) (pre mid post : List Value), mid.length = ys.length -> pre.length = off + j0 ->
  (ys.zipIdx j0).foldl (fun (cs : Array Value) (p : Value × Nat) => cs.setIfInBounds (off + p.2) p.1) (pre ++ mid ++ post).toArray = (pre ++ ys ++ post).toArray
 | [], j0, pre, mid, post, h, _ => by
  have : mid = [] := List.eq_nil_of_length_eq_zero (by simpa using h)
  subst this; simp
 | y :: ys, j0, pre, mid, post, h, hp => by
  cases mid with
  | nil => simp at h
  | cons m mid =>
   simp only [List.zipIdx_cons, List.foldl_cons]
   have e1 : (pre ++ m :: mid ++ post).toArray.setIfInBounds (off + j0) y = ((pre ++ [y]) ++ mid ++ post).toArray := by
    apply Array.toList_inj.1
    simp only [Array.toList_setIfInBounds, List.append_assoc, List.cons_append, List.nil_append]
    rw [<- hp, List.set_append_right _ _ (Nat.le_refl _)]
    simp
   rw [e1, fold_set off ys (j0 + 1) (pre ++ [y]) mid post (by simpa using h) (by simp; omega)]
   simp
theorem fill_rows (size : Nat) : ∀ (ps : List (Nat × Value)) (k : Nat) (pre tail : List Value), pre.length = k * size -> tail.length = ps.length * size ->
  (∀ j p, ps[j]? = some p -> p.1 = k + j /\ p.2.cells.size = size) ->
  Instr.fill (fun i => some (i * size, size)) (pre ++ tail).toArray ps = some (pre ++ ps.flatMap fun p => p.2.cells.toList).toArray
 | [], k, pre, tail, h1, h2, _ => by
  have : tail = [] := List.eq_nil_of_length_eq_zero (by simpa using h2)
  subst this; simp [Instr.fill]
 | (i, v) :: ps, k, pre, tail, h1, h2, h3 => by
  obtain ⟨hi, hv⟩ := h3 0 (i, v) rfl
  simp only [Nat.add_zero] at hi hv
  subst hi
  have hlen : size <= tail.length := by rw [h2]; simp [Nat.succ_mul]
  simp only [Instr.fill, hv, ne_eq, not_true_eq_false]
  rw [if_neg (by simp; omega)]
  have hsplit : tail = tail.take size ++ tail.drop size := (List.take_append_drop _ _).symm
  have hz : v.cells.zipIdx = (v.cells.toList.zipIdx).toArray := by apply Array.toList_inj.1; rw [Array.toList_zipIdx]
  have hf : v.cells.zipIdx.foldl (fun (cs : Array Value) (x : Value × Nat) => cs.setIfInBounds (i * size + x.2) x.1) (pre ++ tail).toArray = (pre ++ v.cells.toList ++ tail.drop size).toArray := by
   rw [hz, List.foldl_toArray']
   ·rw [hsplit, <- List.append_assoc]
    have := fold_set (i * size) v.cells.toList 0 pre (tail.take size) (tail.drop size) (by simp [hv]; omega) (by simpa using h1)
    simpa using this
   ·simp
  rw [show (Array.foldl (fun cs x => match x with | (c, j) => cs.setIfInBounds (i * size + j) c) (pre ++ tail).toArray v.cells.zipIdx) = _ from hf]
  rw [fill_rows size ps (i + 1) (pre ++ v.cells.toList) (tail.drop size) (by simp [hv, h1, Nat.succ_mul]) (by rw [List.length_drop, h2]; simp [Nat.succ_mul]) (fun j p hj => by
   have := h3 (j + 1) p (by simpa using hj); exact ⟨by omega, this.2⟩)]
  simp
theorem PW.flatMap {α β γ δ : Type} {R : γ -> δ -> Prop} {f : α -> List γ} {g : β -> List δ} : ∀ {xs : List α} {ys : List β}, PW (fun x y => PW R (f x) (g y)) xs ys -> PW R (xs.flatMap f) (ys.flatMap g)
 | [], ys, h => by rw [h.nil_inv]; exact .nil R
 | x :: xs, ys, h => by
  obtain ⟨y, ys', rfl, h1, h2⟩ := h.cons_inv
  simp only [List.flatMap_cons]
  exact h1.append h2.flatMap
section ops
variable {P : Program}
def idxOk : Nat -> List (Nat × AV) -> Bool
 | _, [] => true
 | k, (i, _) :: r => decide (i = k) && idxOk (k + 1) r
theorem idxOk_spec : ∀ (ps : List (Nat × AV)) (k : Nat), idxOk k ps = true -> ∀ (j : Nat) p, ps[j]? = some p -> p.1 = k + j
 | [], _, _, j, p, h => by simp at h
 | (i, x) :: r, k, hk, j, p, h => by
  simp only [idxOk, Bool.and_eq_true, decide_eq_true_eq] at hk
  cases j with
  | zero => simp at h; subst h; simpa using hk.1
  | succ j => have := idxOk_spec r (k + 1) hk.2 j p (by simpa using h); omega
def partOk (es : Nat) (x : AV) : Bool := decide (x.cells.length = es) && x.fz && x.one
def evBuildSlice (P : Program) (d : Nat) (T : TypeId) (len : Nat) (ps : List (Nat × AV)) (K : AV -> Prop) : Prop :=
 match P.underlying T with
 | some (.slice E) => ∃ q, tinfo P E = some q /\ 0 < q.1 /\ q.2.2.isSome = true /\ len * q.1 <= 16777216 /\ ps.length = len /\ idxOk 0 ps = true /\ (ps.all fun p => partOk q.1 p.2) = true /\ K (.sl (64 * (d + 1)) q.1 (ps.map (·.2)))
 | _ => False
theorem evBuildSlice_sound {d : Nat} {T : TypeId} {len : Nat} {ps : List (Nat × AV)} {K : AV -> Prop} (h : evBuildSlice P d T len ps K) :
  ∃ r, K r /\ ∀ (G : Nat -> Status) (w : World) (vs : Array (Nat × Value)), Good G w -> Fresh d G -> PW (fun p q => p.1 = q.1 /\ VRel G w p.2 q.2) ps vs.toList -> Does P d G w (Instr.buildSlice T len vs) r := by
 unfold evBuildSlice at h
 split at h
 ·rename_i E hT
  obtain ⟨⟨sz, by_, z⟩, hq, h0, hz, hlen, hpl, hidx, hall, hK⟩ := h
  refine ⟨_, hK, fun G w vs hg hf hv => ?_⟩
  cases z with
  | none => simp at hz
  | some z =>
  simp only at h0 hlen hall ⊢
  obtain ⟨i, hi, hsz, hby, hzz⟩ := tinfo_some hq
  have hall' : ∀ p ∈ ps, p.2.cells.length = sz /\ p.2.fz = true /\ p.2.one = true := by
   intro p hp
   have := List.all_eq_true.1 hall p hp
   simp only [partOk, Bool.and_eq_true, decide_eq_true_eq] at this
   exact ⟨this.1.1, this.1.2, this.2⟩
  have hpart : ∀ (j : Nat) p q, ps[j]? = some p -> vs.toList[j]? = some q -> PW (FRel (Stable G) w) p.2.cells q.2.cells.toList /\ One q.2.cells.toList := by
   intro j p q hp hq'
   obtain ⟨_, h2, h3⟩ := hall' p (List.mem_of_getElem? hp)
   exact ((hv.2 j p q hp hq').2.fz h2).cells h3
  have hrows := fill_rows sz vs.toList 0 [] ((Array.range (len * sz)).map (fun x => (if len * sz = 0 then (#[] : Array Value) else z.cells)[x % (if len * sz = 0 then (#[] : Array Value) else z.cells).size]!)).toList (by simp) (by simp [<- hv.1, hpl])
   (fun j q hj => by
    have hjl : j < ps.length := by rw [hv.1]; exact (List.getElem?_eq_some_iff.1 hj).1
    have hp := List.getElem?_eq_getElem hjl
    have h1 := hv.2 j _ q hp hj
    have h2 := idxOk_spec ps 0 hidx j _ hp
    have h3 := (hpart j _ q hp hj).1.1
    have h4 := (hall' _ (List.mem_of_getElem? hp)).1
    exact ⟨by rw [<- h1.1]; exact h2, by simpa [h4] using h3.symm⟩)
  simp only [List.nil_append] at hrows
  have hcells : PW (FRel (Stable G) w) (flat (ps.map (·.2))) (vs.toList.flatMap fun p => p.2.cells.toList) := by
   have : flat (ps.map (·.2)) = ps.flatMap fun p => p.2.cells := by simp [flat, List.flatMap_map]
   rw [this]
   exact PW.flatMap ⟨hv.1, fun j p q hp hq' => (hpart j p q hp hq').1⟩
  have hw : ∀ x ∈ ps.map (·.2), x.cells.length = sz := by
   intro x hx; obtain ⟨p, hp, rfl⟩ := List.mem_map.1 hx; exact (hall' p hp).1
  have hcl : (vs.toList.flatMap fun p => p.2.cells.toList).length = len * sz := by rw [<- hcells.1, flat_length hw]; simp [hpl]
  have hone : One (vs.toList.flatMap fun p => p.2.cells.toList) := by
   intro u hu
   obtain ⟨q, hq', hu'⟩ := List.mem_flatMap.1 hu
   obtain ⟨j, hj⟩ := List.getElem?_of_mem hq'
   have hjl : j < ps.length := by rw [hv.1]; exact (List.getElem?_eq_some_iff.1 hj).1
   exact (hpart j _ q (List.getElem?_eq_getElem hjl) hj).2 u hu'
  have hrun : (Instr.buildSlice T len vs).run P w = .ok (.slice (some ⟨w.heap.size, 0, none⟩) len len) (w.alloc (.cells (vs.toList.flatMap fun p => p.2.cells.toList).toArray E)) := by
   have e1 : ¬ (16777216 < len * sz) := by omega
   have hrows' : Instr.fill (fun i => some (i * sz, sz)) ((Array.range (len * sz)).map (fun x => (if len * sz = 0 then (#[] : Array Value) else z.cells)[x % (if len * sz = 0 then (#[] : Array Value) else z.cells).size]!)) vs.toList = some (vs.toList.flatMap fun p => p.2.cells.toList).toArray := by
    simpa only [Array.toArray_toList] using hrows
   by_cases hl0 : len * sz = 0
   ·simp [hl0] at hrows'
    simp [Instr.buildSlice, run_underlying hT, run_sizeOf hq, hl0, hrows', newRow]
   ·simp [hl0] at hrows'
    simp [Instr.buildSlice, run_underlying hT, run_sizeOf hq, e1, hl0, hrows', newRow, zeroValue, typeInfo, hi, hzz]
  have hle : len <= maxLen := by
   have : len <= len * sz := Nat.le_mul_of_pos_right _ h0
   simp only [maxLen]; omega
  refine ⟨_, _, updG G w.heap.size (.tag (64 * (d + 1))), hrun, ?_, .alloc _ _, hg.upd _ _ (Nat.le_refl _) (by simp) (by simp) (fun t ht b hb => ?_) (fun i h => by cases h), .upd hf.own⟩
  ·have hgo := World.ownsRow_lit (base := 0) (e := E) (size := sz) w (vs.toList.flatMap fun p => p.2.cells.toList).toArray len (Nat.zero_le _) hle (by simpa using hcl)
   have : VRel (updG G w.heap.size (.tag (64 * (d + 1)))) (w.alloc (.cells (vs.toList.flatMap fun p => p.2.cells.toList).toArray E)) (.sl (64 * (d + 1)) sz (ps.map (·.2))) (.slice (some ⟨w.heap.size, 0, none⟩) len len) := by
    refine .own _ sz _ _ E (vs.toList.flatMap fun p => p.2.cells.toList) (by omega) (by simpa [hpl] using hgo) (fun b hb => ?_) hw hone (hcells.mono fun x y _ hr => hr.mono (fun b hb => ?_) (fun b hb => ?_))
    ·simp only [Value.ownBlock, Option.some.injEq] at hb; simp [updG, <- hb]
    ·have := hg.lt b (by unfold Stable at hb; rw [hb]; simp)
     unfold Stable at *; simp [updG, Nat.ne_of_lt this, hb]
    ·exact heap_alloc_old w _ (hg.lt b (by unfold Stable at hb; rw [hb]; simp))
   exact this
  ·cases ht; exact hf.ne hb
 ·exact h.elim
end ops
section ops
variable {P : Program}
def evLen (P : Program) (T : TypeId) (x : AV) (K : AV -> Prop) : Prop :=
 match P.underlying T, x with
 | some (.slice _), .sl _ _ xs => K (.sc (.int .i64 xs.length))
 | some (.slice _), .nil => K (.sc (.int .i64 0))
 | some .string, .sc (.string s) => K (.sc (.int .i64 s.size))
 | some (.array n _), .ag _ => K (.sc (.int .i64 n))
 | some (.slice _), .so _ xs => K (.sc (.int .i64 xs.length))
 | some (.slice _), .tl _ _ xs i => K (.sc (.int .i64 (xs.length - i : Nat)))
 | _, _ => False
theorem evLen_sound {T : TypeId} {x : AV} {K : AV -> Prop} (h : evLen P T x K) :
  ∃ r, K r /\ ∀ (ty : TypeId) (d : Nat) (G : Nat -> Status) (w : World) (v : Value), Good G w -> VRel G w x v -> Does P d G w (Builtin.len_ #[T] ty #[v]) r := by
 unfold evLen at h
 split at h
 ·rename_i hT
  refine ⟨_, h, fun ty d G w v hg hv => ?_⟩
  obtain ⟨ao, c, rfl, _⟩ := hv.sl_inv
  exact .pure hg (by simp [Builtin.len_, run_underlying hT, goInt]) (.froz (.sc _))
 ·rename_i hT
  refine ⟨_, h, fun ty d G w v hg hv => ?_⟩
  obtain rfl := hv.nil_inv
  exact .pure hg (by simp [Builtin.len_, run_underlying hT, goInt]) (.froz (.sc _))
 ·rename_i hT
  refine ⟨_, h, fun ty d G w v hg hv => ?_⟩
  obtain rfl := hv.sc_inv
  exact .pure hg (by simp [Builtin.len_, run_underlying hT, goInt]) (.froz (.sc _))
 ·rename_i hT
  refine ⟨_, h, fun ty d G w v hg hv => ?_⟩
  exact .pure hg (by simp [Builtin.len_, run_underlying hT, goInt]) (.froz (.sc _))
 ·rename_i hT
  refine ⟨_, h, fun ty d G w v hg hv => ?_⟩
  obtain ⟨ao, c, rfl, _⟩ := hv.so_inv
  exact .pure hg (by simp [Builtin.len_, run_underlying hT, goInt]) (.froz (.sc _))
 ·rename_i hT
  refine ⟨_, h, fun ty d G w v hg hv => ?_⟩
  obtain ⟨b, off, off', c, _, _, _, _, rfl⟩ := hv.tl_inv
  exact .pure hg (by simp [Builtin.len_, run_underlying hT, goInt]) (.froz (.sc _))
 ·exact h.elim
def evMax (x y : AV) (K : AV -> Prop) : Prop :=
 match x, y with
 | .sc (.int k a), .sc (.int _ b) => K (.sc (.int k (max a b)))
 | _, _ => False
def evMin (x y : AV) (K : AV -> Prop) : Prop :=
 match x, y with
 | .sc (.int k a), .sc (.int _ b) => K (.sc (.int k (min a b)))
 | _, _ => False
theorem evMax_sound {x y : AV} {K : AV -> Prop} (h : evMax x y K) :
  ∃ r, K r /\ ∀ (As : Array TypeId) (ty : TypeId) (d : Nat) (G : Nat -> Status) (w : World) (v u : Value), Good G w -> VRel G w x v -> VRel G w y u -> Does P d G w (Builtin.max_ As ty #[v, u]) r := by
 unfold evMax at h
 split at h
 ·refine ⟨_, h, fun As ty d G w v u hg hv hu => ?_⟩
  obtain rfl := hv.sc_inv; obtain rfl := hu.sc_inv
  rename_i k a _ b
  refine .pure hg (v := .int k (max a b)) ?_ (.froz (.sc _))
  have : (if a < b then b else a) = max a b := by omega
  simp [Builtin.max_, Builtin.max2, this]
 ·exact h.elim
theorem evMin_sound {x y : AV} {K : AV -> Prop} (h : evMin x y K) :
  ∃ r, K r /\ ∀ (As : Array TypeId) (ty : TypeId) (d : Nat) (G : Nat -> Status) (w : World) (v u : Value), Good G w -> VRel G w x v -> VRel G w y u -> Does P d G w (Builtin.min_ As ty #[v, u]) r := by
 unfold evMin at h
 split at h
 ·refine ⟨_, h, fun As ty d G w v u hg hv hu => ?_⟩
  obtain rfl := hv.sc_inv; obtain rfl := hu.sc_inv
  rename_i k a _ b
  refine .pure hg (v := .int k (min a b)) ?_ (.froz (.sc _))
  have : (if b < a then b else a) = min a b := by omega
  simp [Builtin.min_, Builtin.min2, this]
 ·exact h.elim
def evCap (P : Program) (T : TypeId) (x : AV) (K : AV -> Prop) : Prop :=
 match P.underlying T, x with
 | some (.slice _), .sl t _ xs => t = 1 /\ K (.sc (.int .i64 xs.length))
 | some (.slice _), .nil => K (.sc (.int .i64 0))
 | _, _ => False
theorem evCap_sound {T : TypeId} {x : AV} {K : AV -> Prop} (h : evCap P T x K) :
  ∃ r, K r /\ ∀ (ty : TypeId) (d : Nat) (G : Nat -> Status) (w : World) (v : Value), Good G w -> VRel G w x v -> Does P d G w (Builtin.cap_ #[T] ty #[v]) r := by
 unfold evCap at h
 split at h
 ·rename_i hT
  obtain ⟨ht, hK⟩ := h
  refine ⟨_, hK, fun ty d G w v hg hv => ?_⟩
  obtain ⟨ao, c, rfl, hc, _⟩ := hv.sl_inv
  have := hc ht; subst this
  exact .pure hg (by simp [Builtin.cap_, run_underlying hT, goInt]) (.froz (.sc _))
 ·rename_i hT
  refine ⟨_, h, fun ty d G w v hg hv => ?_⟩
  obtain rfl := hv.nil_inv
  exact .pure hg (by simp [Builtin.cap_, run_underlying hT, goInt]) (.froz (.sc _))
 ·exact h.elim
def flatL (P : Program) : List Field -> Option (List (Nat × Bool))
 | [] => some []
 | f :: fs => if f.name = "_" then none else if aggT P f.type = some false then match P.underlying f.type with
  | some (.int _) => (flatL P fs).map fun l => (f.offset, true) :: l
  | some .bool => (flatL P fs).map fun l => (f.offset, false) :: l
  | _ => none
  else none
def flatF (P : Program) (T : TypeId) : Option (List (Nat × Bool)) :=
 match P.underlying T with
 | some (.struct fs) => if (P.stoodInHeld T || P.eqGuardType P.depth T) = true then none else flatL P fs.toList
 | _ => none
def eqCK (xs ys : List AV) : List (Nat × Bool) -> (Bool -> Prop) -> Prop
 | [], K => K true
 | (o, true) :: r, K => match xs[o]?, ys[o]? with
  | some (.sc (.int k a)), some (.sc (.int k' b)) => k = k' /\ eqCK xs ys r fun c => K ((a == b) && c)
  | _, _ => False
 | (o, false) :: r, K => match xs[o]?, ys[o]? with
  | some (.sc (.bool a)), some (.sc (.bool b)) => eqCK xs ys r fun c => K ((a == b) && c)
  | _, _ => False
theorem part_cell {G : Nat -> Status} {w : World} {T : TypeId} {xs : List AV} {vs : Array Value} {o : Nat} {c : Value} (ha : aggT P T = some false) (h : PW (VRel G w) xs vs.toList) (hx : xs[o]? = some (.sc c)) : (part T vs o).run P w = .ok c w := by
 have hlt : o < vs.toList.length := by rw [<- h.1]; exact (List.getElem?_eq_some_iff.1 hx).1
 have hu := List.getElem?_eq_getElem hlt
 have := (h.2 _ _ _ hx hu).sc_inv
 have e : vs[o]? = some c := by rw [<- this]; simp
 simp [part, run_isAgg ha, e]
theorem eqCK_sound {xs ys : List AV} : ∀ (fs : List Field) (l : List (Nat × Bool)) (K : Bool -> Prop), flatL P fs = some l -> eqCK xs ys l K ->
  ∃ c, K c /\ ∀ (G : Nat -> Status) (w : World) (vs us : Array Value), PW (VRel G w) xs vs.toList -> PW (VRel G w) ys us.toList -> (Op.eqFields 9999 vs us fs).run P w = .ok c w
 | [], l, K, hl, h => by
  simp only [flatL, Option.some.injEq] at hl
  subst hl
  exact ⟨true, h, fun G w vs us _ _ => by simp [Op.eqFields]⟩
 | f :: fs, l, K, hl, h => by
  unfold flatL at hl
  split at hl
  ·cases hl
  rename_i hname
  split at hl
  case isFalse => cases hl
  rename_i hagg
  split at hl
  ·rename_i k0 hT
   cases hr : flatL P fs with
   | none => simp [hr] at hl
   | some r =>
    simp only [hr, Option.map_some, Option.some.injEq] at hl
    subst hl
    unfold eqCK at h
    split at h
    ·rename_i k a k' b hx hy
     obtain ⟨rfl, h⟩ := h
     obtain ⟨c, hK, hc⟩ := eqCK_sound fs r _ hr h
     refine ⟨_, hK, fun G w vs us hv hu => ?_⟩
     simp only [Op.eqFields, ne_eq, hname, not_false_eq_true, if_true, Sem.run_bind, part_cell hagg hv hx, part_cell hagg hu hy, Result.andThen_ok, run_equalIn_int w 9998 f.type k k0 a b hT]
     by_cases hab : a = b
     ·subst hab; simp [hc G w vs us hv hu]
     ·simp [hab]
    ·exact h.elim
  ·rename_i hT
   cases hr : flatL P fs with
   | none => simp [hr] at hl
   | some r =>
    simp only [hr, Option.map_some, Option.some.injEq] at hl
    subst hl
    unfold eqCK at h
    split at h
    ·rename_i a b hx hy
     obtain ⟨c, hK, hc⟩ := eqCK_sound fs r _ hr h
     refine ⟨_, hK, fun G w vs us hv hu => ?_⟩
     simp only [Op.eqFields, ne_eq, hname, not_false_eq_true, if_true, Sem.run_bind, part_cell hagg hv hx, part_cell hagg hu hy, Result.andThen_ok, run_equalIn_bool' w 9998 f.type a b hT]
     by_cases hab : a = b
     ·subst hab; simp [hc G w vs us hv hu]
     ·simp [hab]
    ·exact h.elim
  ·cases hl
def evBinOp (P : Program) (op : BinOp) (T : TypeId) (x y : AV) (K : AV -> Prop) : Prop :=
 match x, y with
 | .sc u, .sc v => evBin P op T u v fun r => K (.sc r)
 | .sl _ _ xs, .nil => (∃ E, P.underlying T = some (.slice E)) /\ (xs = [] -> (op = .eql \/ op = .neq) /\ K .ub) /\ (xs ≠ [] -> (op = .eql /\ K (.sc (.bool false))) \/ (op = .neq /\ K (.sc (.bool true))))
 | .nil, .nil => (∃ E, P.underlying T = some (.slice E)) /\ ((op = .eql /\ K (.sc (.bool true))) \/ (op = .neq /\ K (.sc (.bool false))))
 | .ag xs, .ag ys => ∃ l, flatF P T = some l /\ eqCK xs ys l fun c => (op = .eql /\ K (.sc (.bool c))) \/ (op = .neq /\ K (.sc (.bool !c)))
 | .pb _ _, .sc (.pointer none) => (∃ E, P.underlying T = some (.pointer E)) /\ op = .neq /\ K (.sc (.bool true))
 | _, _ => False
theorem run_equal_ptr_nil {T E : TypeId} {a : Addr} (h : P.underlying T = some (.pointer E)) (w : World) : (Op.equal T (.pointer (some a)) (.pointer none)).run P w = .ok false w := by
 simp only [Op.equal, Op.maxDepth]
 show (Op.equalIn (9999 + 1) T (.pointer (some a)) (.pointer none)).run P w = _
 rw [Op.equalIn]
 simp [run_underlying h]
theorem run_equal_slice_nil {T E : TypeId} {ao : Option Addr} {n c : Nat} (h : P.underlying T = some (.slice E)) (w : World) : (Op.equal T (.slice ao n c) (.slice none 0 0)).run P w = .ok ao.isNone w := by
 simp only [Op.equal, Op.maxDepth]
 show (Op.equalIn (9999 + 1) T (.slice ao n c) (.slice none 0 0)).run P w = _
 rw [Op.equalIn]
 cases ao <;> simp [run_underlying h]
theorem evBinOp_sound {op : BinOp} {T : TypeId} {x y : AV} {K : AV -> Prop} (a b : Operand) (h : evBinOp P op T x y K) :
  ∃ r, K r /\ ∀ (d : Nat) (G : Nat -> Status) (w : World) (v u : Value), Good G w -> VRel G w x v -> VRel G w y u -> Does P d G w (do eqGuard op T a b v u; binOp op T v u : Sem Value) r := by
 unfold evBinOp at h
 split at h
 ·obtain ⟨r, hK, hr⟩ := evBin_sound a b h
  refine ⟨_, hK, fun d G w v u hg hv hu => ?_⟩
  obtain rfl := hv.sc_inv; obtain rfl := hu.sc_inv
  exact .pure hg (hr w) (.froz (.sc _))
 ·rename_i t es xs
  obtain ⟨⟨E, hT⟩, hn, hc⟩ := h
  by_cases hx : xs = []
  ·obtain ⟨hop, hK⟩ := hn hx
   refine ⟨_, hK, fun d G w v u hg hv hu => ?_⟩
   obtain ⟨ao, c, rfl, _⟩ := hv.sl_inv; obtain rfl := hu.nil_inv
   rcases hop with rfl | rfl
   ·exact .pure hg (v := .bool ao.isNone) (by simp [eqGuard, binOp, run_equal_slice_nil hT]) (.froz (.ub _))
   ·exact .pure hg (v := .bool (!ao.isNone)) (by simp [eqGuard, binOp, run_equal_slice_nil hT]) (.froz (.ub _))
  ·have hsome : ∀ {G w v}, VRel G w (.sl t es xs) v -> ∃ ao c, v = .slice ao xs.length c /\ ao.isNone = false := fun hv => by
    obtain ⟨ao, c, rfl, _, h2, _⟩ := hv.sl_inv
    refine ⟨ao, c, rfl, ?_⟩
    cases ao with
    | none => exact absurd (h2 rfl).2 hx
    | some _ => rfl
   rcases hc hx with ⟨rfl, hK⟩ | ⟨rfl, hK⟩
   ·refine ⟨_, hK, fun d G w v u hg hv hu => ?_⟩
    obtain ⟨ao, c, rfl, ha⟩ := hsome hv; obtain rfl := hu.nil_inv
    exact .pure hg (v := .bool false) (by simp [eqGuard, binOp, run_equal_slice_nil hT, ha]) (.froz (.sc _))
   ·refine ⟨_, hK, fun d G w v u hg hv hu => ?_⟩
    obtain ⟨ao, c, rfl, ha⟩ := hsome hv; obtain rfl := hu.nil_inv
    exact .pure hg (v := .bool true) (by simp [eqGuard, binOp, run_equal_slice_nil hT, ha]) (.froz (.sc _))
 ·obtain ⟨⟨E, hT⟩, ⟨rfl, hK⟩ | ⟨rfl, hK⟩⟩ := h
  ·refine ⟨_, hK, fun d G w v u hg hv hu => ?_⟩
   obtain rfl := hv.nil_inv; obtain rfl := hu.nil_inv
   exact .pure hg (v := .bool true) (by simp [eqGuard, binOp, run_equal_slice_nil hT]) (.froz (.sc _))
  ·refine ⟨_, hK, fun d G w v u hg hv hu => ?_⟩
   obtain rfl := hv.nil_inv; obtain rfl := hu.nil_inv
   exact .pure hg (v := .bool false) (by simp [eqGuard, binOp, run_equal_slice_nil hT]) (.froz (.sc _))
 ·obtain ⟨l, hl, h⟩ := h
  unfold flatF at hl
  split at hl
  case h_2 => cases hl
  rename_i fs hT
  split at hl
  ·cases hl
  rename_i hst
  simp only [Bool.or_eq_true, not_or, Bool.not_eq_true] at hst
  have hfo : P.fieldsOf T = fs := by simp [Program.fieldsOf, hT]
  obtain ⟨c, hK, hc⟩ := eqCK_sound _ _ _ hl h
  rcases hK with ⟨rfl, hK⟩ | ⟨rfl, hK⟩
  all_goals
   refine ⟨_, hK, fun d G w v u hg hv hu => ?_⟩
   obtain ⟨vs, rfl, _, hv⟩ := hv.ag_inv
   obtain ⟨us, rfl, _, hu⟩ := hu.ag_inv
   have hrun := run_equalIn_struct (P := P) w 9999 T vs us (by rw [hfo]; exact hT) hst.1
   rw [hfo, hc G w vs us hv hu] at hrun
  ·exact .pure hg (v := .bool c) (by simp only [Sem.run_bind, run_eqGuard_agg w .eql T a b vs us hst.2, Result.andThen_ok, run_eql_struct, hrun]) (.froz (.sc _))
  ·exact .pure hg (v := .bool (!c)) (by simp only [Sem.run_bind, run_eqGuard_agg w .neq T a b vs us hst.2, Result.andThen_ok, run_neq_struct, hrun]) (.froz (.sc _))
 ·obtain ⟨⟨E, hT⟩, rfl, hK⟩ := h
  refine ⟨_, hK, fun d G w v u hg hv hu => ?_⟩
  obtain ⟨b, _, rfl⟩ := hv.pb_inv; obtain rfl := hu.sc_inv
  exact .pure hg (v := .bool true) (by simp [eqGuard, binOp, run_equal_ptr_nil hT]) (.froz (.sc _))
 ·exact h.elim
theorem flat_take {es : Nat} : ∀ {xs : List AV} (n : Nat), (∀ x ∈ xs, x.cells.length = es) -> flat (xs.take n) = (flat xs).take (n * es)
 | [], n, _ => by simp [flat]
 | x :: xs, 0, _ => by simp [flat]
 | x :: xs, n + 1, h => by
  have hx := h x (by simp)
  have := flat_take (xs := xs) n (fun y hy => h y (by simp [hy]))
  simp only [flat, List.take_succ_cons, List.flatMap_cons] at this ⊢
  rw [this, List.take_append, hx, show (n + 1) * es - es = n * es by rw [Nat.succ_mul]; omega, List.take_of_length_le (l := x.cells) (by rw [hx, Nat.succ_mul]; omega)]
theorem flat_drop {es : Nat} : ∀ {xs : List AV} (n : Nat), (∀ x ∈ xs, x.cells.length = es) -> flat (xs.drop n) = (flat xs).drop (n * es)
 | [], n, _ => by simp [flat]
 | x :: xs, 0, _ => by simp
 | x :: xs, n + 1, h => by
  have hx := h x (by simp)
  have := flat_drop (xs := xs) n (fun y hy => h y (by simp [hy]))
  simp only [flat, List.drop_succ_cons, List.flatMap_cons] at this ⊢
  rw [this, List.drop_append, hx, show (n + 1) * es - es = n * es by rw [Nat.succ_mul]; omega, List.drop_eq_nil_of_le (as := x.cells) (by rw [hx, Nat.succ_mul]; omega), List.nil_append]
theorem FRel.part {S : Nat -> Prop} {w : World} {t es : Nat} {xs : List AV} {ao : Option Addr} {n c l h m t' : Nat} (hr : FRel S w (.sl t es xs) (.slice ao n c)) (hl : l <= h) (hh : h <= xs.length) (hm : h <= m) (hmc : m <= c) (ht : t' < 2) (ht' : t' = 1 -> m = h) :
  FRel S w (.sl t' es ((xs.take h).drop l)) (.slice (if m = l then ao else ao.map (·.add (l * es))) (h - l) (m - l)) := by
 have hlen : ((xs.take h).drop l).length = h - l := by rw [List.length_drop, List.length_take]; omega
 cases hr with
 | slNil _ _ a c h1 h2 h3 =>
  have : (([] : List AV).take h).drop l = [] := by simp
  rw [this]
  simp only [List.length_nil] at hh
  have : h - l = 0 := by omega
  rw [this]
  refine .slNil t' es _ _ ht (fun h1 => by have := ht' h1; omega) (fun h4 => ?_)
  have : ao = none := by
   split at h4
   ·exact h4
   ·simpa using h4
  have := h3 this; omega
 | sl _ _ _ b off c vals h1 h2 h3 hc h4 h5 h0 h6 h7 =>
  by_cases he : l = h
  ·subst he
   have : (xs.take l).drop l = [] := by simp
   rw [this, Nat.sub_self]
   refine .slNil t' es _ _ ht (fun h1 => by have := ht' h1; omega) (fun h4 => ?_)
   split at h4 <;> simp at h4
  ·have hml : m ≠ l := by omega
   rw [if_neg hml, <- hlen]
   have hwid : ∀ x ∈ (xs.take h).drop l, x.cells.length = es := fun x hx => h4 x (List.mem_of_mem_take (List.mem_of_mem_drop hx))
   have hfl : flat ((xs.take h).drop l) = ((flat xs).take (h * es)).drop (l * es) := by
    rw [flat_drop l (fun x hx => h4 x (List.mem_of_mem_take hx)), flat_take h h4]
   have hpw : PW (FRel S w) (flat ((xs.take h).drop l)) ((vals.take (h * es)).drop (l * es)) := by
    rw [hfl]; exact (PW.take ⟨h5, h7⟩ _).drop _
   simp only [Option.map_some, Addr.add_none]
   refine .sl t' es _ b (off + l * es) (m - l) _ ht h2 (fun h1 => by rw [hlen]; have := ht' h1; omega) (by rw [hlen]; omega) hwid hpw.1 (fun u hu => h0 u (List.mem_of_mem_take (List.mem_of_mem_drop hu))) (fun j u hj => ?_) hpw.2
   rw [List.getElem?_drop, List.getElem?_take] at hj
   split at hj
   ·rw [Nat.add_assoc]; exact h6 _ _ hj
   ·cases hj
def evBound (x : Option AV) (dflt : Nat) (K : Nat -> Prop) : Prop :=
 match x with
 | none => K dflt
 | some (.sc (.int _ n)) => 0 <= n /\ K n.toNat
 | _ => False
def evSlice (P : Program) (T : TypeId) (x : AV) (lo hi mx : Option AV) (K : AV -> Prop) : Prop :=
  match P.underlying T, x with
  | some (.slice E), .sl t es xs => (∃ q, tinfo P E = some q /\ q.1 = es) /\ if t < 2 then
      (match mx with
       | none => evBound hi xs.length fun h => evBound lo 0 fun l => l <= h /\ h <= xs.length /\ K (.sl 0 es ((xs.take h).drop l))
       | some m => hi.isSome = true /\ evBound (some m) 0 fun m => evBound hi 0 fun h => evBound lo 0 fun l => m = h /\ l <= h /\ h <= xs.length /\ K (.sl 1 es ((xs.take h).drop l)))
      else mx = none /\ if (hi.isNone && lo.isSome) = true then evBound lo 0 fun l => l < xs.length /\ K (.tl t es xs l)
        else evBound hi xs.length fun h => evBound lo 0 fun l => l = 0 /\ h <= xs.length /\ K (.sl t es (xs.take h))
  | some (.slice E), .tl t es xs i => (∃ q, tinfo P E = some q /\ q.1 = es) /\ mx = none /\ hi = none /\ evBound lo 0 fun l => i + l <= xs.length /\ K (.tl t es xs (i + l))
  | some (.slice E), .nil => mx = none /\ (∃ q, tinfo P E = some q) /\ evBound hi 0 fun h => evBound lo 0 fun l => l = 0 /\ h = 0 /\ K .nil
  | some .string, .sc (.string s) => mx = none /\ evBound hi s.size fun h => evBound lo 0 fun l => l <= h /\ h <= s.size /\ K (.sc (.string (s.extract l h)))
  | _, _ => False
theorem evBound_spec {x : Option AV} {dflt : Nat} {K : Nat -> Prop} (h : evBound x dflt K) : ∃ n, K n /\ (x = none -> n = dflt) /\ ∀ a, x = some a -> ∃ k, a = .sc (.int k n) := by
 unfold evBound at h
 split at h
 ·exact ⟨_, h, fun _ => rfl, (fun _ h => by cases h)⟩
 ·rename_i k n
  refine ⟨n.toNat, h.2, (fun h => by cases h), fun a ha => ?_⟩
  cases ha
  exact ⟨k, by rw [Int.toNat_of_nonneg h.1]⟩
 ·exact h.elim
def ORel (G : Nat -> Status) (w : World) (x : Option AV) (v : Option Value) : Prop :=
 match x, v with
 | none, none => True
 | some x, some v => VRel G w x v
 | _, _ => False
theorem ORel.bound {G : Nat -> Status} {w : World} {x : Option AV} {v : Option Value} {n dflt : Nat} (h : ORel G w x v) (h0 : x = none -> n = dflt) (h1 : ∀ a, x = some a -> ∃ k, a = .sc (.int k n)) :
  (x = none /\ v = none /\ n = dflt) \/ (∃ k, v = some (.int k (n : Int))) := by
 cases x with
 | none => cases v with
  | none => exact .inl ⟨rfl, rfl, h0 rfl⟩
  | some v => exact h.elim
 | some x => cases v with
  | none => exact h.elim
  | some v =>
   obtain ⟨k, rfl⟩ := h1 x rfl
   have := VRel.sc_inv h
   subst this; exact .inr ⟨k, rfl⟩
theorem evSlice_sound {T : TypeId} {x : AV} {lo hi mx : Option AV} {K : AV -> Prop} (h : evSlice P T x lo hi mx K) :
  ∃ r, K r /\ ∀ (d : Nat) (G : Nat -> Status) (w : World) (v : Value) (vl vh vm : Option Value), Good G w -> VRel G w x v -> ORel G w lo vl -> ORel G w hi vh -> ORel G w mx vm -> Does P d G w (Instr.sliceAt T v vl vh vm) r := by
 unfold evSlice at h
 split at h
 ·rename_i E t es xs hT
  obtain ⟨⟨⟨sz, by_, z⟩, hq, rfl⟩, h⟩ := h
  split at h
  ·rename_i ht
   split at h
   ·obtain ⟨nh, h, h1, h2⟩ := evBound_spec h
    obtain ⟨nl, h, h3, h4⟩ := evBound_spec h
    obtain ⟨h5, h6, hK⟩ := h
    refine ⟨_, hK, fun d G w v vl vh vm hg hv hl hh hm => ?_⟩
    have hf := hv.fzLeaf (by simpa [fzLeaf] using ht)
    obtain ⟨ao, c, rfl, _, _, hc, _⟩ := hv.sl_inv
    have hvm : vm = none := by cases vm with | none => rfl | some _ => exact hm.elim
    subst hvm
    refine .pure hg (v := .slice (if c = nl then ao else ao.map (·.add (nl * sz))) (nh - nl) (c - nl)) ?_ (.froz (hf.part h5 h6 (by omega) (Nat.le_refl _) (by omega) (by omega)))
    rcases hl.bound h3 h4 with ⟨_, rfl, rfl⟩ | ⟨k, rfl⟩ <;> rcases hh.bound h1 h2 with ⟨_, rfl, rfl⟩ | ⟨k', rfl⟩
    ·simp [Instr.sliceAt, run_underlying hT, Instr.slice, Instr.sliceBounds, run_sizeOf hq]
    ·simp [Instr.sliceAt, run_underlying hT, Instr.slice, Instr.sliceBounds, Instr.sliceBound, asIntOf, run_sizeOf hq, show nh <= c by omega]
    ·simp [Instr.sliceAt, run_underlying hT, Instr.slice, Instr.sliceBounds, Instr.sliceBound, asIntOf, run_sizeOf hq, h5]
    ·simp [Instr.sliceAt, run_underlying hT, Instr.slice, Instr.sliceBounds, Instr.sliceBound, asIntOf, run_sizeOf hq, show nh <= c by omega, h5]
   ·rename_i m
    obtain ⟨hsome, h⟩ := h
    obtain ⟨nm, h, _, hm2⟩ := evBound_spec h
    obtain ⟨nh, h, h1, h2⟩ := evBound_spec h
    obtain ⟨nl, h, h3, h4⟩ := evBound_spec h
    obtain ⟨rfl, h5, h6, hK⟩ := h
    refine ⟨_, hK, fun d G w v vl vh vm hg hv hl hh hm => ?_⟩
    have hf := hv.fzLeaf (by simpa [fzLeaf] using ht)
    obtain ⟨ao, c, rfl, _, _, hc, _⟩ := hv.sl_inv
    refine .pure hg (v := .slice (if nm = nl then ao else ao.map (·.add (nl * sz))) (nm - nl) (nm - nl)) ?_ (.froz (hf.part h5 h6 (Nat.le_refl _) (by omega) (by omega) (fun _ => rfl)))
    rcases hm.bound (dflt := 0) (fun h => by cases h) hm2 with ⟨h, _⟩ | ⟨k'', rfl⟩
    ·cases h
    rcases hh.bound h1 h2 with ⟨h, _⟩ | ⟨k', rfl⟩
    ·rw [h] at hsome; cases hsome
    rcases hl.bound h3 h4 with ⟨_, rfl, rfl⟩ | ⟨k, rfl⟩
    ·simp [Instr.sliceAt, run_underlying hT, Instr.slice, Instr.sliceBounds, Instr.sliceBound, asIntOf, run_sizeOf hq, show nm <= c by omega]
    ·simp [Instr.sliceAt, run_underlying hT, Instr.slice, Instr.sliceBounds, Instr.sliceBound, asIntOf, run_sizeOf hq, show nm <= c by omega, h5]
  ·rename_i ht
   obtain ⟨rfl, h⟩ := h
   split at h
   ·rename_i hb
    obtain ⟨nl, h, h3, h4⟩ := evBound_spec h
    obtain ⟨hlt, hK⟩ := h
    refine ⟨_, hK, fun d G w v vl vh vm hg hv hl hh hm => ?_⟩
    simp only [Bool.and_eq_true, Option.isNone_iff_eq_none] at hb
    obtain ⟨rfl, hsome⟩ := hb
    have hvm : vm = none := by cases vm with | none => rfl | some _ => exact hm.elim
    have hvh : vh = none := by cases vh with | none => rfl | some _ => exact hh.elim
    subst hvm; subst hvh
    cases hv with
    | froz h => exfalso; cases h <;> omega
    | own _ _ _ _ e vals g1 g2 g3 g4 g0 g5 =>
     rcases g2.2 with ⟨rfl, hn⟩ | ⟨g, cap, cur, rfl, hg0, hh0, hn, hcm, hcs, htk⟩
     ·omega
     ·have hown : VRel G w (.sl t sz xs) (.slice (some ⟨g, 0, none⟩) xs.length cap) := .own t sz xs _ e vals g1 g2 g3 g4 g0 g5
      refine .pure hg (v := .slice (some ⟨g, 0 + nl * sz, none⟩) (xs.length - nl) (cap - nl)) ?_ (.tl t sz xs nl g 0 _ cap hown (by omega) (.inl rfl))
      have hadd : (Addr.mk g 0 none).add (nl * sz) = ⟨g, 0 + nl * sz, none⟩ := Addr.add_none g 0 _
      rcases hl.bound h3 h4 with ⟨rfl, _, _⟩ | ⟨k, rfl⟩
      ·cases hsome
      ·simp [Instr.sliceAt, run_underlying hT, Instr.slice, Instr.sliceBounds, Instr.sliceBound, asIntOf, run_sizeOf hq, hadd, show nl <= xs.length by omega, show ¬ cap = nl by omega]
   obtain ⟨nh, h, h1, h2⟩ := evBound_spec h
   obtain ⟨nl, h, h3, h4⟩ := evBound_spec h
   obtain ⟨rfl, h6, hK⟩ := h
   refine ⟨_, hK, fun d G w v vl vh vm hg hv hl hh hm => ?_⟩
   have hvm : vm = none := by cases vm with | none => rfl | some _ => exact hm.elim
   subst hvm
   have hlen : (xs.take nh).length = nh := by rw [List.length_take]; omega
   cases hv with
   | froz h => exfalso; cases h <;> omega
   | own _ _ _ _ e vals g1 g2 g3 g4 g0 g5 =>
    have hw' : ∀ x ∈ xs.take nh, x.cells.length = sz := fun x hx => g4 x (List.mem_of_mem_take hx)
    have hp' : PW (FRel (Stable G) w) (flat (xs.take nh)) (vals.take (nh * sz)) := by rw [flat_take nh g4]; exact g5.take _
    have h1' : One (vals.take (nh * sz)) := fun u hu => g0 u (List.mem_of_mem_take hu)
    have hvl : (vals.take (nh * sz)).length = nh * sz := by
     rw [<- hp'.1, flat_length hw', hlen]
    rcases g2.2 with ⟨rfl, hn⟩ | ⟨g, cap, cur, rfl, hg0, hh0, hn, hcm, hcs, htk⟩
    ·have hz : nh = 0 := by omega
     subst hz
     have hown : VRel G w (.sl t sz (xs.take 0)) (.slice none 0 0) := .own t sz _ _ e [] (by omega) (World.ownsRow_nil _ _ _ _) (fun b hb => by simp [Value.ownBlock] at hb) (by simp) (fun _ h => by simp at h) (by simpa [flat] using PW.nil _)
     refine .pure hg (v := .slice none 0 0) ?_ hown
     rcases hl.bound h3 h4 with ⟨_, rfl, _⟩ | ⟨k, rfl⟩ <;> rcases hh.bound h1 h2 with ⟨_, rfl, he⟩ | ⟨k', rfl⟩ <;>
      simp [Instr.sliceAt, run_underlying hT, Instr.slice, Instr.sliceBounds, Instr.sliceBound, asIntOf, run_sizeOf hq]
    ·refine .pure hg (v := .slice (some ⟨g, 0, none⟩) nh cap) ?_ (.own t sz _ _ e (vals.take (nh * sz)) (by omega) ⟨by rw [hvl, hlen], .inr ⟨g, cap, cur, by rw [hlen], Nat.zero_le _, hh0, by rw [hlen]; omega, hcm, hcs, by rw [hlen, <- htk, List.take_take]; congr 1; exact (Nat.min_eq_left (Nat.mul_le_mul_right _ h6)).symm⟩⟩ (fun b hb => by simp only [Value.ownBlock, Option.some.injEq] at hb; subst hb; exact g3 g rfl) hw' h1' hp')
     have hadd : (Addr.mk g 0 none).add 0 = ⟨g, 0, none⟩ := Addr.add_none g 0 0
     rcases hl.bound h3 h4 with ⟨_, rfl, _⟩ | ⟨k, rfl⟩ <;> rcases hh.bound h1 h2 with ⟨_, rfl, he⟩ | ⟨k', rfl⟩
     ·simp [Instr.sliceAt, run_underlying hT, Instr.slice, Instr.sliceBounds, run_sizeOf hq, he, hadd]
     ·simp [Instr.sliceAt, run_underlying hT, Instr.slice, Instr.sliceBounds, Instr.sliceBound, asIntOf, run_sizeOf hq, hadd, show nh <= cap by omega]
     ·simp [Instr.sliceAt, run_underlying hT, Instr.slice, Instr.sliceBounds, Instr.sliceBound, asIntOf, run_sizeOf hq, he, hadd]
     ·simp [Instr.sliceAt, run_underlying hT, Instr.slice, Instr.sliceBounds, Instr.sliceBound, asIntOf, run_sizeOf hq, hadd, show nh <= cap by omega]
 ·rename_i E t es xs i hT
  obtain ⟨⟨⟨sz, by_, z⟩, hq, rfl⟩, rfl, rfl, h⟩ := h
  obtain ⟨nl, h, h3, h4⟩ := evBound_spec h
  obtain ⟨hle, hK⟩ := h
  refine ⟨_, hK, fun d G w v vl vh vm hg hv hl hh hm => ?_⟩
  have hvm : vm = none := by cases vm with | none => rfl | some _ => exact hm.elim
  have hvh : vh = none := by cases vh with | none => rfl | some _ => exact hh.elim
  subst hvm; subst hvh
  obtain ⟨b, off, off', c, hbase, h5, h6, hc, rfl⟩ := hv.tl_inv
  have h6 : off' = off + i * sz \/ c <= i := h6
  have key : ∃ off2, (if c - i = nl then some (Addr.mk b off' none) else (some (Addr.mk b off' none)).map (·.add (nl * sz))) = some ⟨b, off2, none⟩ /\ (off2 = off + (i + nl) * sz \/ c <= i + nl) := by
   by_cases hcn : c - i = nl
   ·exact ⟨off', by rw [if_pos hcn], .inr (by omega)⟩
   ·refine ⟨off' + nl * sz, by rw [if_neg hcn]; simp [Addr.add_none], ?_⟩
    rcases h6 with h6 | h6
    ·exact .inl (by rw [h6, Nat.add_mul]; omega)
    ·exact .inr (by omega)
  obtain ⟨off2, k1, k2⟩ := key
  have hrel := VRel.tl t sz xs (i + nl) b off off2 c hbase hle k2
  refine .pure hg (v := .slice (some ⟨b, off2, none⟩) (xs.length - (i + nl)) (c - (i + nl))) ?_ hrel
  have e1 : xs.length - i - nl = xs.length - (i + nl) := by omega
  have e2 : c - i - nl = c - (i + nl) := by omega
  rcases hl.bound h3 h4 with ⟨_, rfl, rfl⟩ | ⟨k, rfl⟩
  ·have k1' := k1
   simp [Instr.sliceAt, run_underlying hT, Instr.slice, Instr.sliceBounds, run_sizeOf hq, <- k1]
  ·simp [Instr.sliceAt, run_underlying hT, Instr.slice, Instr.sliceBounds, Instr.sliceBound, asIntOf, run_sizeOf hq, show nl <= xs.length - i by omega, e1, e2, <- k1]
 ·rename_i E hT
  obtain ⟨rfl, ⟨⟨sz, by_, z⟩, hq⟩, h⟩ := h
  obtain ⟨nh, h, h1, h2⟩ := evBound_spec h
  obtain ⟨nl, h, h3, h4⟩ := evBound_spec h
  obtain ⟨rfl, rfl, hK⟩ := h
  refine ⟨_, hK, fun d G w v vl vh vm hg hv hl hh hm => ?_⟩
  obtain rfl := hv.nil_inv
  have hvm : vm = none := by cases vm with | none => rfl | some _ => exact hm.elim
  subst hvm
  refine .pure hg (v := .slice none 0 0) ?_ (.froz .nil)
  rcases hl.bound h3 h4 with ⟨_, rfl, _⟩ | ⟨k, rfl⟩ <;> rcases hh.bound h1 h2 with ⟨_, rfl, he⟩ | ⟨k', rfl⟩ <;>
   simp [Instr.sliceAt, run_underlying hT, Instr.slice, Instr.sliceBounds, Instr.sliceBound, asIntOf, run_sizeOf hq]
 ·rename_i s hT
  obtain ⟨rfl, h⟩ := h
  obtain ⟨nh, h, h1, h2⟩ := evBound_spec h
  obtain ⟨nl, h, h3, h4⟩ := evBound_spec h
  obtain ⟨h5, h6, hK⟩ := h
  refine ⟨_, hK, fun d G w v vl vh vm hg hv hl hh hm => ?_⟩
  obtain rfl := hv.sc_inv
  have hvm : vm = none := by cases vm with | none => rfl | some _ => exact hm.elim
  subst hvm
  refine .pure hg (v := .string (s.extract nl nh)) ?_ (.froz (.sc _))
  rcases hl.bound h3 h4 with ⟨_, rfl, rfl⟩ | ⟨k, rfl⟩ <;> rcases hh.bound h1 h2 with ⟨_, rfl, rfl⟩ | ⟨k', rfl⟩
  ·simp [Instr.sliceAt, run_underlying hT, Instr.slice, Instr.sliceBounds]
  ·simp [Instr.sliceAt, run_underlying hT, Instr.slice, Instr.sliceBounds, Instr.sliceBound, asIntOf, h6]
  ·simp [Instr.sliceAt, run_underlying hT, Instr.slice, Instr.sliceBounds, Instr.sliceBound, asIntOf, h5]
  ·simp [Instr.sliceAt, run_underlying hT, Instr.slice, Instr.sliceBounds, Instr.sliceBound, asIntOf, h6, h5]
 ·exact h.elim
end ops
section ops
variable {P : Program}
theorem run_append_zero {T ty E : TypeId} {sz by_ : Nat} {z : Option Value} (hT : P.underlying T = some (.slice E)) (hq : tinfo P E = some (sz, by_, z)) {ao ax : Option Addr} {n c cx : Nat} (h : n <= c) (w : World) :
  (Builtin.append_ #[T, T] ty #[.slice ao n c, .slice ax 0 cx]).run P w = .ok (.slice ao n c) w := by
 have hf : (Builtin.firstCells sz 0 (.slice ax 0 cx)).run P w = .ok #[] w := by
  cases ax with
  | none => simp [Builtin.firstCells]
  | some a =>
   have := run_loadCells_list (P := P) w a [] (by simp)
   simpa [Builtin.firstCells] using this
 cases ao with
 | none => simp [Builtin.append_, run_underlying hT, run_sizeOf hq, Builtin.lenOf, h, hf]
 | some a => simp [Builtin.append_, run_underlying hT, run_sizeOf hq, Builtin.lenOf, h, hf, storeCells]
theorem run_append_room' {w : World} (t ty e e' : TypeId) {sz by_ : Nat} {z : Option Value} (ht : P.underlying t = some (.slice e)) (hi : tinfo P e = some (sz, by_, z))
  (g sLen sCap : Nat) (cur : Array Value) (hg : w.heap[g]? = some (.cells cur e' (0, 0)))
  (a : Addr) (m c : Nat) (news : List Value) (hl : news.length = m * sz) (hnews : ∀ j u, news[j]? = some u -> w.cell? (a.add j) = some u) (h1 : ∀ u ∈ news, u.oneCell' = true)
  (hroom : sLen + m <= sCap) (hfit : sLen * sz + news.length <= cur.size) :
  (Builtin.append_ #[t, t] ty #[.slice (some ⟨g, 0, none⟩) sLen sCap, .slice (some a) m c]).run P w =
   .ok (.slice (some ⟨g, 0, none⟩) (sLen + m) sCap) (w.setRow g (cur.toList.take (sLen * sz) ++ news ++ cur.toList.drop (sLen * sz + news.length)).toArray) := by
 have hf := run_firstCells_some (P := P) w sz m a m c news hl hnews
 have hst := run_storeCells_at P g (sLen * sz) e' news 0 cur w hg (by simpa using hfit) h1
 simp only [Nat.add_zero] at hst
 simp [Builtin.append_, run_underlying ht, run_sizeOf hi, Builtin.lenOf, hroom, hf, Addr.add_none, hst]
theorem VRel.news {G : Nat -> Status} {w : World} {t es : Nat} {ys : List AV} {v : Value} (h : VRel G w (.sl t es ys) v) :
  (ys = [] /\ ∃ ax c, v = .slice ax 0 c) \/ (∃ a c news, v = .slice (some a) ys.length c /\ news.length = ys.length * es /\ (∀ j u, news[j]? = some u -> w.cell? (a.add j) = some u) /\ One news /\ (∀ x ∈ ys, x.cells.length = es) /\ PW (FRel (Stable G) w) (flat ys) news) := by
 obtain ⟨ao, c, rfl, _, _, _, h | ⟨b, off, vals, rfl, _, h1, h2, h3, h4⟩⟩ := h.sl_inv
 ·subst h; exact .inl ⟨rfl, ao, c, rfl⟩
 ·exact .inr ⟨_, c, vals, rfl, by rw [<- h4.1, flat_length h1], fun j u hj => by rw [Addr.add_none]; exact h3 j u hj, h2, h1, h4⟩
def roomFor (n by_ : Nat) : Prop := n * by_ <= 140737488355328 /\ n <= 9223372036854775807
def evAppendNew (P : Program) (d : Nat) (T T' : TypeId) (x y : AV) (K : AV -> Prop) : Prop :=
 match P.underlying T with
 | some (.slice E) => T' = T /\ ∃ q, tinfo P E = some q /\ 0 < q.1 /\ (∃ z, q.2.2 = some z /\ z.cells.size = q.1) /\
  match x, y with
  | .nil, .nil => K .nil
  | .sl t es xs, .nil => K (.sl t es xs)
  | .nil, .sl _ es ys => es = q.1 /\ roomFor ys.length q.2.1 /\ K (.sl (64 * (d + 1)) es ys)
  | .sl t es xs, .sl _ es' ys => t = 1 /\ es = q.1 /\ es' = q.1 /\ ys ≠ [] /\ roomFor (xs.length + ys.length) q.2.1 /\ K (.sl (64 * (d + 1)) es (xs ++ ys))
  | _, _ => False
 | _ => False
theorem own_new {G : Nat -> Status} {w w' : World} {d es n : Nat} {e : TypeId} {xs : List AV} {v : Value} {vals : List Value} (hg : Good G w) (hf : Fresh d G)
  (ho : w'.ownsRow w.heap.size e es v n vals) (hn : n = xs.length) (hgr : w.grownBy w' none) (hw : ∀ x ∈ xs, x.cells.length = es) (h1 : One vals) (hp : PW (FRel (Stable G) w) (flat xs) vals) :
  ∃ G', VRel G' w' (.sl (64 * (d + 1)) es xs) v /\ Ext G w G' w' /\ Good G' w' /\ NewTags d G G' := by
 subst hn
 have hE : Ext G w G w' := ⟨hgr.os, hgr.tape, hgr.output, hgr.size, fun _ _ => rfl, fun b hb => hgr.block b hb (by simp)⟩
 have hbase : ∀ {B}, w'.ownsRow B e es v xs.length vals -> w'.ownsRow 0 e es v xs.length vals := fun h => ⟨h.1, h.2.imp id fun ⟨g, cap, cur, a, _, r⟩ => ⟨g, cap, cur, a, Nat.zero_le _, r⟩⟩
 have hp' : PW (FRel (Stable G) w') (flat xs) vals := hp.mono fun x y _ hr => hr.mono (fun _ h => h) (fun b hb => hE.keep b (hg.lt b (by unfold Stable at hb; rw [hb]; simp)))
 rcases ho.2 with ⟨hv, hn⟩ | ⟨g, cap, cur, hv, hgb, hh, r⟩
 ·refine ⟨G, .own _ es xs v e vals (by omega) (hbase ho) (fun b hb => by subst hv; simp [Value.ownBlock] at hb) hw h1 hp', hE, ⟨fun b hb => Nat.lt_of_lt_of_le (hg.lt b hb) hgr.size, hg.tags, hg.boxes⟩, .refl d G⟩
 ·have hlt : g < w'.heap.size := by
   rcases Nat.lt_or_ge g w'.heap.size with h | h
   ·exact h
   ·simp [Array.getElem?_eq_none h] at hh
  refine ⟨updG G g (.tag (64 * (d + 1))), .own _ es xs v e vals (by omega) (hbase ho) (fun b hb => ?_) hw h1 (hp'.mono fun x y _ hr => hr.mono (fun b hb => ?_) (fun _ _ => rfl)), ?_, hg.upd _ _ hgb hlt hgr.size (fun t ht b hb => ?_) (fun i h => by cases h), .upd hf.own⟩
  ·subst hv; simp only [Value.ownBlock, Option.some.injEq] at hb; simp [updG, <- hb]
  ·have := hg.lt b (by unfold Stable at hb; rw [hb]; simp)
   unfold Stable at *; simp only [updG]; rw [if_neg (by omega)]; exact hb
  ·exact ⟨hgr.os, hgr.tape, hgr.output, hgr.size, fun b hb => by simp only [updG]; rw [if_neg (by omega)], fun b hb => hgr.block b hb (by simp)⟩
  ·cases ht; exact hf.ne hb
theorem evAppendNew_sound {d : Nat} {T T' : TypeId} {x y : AV} {K : AV -> Prop} (h : evAppendNew P d T T' x y K) :
  ∃ r, K r /\ ∀ (ty : TypeId) (G : Nat -> Status) (w : World) (v u : Value), Good G w -> Fresh d G -> VRel G w x v -> VRel G w y u -> Does P d G w (Builtin.append_ #[T, T'] ty #[v, u]) r := by
 unfold evAppendNew at h
 split at h
 ·rename_i E hT
  obtain ⟨rfl, ⟨sz, by_, z⟩, hq, h0, ⟨z', hz, hzs⟩, h⟩ := h
  simp only at h0 hz hzs h
  subst hz
  obtain ⟨i, hi, hsz, hby, hzz⟩ := tinfo_some hq
  split at h
  ·refine ⟨_, h, fun ty G w v u hg hf hv hu => ?_⟩
   obtain rfl := hv.nil_inv; obtain rfl := hu.nil_inv
   exact .pure hg (run_append_zero hT hq (Nat.le_refl _) w) (.froz .nil)
  ·refine ⟨_, h, fun ty G w v u hg hf hv hu => ?_⟩
   obtain ⟨ao, c, hve, _, _, hc, _⟩ := hv.sl_inv; obtain rfl := hu.nil_inv
   subst hve
   exact .pure hg (run_append_zero hT hq hc w) hv
  ·rename_i t es ys
   obtain ⟨he1, hb, hK⟩ := h
   have he1 := he1.symm; subst he1
   refine ⟨_, hK, fun ty G w v u hg hf hv hu => ?_⟩
   obtain rfl := hv.nil_inv
   rcases hu.news with ⟨rfl, ax, c, rfl⟩ | ⟨a, c, news, rfl, h1, h2, h3, h4, h5⟩
   ·exact .pure hg (run_append_zero hT hq (Nat.le_refl _) w) (.own _ _ _ _ E [] (by omega) (World.ownsRow_nil _ _ _ _) (fun b hb => by simp [Value.ownBlock] at hb) (by simp) (fun _ h => by simp at h) (.nil _))
   ·obtain ⟨v', w', hrun, ho, hgr, _⟩ := run_append_own (P := P) w w.heap.size T' ty E i z' sz by_ hT hi hzz hsz hby hzs h0 (.slice none 0 0) 0 [] (World.ownsRow_nil w _ E sz) a ys.length c news h1 h2 h3 (by simp only [maxLen, Nat.zero_add]; exact hb.2) (by simpa using hb.1) (Nat.le_refl _)
    simp only [Nat.zero_add, List.nil_append] at ho
    obtain ⟨G', r1, r2, r3, r4⟩ := own_new (d := d) hg hf ho rfl hgr h4 h3 h5
    exact ⟨v', w', G', hrun, r1, r2, r3, r4⟩
  ·rename_i t es xs t' es' ys
   obtain ⟨rfl, he1, he2, hne, hb, hK⟩ := h
   have he1 := he1.symm; have he2 := he2.symm; subst he1; subst he2
   refine ⟨_, hK, fun ty G w v u hg hf hv hu => ?_⟩
   have hpos : 0 < ys.length := by cases ys with | nil => exact absurd rfl hne | cons _ _ => simp
   rcases hu.news with ⟨rfl, _⟩ | ⟨a, c, news, rfl, h1, h2, h3, h4, h5⟩
   ·exact absurd rfl hne
   ·obtain ⟨ao, c0, rfl, hfull, hnone, hc, hx⟩ := hv.sl_inv
    have hfull := hfull rfl
    subst hfull
    have key : ∃ v' w' olds, (Builtin.append_ #[T', T'] ty #[.slice ao xs.length xs.length, .slice (some a) ys.length c]).run P w = .ok v' w' /\ w'.ownsRow w.heap.size E sz v' (xs.length + ys.length) (olds ++ news) /\ w.grownBy w' none /\ One olds /\ (∀ x ∈ xs, x.cells.length = sz) /\ PW (FRel (Stable G) w) (flat xs) olds := by
     rcases hx with rfl | ⟨b, off, vals, rfl, _, g1, g2, g3, g4⟩
     ·cases ao with
      | none =>
       obtain ⟨v', w', hrun, ho, hgr, _⟩ := run_append_own (P := P) w w.heap.size T' ty E i z' sz by_ hT hi hzz hsz hby hzs h0 (.slice none 0 0) 0 [] (World.ownsRow_nil w _ E sz) a ys.length c news h1 h2 h3 (by simp only [maxLen, Nat.zero_add]; have := hb.2; simpa using this) (by simpa using hb.1) (Nat.le_refl _)
       exact ⟨v', w', [], by simpa using hrun, by simpa using ho, hgr, fun _ h => by simp at h, by simp, .nil _⟩
      | some b =>
       obtain ⟨v', w', hrun, ho, hgr⟩ := run_append_arg_grows (P := P) w T' ty E i z' sz by_ hT hi hzz hsz hby hzs h0 b 0 0 [] (by simp) (by simp) a ys.length c news h1 h2 (by omega) (by simp only [maxLen, Nat.zero_add]; have := hb.2; simpa using this) (by simpa using hb.1)
       exact ⟨v', w', [], by simpa using hrun, by simpa using ho, hgr, fun _ h => by simp at h, by simp, .nil _⟩
     ·obtain ⟨v', w', hrun, ho, hgr⟩ := run_append_arg_grows (P := P) w T' ty E i z' sz by_ hT hi hzz hsz hby hzs h0 ⟨b, off, none⟩ xs.length xs.length vals (by rw [<- g4.1, flat_length g1]) (fun j u hj => by rw [Addr.add_none]; exact g3 j u hj) a ys.length c news h1 h2 (by omega) (by simp only [maxLen]; exact hb.2) hb.1
      exact ⟨v', w', vals, hrun, ho, hgr, g2, g1, g4⟩
    obtain ⟨v', w', olds, hrun, ho, hgr, k1, k2, k3⟩ := key
    have hfa : flat (xs ++ ys) = flat xs ++ flat ys := by simp [flat]
    obtain ⟨G', r1, r2, r3, r4⟩ := own_new (d := d) (xs := xs ++ ys) hg hf ho (by simp) hgr (fun x hx => by exact (List.mem_append.1 hx).elim (k2 x) (h4 x)) (fun u hu => by exact (List.mem_append.1 hu).elim (k1 u) (h3 u)) (by rw [hfa]; exact k3.append h5)
    exact ⟨v', w', G', hrun, r1, r2, r3, r4⟩
  ·exact h.elim
 ·exact h.elim
def evAppendOwn (P : Program) (T T' : TypeId) (x y : AV) (K : Nat -> AV -> Prop) : Prop :=
 match P.underlying T with
 | some (.slice E) => T' = T /\ ∃ q, tinfo P E = some q /\ 0 < q.1 /\ (∃ z, q.2.2 = some z /\ z.cells.size = q.1) /\
  match x, y with
  | .sl t es xs, .sl t' es' ys => 2 <= t /\ t' ≠ t /\ es = q.1 /\ es' = q.1 /\ roomFor (xs.length + ys.length) q.2.1 /\ K t (.sl t es (xs ++ ys))
  | _, _ => False
 | _ => False
structure ExtBut (t : Nat) (G : Nat -> Status) (w : World) (G' : Nat -> Status) (w' : World) : Prop where
 os : w'.os = w.os
 tape : w'.tape = w.tape
 output : w'.output = w.output
 size : w.heap.size <= w'.heap.size
 stat : ∀ b, b < w.heap.size -> G b ≠ .tag t -> G' b = G b
 keep : ∀ b, b < w.heap.size -> G b ≠ .tag t -> w'.heap[b]? = w.heap[b]?
 old : ∀ b, G b = .tag t -> G' b = .tag t \/ G' b = .junk
 new : ∀ b, w.heap.size <= b -> G' b = .tag t \/ G' b = .junk
theorem VRel.but {t : Nat} {G G' : Nat -> Status} {w w' : World} {x : AV} {v : Value} (h : VRel G w x v) (hg : Good G w) (he : ExtBut t G w G' w') : VRel G' w' (x.kill t) v := by
 refine (h.kill (t0 := t)).mono (fun b hb => ?_) (fun b hb _ => ?_)
 ·unfold killG at hb ⊢
  split at hb
  ·exact absurd rfl hb
  ·rename_i hn; rw [if_neg hn]; exact he.stat b (hg.lt b hb) hn
 ·unfold killG at hb
  split at hb
  ·exact absurd rfl hb
  ·rename_i hn; exact he.keep b (hg.lt b hb) hn
theorem own_grows {t sz : Nat} {G : Nat -> Status} {w w' : World} {E : TypeId} {xs ys : List AV} {olds news : List Value} {v' : Value} (hg : Good G w) (ht2 : 2 <= t) (o3 : ∀ x ∈ xs, x.cells.length = sz) (h3 : One news) (h4 : ∀ x ∈ ys, x.cells.length = sz)
  (h5 : PW (FRel (Stable G) w) (flat ys) news) (ho : w'.ownsRow w.heap.size E sz v' (xs.length + ys.length) (olds ++ news)) (hgr : w.grownBy w' none) (k1 : One olds) (k3 : PW (FRel (Stable G) w) (flat xs) olds) :
  ∃ G', VRel G' w' (.sl t sz (xs ++ ys)) v' /\ ExtBut t G w G' w' /\ Good G' w' := by
 have hfa : flat (xs ++ ys) = flat xs ++ flat ys := by simp [flat]
 have hEk : ∀ b, b < w.heap.size -> w'.heap[b]? = w.heap[b]? := fun b hb => hgr.block b hb (by simp)
 have hp' : PW (FRel (Stable (killG t G)) w') (flat (xs ++ ys)) (olds ++ news) := by
  rw [hfa]
  exact (k3.append h5).mono fun x y _ hr => hr.mono (fun b hb => killG_stable.2 hb) (fun b hb => hEk b (hg.lt b (by unfold Stable at hb; rw [hb]; simp)))
 have hw : ∀ x ∈ xs ++ ys, x.cells.length = sz := fun x hx => by exact (List.mem_append.1 hx).elim (o3 x) (h4 x)
 have h1' : One (olds ++ news) := fun u hu => by exact (List.mem_append.1 hu).elim (k1 u) (h3 u)
 have hlen : xs.length + ys.length = (xs ++ ys).length := by simp
 rw [hlen] at ho
 have hgk : Good (killG t G) w := ⟨fun b hb => hg.lt b fun h => hb (by simp [killG, h]), fun b b' t' e1 e2 => by
   unfold killG at e1 e2; split at e1 <;> first | (cases e1; done) | (split at e2 <;> first | (cases e2; done) | exact hg.tags b b' t' e1 e2), fun b b' t' e1 e2 => by
   unfold killG at e1 e2; split at e1 <;> first | (cases e1; done) | (split at e2 <;> first | (cases e2; done) | exact hg.boxes b b' t' e1 e2)⟩
 have hno : ∀ b, killG t G b ≠ .tag t := fun b h => by unfold killG at h; split at h <;> first | (cases h; done) | exact absurd h (by assumption)
 have hjunk : ∀ b, w.heap.size <= b -> killG t G b = .junk := fun b hb => Classical.byContradiction fun h => by have := hgk.lt b h; omega
 have hbase : w'.ownsRow 0 E sz v' (xs ++ ys).length (olds ++ news) := ⟨ho.1, ho.2.imp id fun ⟨g, cap, cur, a, _, r⟩ => ⟨g, cap, cur, a, Nat.zero_le _, r⟩⟩
 rcases ho.2 with ⟨hv, hn⟩ | ⟨g, cap, cur, hv, hgb, hh, r⟩
 ·refine ⟨killG t G, .own t sz _ v' E _ ht2 hbase (fun b hb => by subst hv; simp [Value.ownBlock] at hb) hw h1' hp', ⟨hgr.os, hgr.tape, hgr.output, hgr.size, fun b hb hn => by simp [killG, hn], fun b hb _ => hEk b hb, fun b hb => .inr (by simp [killG, hb]), fun b hb => .inr (hjunk b hb)⟩, ⟨fun b hb => Nat.lt_of_lt_of_le (hgk.lt b hb) hgr.size, hgk.tags, hgk.boxes⟩⟩
 ·have hlt : g < w'.heap.size := by
   rcases Nat.lt_or_ge g w'.heap.size with h | h
   ·exact h
   ·simp [Array.getElem?_eq_none h] at hh
  refine ⟨updG (killG t G) g (.tag t), .own t sz _ v' E _ ht2 hbase (fun b hb => ?_) hw h1' (hp'.mono fun x y _ hr => hr.mono (fun b hb => ?_) (fun _ _ => rfl)), ?_, hgk.upd _ _ hgb hlt hgr.size (fun t' ht' b hb => ?_) (fun i h => by cases h)⟩
  ·subst hv; simp only [Value.ownBlock, Option.some.injEq] at hb; simp [updG, <- hb]
  ·have := hgk.lt b (by unfold Stable at hb; rw [hb]; simp)
   unfold Stable at *; simp only [updG]; rw [if_neg (by omega)]; exact hb
  ·refine ⟨hgr.os, hgr.tape, hgr.output, hgr.size, fun b hb hn => by simp only [updG]; rw [if_neg (by omega)]; simp [killG, hn], fun b hb _ => hEk b hb, fun b hb => .inr ?_, fun b hb => ?_⟩
   ·simp only [updG]; rw [if_neg (by have := hg.lt b (by rw [hb]; simp); omega)]; simp [killG, hb]
   ·simp only [updG]; split
    ·exact .inl rfl
    ·exact .inr (hjunk b hb)
  ·cases ht'; exact hno b hb
theorem evAppendOwn_sound {T T' : TypeId} {x y : AV} {K : Nat -> AV -> Prop} (h : evAppendOwn P T T' x y K) :
  ∃ t r, K t r /\ 2 <= t /\ ∀ (ty : TypeId) (G : Nat -> Status) (w : World) (v u : Value), Good G w -> VRel G w x v -> VRel G w y u ->
   ∃ v' w' G', (Builtin.append_ #[T, T'] ty #[v, u]).run P w = .ok v' w' /\ VRel G' w' r v' /\ ExtBut t G w G' w' /\ Good G' w' := by
 unfold evAppendOwn at h
 split at h
 ·rename_i E hT
  obtain ⟨rfl, ⟨sz, by_, z⟩, hq, h0, ⟨z', hz, hzs⟩, h⟩ := h
  simp only at h0 hz hzs h
  subst hz
  obtain ⟨i, hi, hsz, hby, hzz⟩ := tinfo_some hq
  split at h
  ·rename_i t es xs t' es' ys
   obtain ⟨ht2, htt, he1, he2, hb, hK⟩ := h
   have he1 := he1.symm; have he2 := he2.symm; subst he1; subst he2
   refine ⟨_, _, hK, ht2, fun ty G w v u hg hv hu => ?_⟩
   have hfa : flat (xs ++ ys) = flat xs ++ flat ys := by simp [flat]
   cases hv with
   | froz hv => exfalso; cases hv <;> omega
   | own _ _ _ _ e' vals _ o1 o2 o3 o4 o5 =>
   have idle : ∀ ax c, u = .slice ax 0 c -> ys = [] -> ∃ v' w' G', (Builtin.append_ #[T', T'] ty #[v, u]).run P w = .ok v' w' /\ VRel G' w' (.sl t sz (xs ++ ys)) v' /\ ExtBut t G w G' w' /\ Good G' w' := by
    rintro ax c rfl rfl
    have hv : VRel G w (.sl t sz xs) v := .own t sz xs v e' vals ht2 o1 o2 o3 o4 o5
    obtain ⟨ao, c0, hve, _, _, hc, _⟩ := hv.sl_inv
    refine ⟨v, w, G, by rw [hve]; exact run_append_zero hT hq hc w, by rw [List.append_nil]; exact hv, ⟨rfl, rfl, rfl, Nat.le_refl _, fun _ _ _ => rfl, fun _ _ _ => rfl, fun b hb => .inl hb, fun b hb => .inr ?_⟩, hg⟩
    exact Classical.byContradiction fun h => by have := hg.lt b h; omega
   rcases hu.news with ⟨hy, ax, c, hue⟩ | ⟨a, c, news, rfl, h1, h2, h3, h4, h5⟩
   ·exact idle ax c hue hy
   -- the three ways
   have grows : ∀ (olds : List Value) (v' : Value) (w' : World), w'.ownsRow w.heap.size E sz v' (xs.length + ys.length) (olds ++ news) -> w.grownBy w' none -> One olds -> PW (FRel (Stable G) w) (flat xs) olds ->
     ∃ G', VRel G' w' (.sl t sz (xs ++ ys)) v' /\ ExtBut t G w G' w' /\ Good G' w' := fun olds v' w' ho hgr k1 k3 => own_grows hg ht2 o3 h3 h4 h5 ho hgr k1 k3
   rcases o1.2 with ⟨hv, hn⟩ | ⟨g, cap, cur, hv, hgb, hh, hnc, hcm, hcs, hct⟩
   ·subst hv
    obtain rfl := List.eq_nil_of_length_eq_zero hn
    obtain ⟨v', w', hrun, ho, hgr, _⟩ := run_append_own (P := P) w w.heap.size T' ty E i z' sz by_ hT hi hzz hsz hby hzs h0 (.slice none 0 0) 0 [] (World.ownsRow_nil w _ E sz) a ys.length c news h1 h2 h3 (by simp only [maxLen, Nat.zero_add]; have := hb.2; simpa using this) (by simpa using hb.1) (Nat.le_refl _)
    obtain ⟨G', r1, r2, r3⟩ := grows [] v' w' (by simpa using ho) hgr (fun _ h => by simp at h) (.nil _)
    exact ⟨v', w', G', hrun, r1, r2, r3⟩
   ·subst hv
    have hGg : G g = .tag t := o2 g rfl
    have hvl : vals.length = xs.length * sz := o1.1
    by_cases hroom : xs.length + ys.length <= cap
    ·-- within the capacity
     have hfit : xs.length * sz + news.length <= cur.size := by rw [h1, hcs, <- Nat.add_mul]; exact Nat.mul_le_mul_right _ hroom
     have hrun := run_append_room' (P := P) (w := w) T' ty E e' hT hq g xs.length cap cur hh a ys.length c news h1 h2 h3 hroom hfit
     refine ⟨_, _, G, hrun, ?_, ?_, ?_⟩
     ·have hset := setRow_heap w g cur (cur.toList.take (xs.length * sz) ++ news ++ cur.toList.drop (xs.length * sz + news.length)).toArray e' (0, 0) hh
      have hlen : (xs ++ ys).length = xs.length + ys.length := by simp
      have hp' : PW (FRel (Stable G) (w.setRow g (cur.toList.take (xs.length * sz) ++ news ++ cur.toList.drop (xs.length * sz + news.length)).toArray)) (flat (xs ++ ys)) (vals ++ news) := by
       rw [hfa]
       refine (o5.append h5).mono fun x y _ hr => hr.mono (fun _ h => h) (fun b hb => ?_)
       have hne : b ≠ g := fun h => by subst h; unfold Stable at hb; rw [hGg] at hb; cases hb
       simp [World.setRow, Array.getElem?_modify, Ne.symm hne]
      have hrow : (w.setRow g (cur.toList.take (xs.length * sz) ++ news ++ cur.toList.drop (xs.length * sz + news.length)).toArray).ownsRow 0 e' sz (.slice (some ⟨g, 0, none⟩) (xs.length + ys.length) cap) (xs ++ ys).length (vals ++ news) := by
       rw [hlen]
       refine ⟨by rw [List.length_append, hvl, h1, <- Nat.add_mul], .inr ⟨g, cap, _, rfl, Nat.zero_le _, hset, hroom, hcm, ?_, ?_⟩⟩
       ·simp only [List.size_toArray, List.length_append, List.length_take, List.length_drop, Array.length_toList]
        omega
       ·have h6 : cur.toList.take (xs.length * sz) = vals := hct
        rw [h6]
        simp only [List.append_assoc]
        have h7 : (xs.length + ys.length) * sz = (vals ++ news).length := by rw [List.length_append, hvl, h1, <- Nat.add_mul]
        rw [<- List.append_assoc, List.take_left' h7.symm]
      exact .own t sz (xs ++ ys) _ e' (vals ++ news) ht2 hrow (fun b hb => by simp only [Value.ownBlock, Option.some.injEq] at hb; rw [<- hb]; exact hGg)
       (fun x hx => by exact (List.mem_append.1 hx).elim (o3 x) (h4 x)) (fun u hu => by exact (List.mem_append.1 hu).elim (o4 u) (h3 u)) hp'
     ·refine ⟨rfl, rfl, rfl, by simp [World.setRow], fun _ _ _ => rfl, fun b hb hn => ?_, fun b hb => .inl hb, fun b hb => .inr ?_⟩
      ·have hne : b ≠ g := fun h => by subst h; exact hn hGg
       simp [World.setRow, Array.getElem?_modify, Ne.symm hne]
      ·exact Classical.byContradiction fun h => by have := hg.lt b h; omega
     ·exact ⟨fun b hb => by simpa [World.setRow] using hg.lt b hb, hg.tags, hg.boxes⟩
    ·have hcell : ∀ j u, vals[j]? = some u -> w.cell? (Addr.add ⟨g, 0, none⟩ j) = some u := by
      intro j u hj
      have : cur.toList[j]? = some u := by
       rw [<- hct, List.getElem?_take] at hj
       split at hj
       ·exact hj
       ·cases hj
      rw [Addr.add_none]
      simp only [World.cell?, hh, Nat.zero_add]
      simpa using this
     obtain ⟨v', w', hrun, ho, hgr⟩ := run_append_arg_grows (P := P) w T' ty E i z' sz by_ hT hi hzz hsz hby hzs h0 ⟨g, 0, none⟩ xs.length cap vals hvl hcell a ys.length c news h1 h2 (by omega) (by simp only [maxLen]; exact hb.2) hb.1
     obtain ⟨G', r1, r2, r3⟩ := grows vals v' w' ho hgr o4 o5
     exact ⟨v', w', G', hrun, r1, r2, r3⟩
  ·exact h.elim
 ·exact h.elim
def evAppendTl (P : Program) (T T' : TypeId) (x y : AV) (K : Nat -> AV -> AV -> Prop) : Prop :=
 match P.underlying T with
 | some (.slice E) => T' = T /\ ∃ q, tinfo P E = some q /\ 0 < q.1 /\ (∃ z, q.2.2 = some z /\ z.cells.size = q.1) /\
  match x, y with
  | .tl t es xs i, .sl t' es' ys => 2 <= t /\ t' ≠ t /\ es = q.1 /\ es' = q.1 /\ 0 < ys.length /\ roomFor (xs.length + ys.length) q.2.1 /\ K t (.tl t es (xs ++ ys) i) (.tl t es (xs.drop i ++ ys) 0)
  | _, _ => False
 | _ => False
theorem evAppendTl_sound {T T' : TypeId} {x y : AV} {K : Nat -> AV -> AV -> Prop} (h : evAppendTl P T T' x y K) :
  ∃ t r1 r2, K t r1 r2 /\ 2 <= t /\ ∀ (ty : TypeId) (G : Nat -> Status) (w : World) (v u : Value), Good G w -> VRel G w x v -> VRel G w y u ->
   ∃ v' w' G', (Builtin.append_ #[T, T'] ty #[v, u]).run P w = .ok v' w' /\ (VRel G' w' r1 v' \/ VRel G' w' r2 v') /\ ExtBut t G w G' w' /\ Good G' w' := by
 unfold evAppendTl at h
 split at h
 ·rename_i E hT
  obtain ⟨rfl, ⟨sz, by_, z⟩, hq, h0, ⟨z', hz, hzs⟩, h⟩ := h
  simp only at h0 hz hzs h
  subst hz
  obtain ⟨ti, hi, hsz, hby, hzz⟩ := tinfo_some hq
  split at h
  ·rename_i t es xs i t' es' ys
   obtain ⟨ht2, htt, he1, he2, hyl, hb, hK⟩ := h
   have he1 := he1.symm; have he2 := he2.symm; subst he1; subst he2
   refine ⟨_, _, _, hK, ht2, fun ty G w v u hg hv hu => ?_⟩
   obtain ⟨b, off, off', c, hbase, hil, hoff, hlc, rfl⟩ := hv.tl_inv
   rcases hu.news with ⟨hy, _⟩ | ⟨a, cu, news, rfl, h1, h2, h3, h4, h5⟩
   ·subst hy; simp at hyl
   have hown : evAppendOwn P T' T' (.sl t sz xs) (.sl t' sz ys) fun t1 r => t1 = t /\ r = .sl t sz (xs ++ ys) := by
    unfold evAppendOwn
    rw [hT]
    exact ⟨rfl, (sz, by_, some z'), hq, h0, ⟨z', rfl, hzs⟩, ht2, htt, rfl, rfl, hb, rfl, rfl⟩
   obtain ⟨t1, r, ⟨rfl, rfl⟩, _, hrunO⟩ := evAppendOwn_sound hown
   have hbase' := hbase
   cases hbase with
   | froz hv => exfalso; cases hv <;> omega
   | own _ _ _ _ e' vals _ o1 o2 o3 o4 o5 =>
   rcases o1.2 with ⟨hv, hn⟩ | ⟨g, cap, cur, hv, hgb, hh, hnc, hcm, hcs, hct⟩
   ·cases hv
   ·simp only [Value.slice.injEq, Option.some.injEq, Addr.mk.injEq, true_and, and_true] at hv
    obtain ⟨⟨rfl, rfl⟩, rfl⟩ := hv
    have hvl : vals.length = xs.length * sz := o1.1
    by_cases hroom : xs.length + ys.length <= c
    ·-- within the capacity
     obtain rfl : off' = 0 + i * sz := by rcases hoff with h | h <;> omega
     have hfit : xs.length * sz + news.length <= cur.size := by rw [h1, hcs, <- Nat.add_mul]; exact Nat.mul_le_mul_right _ hroom
     have hrun0 := run_append_room' (P := P) (w := w) T' ty E e' hT hq b xs.length c cur hh a ys.length cu news h1 h2 h3 hroom hfit
     obtain ⟨v', w', G', hr1, hr2, hr3, hr4⟩ := hrunO ty G w _ _ hg hbase' hu
     rw [hrun0] at hr1
     cases hr1
     have hf := run_firstCells_some (P := P) w sz ys.length a ys.length cu news h1 h2
     have hst := run_storeCells_at P b (xs.length * sz) e' news 0 cur w hh (by simpa using hfit) h3
     simp only [Nat.add_zero] at hst
     have hplace : i * sz + (xs.length - i) * sz = xs.length * sz := by rw [<- Nat.add_mul]; congr 1; omega
     have hroom2 : xs.length - i + ys.length <= c - i := by omega
     refine ⟨.slice (some ⟨b, 0 + i * sz, none⟩) (xs.length - i + ys.length) (c - i), _, G', ?_, .inl ?_, hr3, hr4⟩
     ·simp [Builtin.append_, run_underlying hT, run_sizeOf hq, Builtin.lenOf, hroom2, hf, Addr.add_none]
      rw [hplace, hst]
      simp
     ·have := VRel.tl t1 sz (xs ++ ys) i b 0 (0 + i * sz) c (by rw [List.length_append]; exact hr2) (by rw [List.length_append]; omega) (.inl rfl)
      rw [List.length_append] at this
      rw [show xs.length - i + ys.length = xs.length + ys.length - i by omega]
      exact this
    ·-- a new row
     have hwx : ∀ x ∈ xs.drop i, x.cells.length = sz := fun x hx => o3 x (List.mem_of_mem_drop hx)
     have hdl : (xs.drop i).length = xs.length - i := List.length_drop
     have hcell : ∀ j u, (vals.drop (i * sz))[j]? = some u -> w.cell? (Addr.add ⟨b, off', none⟩ j) = some u := by
      intro j u hj
      rw [List.getElem?_drop] at hj
      have hjl := (List.getElem?_eq_some_iff.1 hj).1
      have hi2 : i < xs.length := by
       rcases Nat.lt_or_ge i xs.length with h | h
       ·exact h
       ·exfalso
        have : xs.length * sz <= i * sz := Nat.mul_le_mul_right _ h
        omega
      obtain rfl : off' = 0 + i * sz := by rcases hoff with h | h <;> omega
      have : cur.toList[i * sz + j]? = some u := by
       rw [<- hct, List.getElem?_take] at hj
       split at hj
       ·exact hj
       ·cases hj
      rw [Addr.add_none]
      simp only [World.cell?, hh, Nat.zero_add]
      simpa using this
     have hdv : (vals.drop (i * sz)).length = (xs.length - i) * sz := by rw [List.length_drop, hvl, Nat.sub_mul]
     obtain ⟨v', w', hrun, ho, hgr⟩ := run_append_arg_grows (P := P) w T' ty E ti z' sz by_ hT hi hzz hsz hby hzs h0 ⟨b, off', none⟩ (xs.length - i) (c - i) (vals.drop (i * sz)) hdv hcell a ys.length cu news h1 h2 (by omega) (by simp only [maxLen]; have := hb.2; omega) (by
      refine Nat.le_trans (Nat.mul_le_mul_right _ ?_) hb.1; omega)
     obtain ⟨G', r1, r2, r3⟩ := own_grows (t := t1) (xs := xs.drop i) hg ht2 hwx h3 h4 h5 (by rw [hdl]; exact ho) hgr (fun u hu => o4 u (List.mem_of_mem_drop hu)) (by rw [flat_drop i o3]; exact o5.drop (i * sz))
     refine ⟨v', w', G', hrun, .inr ?_, r2, r3⟩
     obtain ⟨ao, c2, rfl, _, hn2, _, hs⟩ := r1.sl_inv
     have hne : 0 < (xs.drop i ++ ys).length := by rw [List.length_append]; omega
     rcases hs with hs | ⟨b2, off2, vals2, rfl, _⟩
     ·rw [hs] at hne; simp at hne
     ·have := VRel.tl t1 sz (xs.drop i ++ ys) 0 b2 off2 off2 c2 r1 (Nat.zero_le _) (.inl (by omega))
      simpa using this
  ·exact h.elim
 ·exact h.elim
end ops
end Go.AM
