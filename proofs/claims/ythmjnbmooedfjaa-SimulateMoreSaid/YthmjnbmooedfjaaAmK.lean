/-
  The abstract machine: the frame, contracts, calls.
-/
import Derived.Test.YthmjnbmooedfjaaAmJ
namespace Go.AM
open Go.RowKit

/-! ### looks at a value's leaves -/
mutual
def AV.allLeaf (q : AV → Bool) : AV → Bool
  | .ag cs => allLeafs q cs
  | .tup cs => allLeafs q cs
  | .any => q .any
  | .nil => q .nil
  | .ub => q .ub
  | .sc v => q (.sc v)
  | .sl t es xs => q (.sl t es xs)
  | .pb i o => q (.pb i o)
  | .pe t es xs i o => q (.pe t es xs i o)
  | .fn g caps => q (.fn g caps)
  | .fp cs o => q (.fp cs o)
  | .so t xs => q (.so t xs)
  | .po t xs i => q (.po t xs i)
  | .mp t P k e D => q (.mp t P k e D)
  | .cl g caps => q (.cl g caps)
  | .tl t es xs i => q (.tl t es xs i)
def allLeafs (q : AV → Bool) : List AV → Bool
  | [] => true
  | x :: r => AV.allLeaf q x && allLeafs q r
end

theorem allLeafs_mem {q : AV → Bool} : ∀ {cs : List AV}, allLeafs q cs = true → ∀ x ∈ cs, x.allLeaf q = true
  | [], _, x, h => by simp at h
  | y :: r, h, x, hx => by
    simp only [allLeafs, Bool.and_eq_true] at h
    rcases List.mem_cons.1 hx with rfl | hx
    · exact h.1
    · exact allLeafs_mem h.2 x hx

theorem AV.allLeaf_leaf {q : AV → Bool} {x : AV} (h : x.leafy = true) : x.allLeaf q = q x := by
  cases x <;> first | (simp [AV.leafy] at h; done) | simp [AV.allLeaf]

theorem FRel.mapTopQ {f : AV → AV} {q : AV → Bool} {S : Nat → Prop} {w w' : World} {G' : Nat → Status} (hleaf : ∀ x v, x.leafy = true → q x = true → FRel S w x v → VRel G' w' (f x) v)
    {x : AV} {v : Value} (h : FRel S w x v) : x.allLeaf q = true → VRel G' w' (x.mapTop f) v := by
  induction h with
  | ag cs vs h1 h0 _ ih =>
    intro hq
    simp only [AV.allLeaf] at hq
    simp only [AV.mapTop, mapTops_eq]
    refine .ag _ _ (by simpa using h1) h0 fun j x u hx hu => ?_
    simp only [List.getElem?_map] at hx
    cases hc : cs[j]? with
    | none => simp [hc] at hx
    | some c => simp [hc] at hx; subst hx; exact ih j c u hc hu (allLeafs_mem hq c (List.mem_of_getElem? hc))
  | tup cs vs h1 _ ih =>
    intro hq
    simp only [AV.allLeaf] at hq
    simp only [AV.mapTop, mapTops_eq]
    refine .tup _ _ (by simpa using h1) fun j x u hx hu => ?_
    simp only [List.getElem?_map] at hx
    cases hc : cs[j]? with
    | none => simp [hc] at hx
    | some c => simp [hc] at hx; subst hx; exact ih j c u hc hu (allLeafs_mem hq c (List.mem_of_getElem? hc))
  | any v => exact fun hq => hleaf _ _ rfl hq (.any v)
  | nil => exact fun hq => hleaf _ _ rfl hq .nil
  | ub b => exact fun hq => hleaf _ _ rfl hq (.ub b)
  | sc v => exact fun hq => hleaf _ _ rfl hq (.sc v)
  | slNil t es a c h1 h2 h3 => exact fun hq => hleaf _ _ rfl hq (.slNil t es a c h1 h2 h3)
  | sl t es xs b off c vals h1 h2 h3 hc h4 h5 h0 h6 h7 => exact fun hq => hleaf _ _ rfl hq (.sl t es xs b off c vals h1 h2 h3 hc h4 h5 h0 h6 h7)
  | pe t es xs i o b off c h1 h2 => exact fun hq => hleaf _ _ rfl hq (.pe t es xs i o b off c h1 h2)
  | fn g caps vs h1 h2 => exact fun hq => hleaf _ _ rfl hq (.fn g caps vs h1 h2)
  | fp cs o b vals h1 h2 h0 h3 h4 => exact fun hq => hleaf _ _ rfl hq (.fp cs o b vals h1 h2 h0 h3 h4)

theorem VRel.mapTopQ {f : AV → AV} {q : AV → Bool} {w w' : World} {G G' : Nat → Status} (hleaf : ∀ x v, x.leafy = true → q x = true → VRel G w x v → VRel G' w' (f x) v)
    {x : AV} {v : Value} (h : VRel G w x v) : x.allLeaf q = true → VRel G' w' (x.mapTop f) v := by
  induction h with
  | froz h => exact h.mapTopQ fun x v hx hq h => hleaf x v hx hq (.froz h)
  | own t es xs v e vals h1 h2 h3 h4 h0 h5 => exact fun hq => hleaf _ _ rfl hq (.own t es xs v e vals h1 h2 h3 h4 h0 h5)
  | ag cs vs h1 h0 _ ih =>
    intro hq
    simp only [AV.allLeaf] at hq
    simp only [AV.mapTop, mapTops_eq]
    refine .ag _ _ (by simpa using h1) h0 fun j x u hx hu => ?_
    simp only [List.getElem?_map] at hx
    cases hc : cs[j]? with
    | none => simp [hc] at hx
    | some c => simp [hc] at hx; subst hx; exact ih j c u hc hu (allLeafs_mem hq c (List.mem_of_getElem? hc))
  | tup cs vs h1 _ ih =>
    intro hq
    simp only [AV.allLeaf] at hq
    simp only [AV.mapTop, mapTops_eq]
    refine .tup _ _ (by simpa using h1) fun j x u hx hu => ?_
    simp only [List.getElem?_map] at hx
    cases hc : cs[j]? with
    | none => simp [hc] at hx
    | some c => simp [hc] at hx; subst hx; exact ih j c u hc hu (allLeafs_mem hq c (List.mem_of_getElem? hc))
  | pb i o b h => exact fun hq => hleaf _ _ rfl hq (.pb i o b h)
  | pe t es xs i o b off c h1 h2 => exact fun hq => hleaf _ _ rfl hq (.pe t es xs i o b off c h1 h2)
  | so t xs v e vals h1 h2 h3 h4 h0 h5 => exact fun hq => hleaf _ _ rfl hq (.so t xs v e vals h1 h2 h3 h4 h0 h5)
  | po t xs i b off c h1 h2 => exact fun hq => hleaf _ _ rfl hq (.po t xs i b off c h1 h2)
  | mp t P k e D b n h1 h2 h3 => exact fun hq => hleaf _ _ rfl hq (.mp t P k e D b n h1 h2 h3)
  | cl f caps vs h => exact fun hq => hleaf _ _ rfl hq (.cl f caps vs h)
  | tl t es xs i b off off' c h1 h2 h3 => exact fun hq => hleaf _ _ rfl hq (.tl t es xs i b off off' c h1 h2 h3)

theorem VRel.keepQ {q : AV → Bool} {w w' : World} {G G' : Nat → Status} (hleaf : ∀ x v, x.leafy = true → q x = true → VRel G w x v → VRel G' w' x v)
    {x : AV} {v : Value} (h : VRel G w x v) (hq : x.allLeaf q = true) : VRel G' w' x v := by
  have hid : ∀ v, VRel G' w' (x.mapTop id) v → VRel G' w' x v := by
    suffices x.mapTop id = x by rw [this]; exact fun _ h => h
    have key : ∀ x : AV, x.mapTop id = x := by
      intro x
      induction x using AV.rec (motive_2 := fun cs => mapTops id cs = cs) with
      | nil => rfl
      | cons x r h1 h2 => simp only [mapTops, h1, h2]
      | ag cs ih => simp only [AV.mapTop, ih]
      | tup cs ih => simp only [AV.mapTop, ih]
      | _ => rfl
    exact key x
  exact hid v (h.mapTopQ (f := id) hleaf hq)

/-! ### the frame -/
structure St where
  n : Nat
  tmps : List (Nat × AV)
  boxes : List (List AV)

def lookT : List (Nat × AV) → Nat → AV
  | [], _ => .any
  | (k, v) :: r, s => if k = s then v else lookT r s
def putT : List (Nat × AV) → Nat → AV → List (Nat × AV)
  | [], s, x => [(s, x)]
  | (k, v) :: r, s, x => if k = s then (s, x) :: r else (k, v) :: putT r s x

theorem lookT_put : ∀ (l : List (Nat × AV)) (d : Nat) (x : AV) (s : Nat), lookT (putT l d x) s = if d = s then x else lookT l s
  | [], d, x, s => by simp [putT, lookT]
  | (k, v) :: r, d, x, s => by
    simp only [putT]
    by_cases hk : k = d
    · subst hk; simp only [if_true, lookT]; by_cases hs : k = s <;> simp [hs]
    · rw [if_neg hk]
      simp only [lookT, lookT_put r d x s]
      by_cases hs : k = s
      · subst hs; simp [Ne.symm hk]
      · simp [hs]

def mapT (f : AV → AV) : List (Nat × AV) → List (Nat × AV)
  | [] => []
  | (k, v) :: r => (k, v.mapTop f) :: mapT f r

theorem lookT_map {f : AV → AV} (hf : f .any = .any) : ∀ (l : List (Nat × AV)) (s : Nat), lookT (mapT f l) s = (lookT l s).mapTop f
  | [], s => by simp [mapT, lookT, AV.mapTop, hf]
  | (k, v) :: r, s => by
    simp only [mapT, lookT]
    by_cases hk : k = s
    · simp [hk]
    · simp [hk, lookT_map hf r s]

def St.get (σ : St) (s : Nat) : AV := lookT σ.tmps s
def St.put (σ : St) (d : Option Nat) (x : AV) : St :=
  match d with
  | none => σ
  | some d => { σ with tmps := putT σ.tmps d x }
def mapB (f : AV → AV) : List (List AV) → List (List AV)
  | [] => []
  | cs :: r => mapTops f cs :: mapB f r
def St.map (σ : St) (f : AV → AV) : St := { σ with tmps := mapT f σ.tmps, boxes := mapB f σ.boxes }

theorem mapB_eq (f : AV → AV) : ∀ l : List (List AV), mapB f l = l.map (mapTops f)
  | [] => rfl
  | cs :: r => by simp [mapB, mapB_eq f r]

def St.ev (σ : St) : Operand → AV
  | .tmp t => σ.get t
  | .const v => ofLit v
  | .global _ => .any
  | .func f => .fn f []

/-- how it was at the beginning: the blocks, and the ghosts' values -/
structure Orig where
  st : Nat → Status
  gh : Gh
instance : CoeFun Orig fun _ => Nat → Status := ⟨Orig.st⟩

structure SRel (G0 : Orig) (w0 : World) (σ : St) (G : Nat → Status) (a : Act) (w : World) : Prop where
  good : Good G w
  slots : ∀ s, VRel G w (σ.get s) (a.tmps.getD s undef)
  boxes : BRel G0.gh G w σ.boxes
  blt : ∀ b i, G b = .box i → i < σ.boxes.length
  size : a.tmps.size = σ.n
  defs : a.defers = []
  os : w.os = w0.os
  tape : w.tape = w0.tape
  output : w.output = w0.output
  hsize : w0.heap.size ≤ w.heap.size
  stat : ∀ b, b < w0.heap.size → (∀ t, G0 b ≠ .tag t) → G b = G0 b
  keep : ∀ b, b < w0.heap.size → (∀ i, G0 b ≠ .box i) → (∀ t, G0 b ≠ .tag t) → w.heap[b]? = w0.heap[b]?

theorem SRel.ev {G0 w0 σ G a w} (h : SRel G0 w0 σ G a w) (x : Operand) : VRel G w (σ.ev x) (a.eval x) := by
  cases x with
  | tmp t => exact h.slots t
  | const v => exact ofLit_rel v
  | global g => exact .froz (.any _)
  | func f => exact .froz (.fn f [] #[] rfl (by simp))

theorem put_getD {a : Act} {d : Option Nat} {v : Value} {s : Nat} : (a.put d v).tmps.getD s undef = if d = some s ∧ s < a.tmps.size then v else a.tmps.getD s undef := by
  cases d with
  | none => simp [Act.put]
  | some d =>
    simp only [Act.put, Option.some.injEq]
    by_cases hds : d = s
    · subst hds
      by_cases hlt : d < a.tmps.size
      · simp [Array.getD_eq_getD_getElem?, hlt]
      · simp [Array.getD_eq_getD_getElem?, hlt]
    · simp [Array.getD_eq_getD_getElem?, Array.getElem?_setIfInBounds, hds]

theorem put_size {a : Act} {d : Option Nat} {v : Value} : (a.put d v).tmps.size = a.tmps.size := by cases d <;> simp [Act.put]
theorem put_defers {a : Act} {d : Option Nat} {v : Value} : (a.put d v).defers = a.defers := by cases d <;> simp [Act.put]

def dstOk (n : Nat) (d : Option Nat) : Bool :=
  match d with
  | none => true
  | some d => decide (d < n)

theorem slots_put {G : Nat → Status} {w : World} {σ : St} {a : Act} {d : Option Nat} {x : AV} {v : Value} (h : ∀ s, VRel G w (σ.get s) (a.tmps.getD s undef)) (hs : a.tmps.size = σ.n) (hd : dstOk σ.n d = true) (hx : VRel G w x v) :
    ∀ s, VRel G w ((σ.put d x).get s) ((a.put d v).tmps.getD s undef) := by
  intro s
  rw [put_getD]
  cases d with
  | none => simpa [St.put] using h s
  | some d =>
    simp only [St.put, St.get, lookT_put, Option.some.injEq]
    simp only [dstOk, decide_eq_true_eq] at hd
    by_cases hds : d = s
    · subst hds; rw [if_pos rfl, if_pos ⟨rfl, by omega⟩]; exact hx
    · rw [if_neg hds, if_neg (fun h => hds h.1)]; exact h s

theorem put_boxes {σ : St} {d : Option Nat} {x : AV} : (σ.put d x).boxes = σ.boxes := by cases d <;> rfl
theorem put_n {σ : St} {d : Option Nat} {x : AV} : (σ.put d x).n = σ.n := by cases d <;> rfl

/-- an additive step, seen from the frame -/
theorem SRel.add {G0 w0 σ G a w G' w'} (h : SRel G0 w0 σ G a w) (hE : Ext G w G' w') (hG : Good G' w') (hb : ∀ b i, G' b = .box i → G b = .box i) {d : Option Nat} {x : AV} {v : Value} (hd : dstOk σ.n d = true) (hx : VRel G' w' x v) :
    SRel G0 w0 (σ.put d x) G' (a.put d v) w' where
  good := hG
  slots := slots_put (fun s => (h.slots s).ext h.good hE) h.size hd hx
  boxes := by rw [put_boxes]; exact h.boxes.ext h.good hE fun b i hb' _ => hb b i hb'
  blt := fun b i hb' => by rw [put_boxes]; exact h.blt b i (hb b i hb')
  size := by rw [put_size, put_n]; exact h.size
  defs := by rw [put_defers]; exact h.defs
  os := hE.os.trans h.os
  tape := hE.tape.trans h.tape
  output := hE.output.trans h.output
  hsize := Nat.le_trans h.hsize hE.size
  stat := fun b hb ht => (hE.stat b (Nat.lt_of_lt_of_le hb h.hsize)).trans (h.stat b hb ht)
  keep := fun b hb hn ht => (hE.keep b (Nat.lt_of_lt_of_le hb h.hsize)).trans (h.keep b hb hn ht)

/-! ### tags that are free -/
def freeLeaf (d : Nat) : AV → Bool
  | .sl t _ _ => decide (root t / 64 ≠ d + 1)
  | .pe t _ _ _ _ => decide (root t / 64 ≠ d + 1)
  | .so t _ => decide (root t / 64 ≠ d + 1)
  | .po t _ _ => decide (root t / 64 ≠ d + 1)
  | .mp t _ _ _ _ => decide (root t / 64 ≠ d + 1)
  | .tl t _ _ _ => decide (root t / 64 ≠ d + 1)
  | _ => true
def freeT (d : Nat) : List (Nat × AV) → Bool
  | [] => true
  | (_, v) :: r => v.allLeaf (freeLeaf d) && freeT d r
def freeB (d : Nat) : List (List AV) → Bool
  | [] => true
  | cs :: r => allLeafs (freeLeaf d) cs && freeB d r
def St.free (σ : St) (d : Nat) : Bool := decide (d < 16383) && (freeT d σ.tmps && freeB d σ.boxes)

def killR (d : Nat) (G : Nat → Status) (b : Nat) : Status :=
  match G b with
  | .tag t => if root t / 64 = d + 1 then .junk else .tag t
  | s => s

theorem killR_stable {d : Nat} {G : Nat → Status} {b : Nat} : Stable (killR d G) b ↔ Stable G b := by
  unfold Stable killR
  cases h : G b <;> simp
  split <;> simp

theorem VRel.killR {d : Nat} {G : Nat → Status} {w : World} {x : AV} {v : Value} (h : VRel G w x v) (hq : x.allLeaf (freeLeaf d) = true) : VRel (AM.killR d G) w x v := by
  have hsl : ∀ {t es xs v}, root t / 64 ≠ d + 1 → VRel G w (.sl t es xs) v → VRel (AM.killR d G) w (.sl t es xs) v := by
    intro t es xs v ht h
    cases h with
    | froz h => exact .froz (h.mono (fun b => killR_stable.2) (fun _ _ => rfl))
    | own _ _ _ _ e vals h1 h2 h3 h4 h0 h5 =>
      exact .own t es xs v e vals h1 h2 (fun b hb => by unfold AM.killR; rw [h3 b hb]; simp [ht]) h4 h0 (h5.mono fun x y _ hr => hr.mono (fun b => killR_stable.2) (fun _ _ => rfl))
  have hso : ∀ {t xs v}, root t / 64 ≠ d + 1 → VRel G w (.so t xs) v → VRel (AM.killR d G) w (.so t xs) v := by
    intro t xs v ht h
    have := h.so_map (f := id) (G' := AM.killR d G) (w' := w) h.so_two (fun x u hx hr => ⟨hx, by
      cases hr with
      | froz hr => exact .froz (hr.mono (fun b => killR_stable.2) (fun _ _ => rfl))
      | own t' es ys _ e vals h1 hrt h2 h3 h4 h0 h5 =>
        exact .own t' es ys _ e vals h1 hrt h2 (fun b hb => by unfold AM.killR; rw [h3 b hb]; simp [hrt, ht]) h4 h0 (h5.mono fun x y _ hr => hr.mono (fun b => killR_stable.2) (fun _ _ => rfl))⟩)
      (fun b hb => ⟨by unfold AM.killR; rw [hb]; simp [ht], rfl⟩)
    simpa using this
  refine h.keepQ (fun x v hx hq h => ?_) hq
  cases x with
  | so t xs => simp only [freeLeaf, decide_eq_true_eq] at hq; exact hso hq h
  | po t xs i =>
    simp only [freeLeaf, decide_eq_true_eq] at hq
    obtain ⟨b, off, c, h1, h2, rfl⟩ := h.po_inv
    exact (hso hq h1).po_of rfl h2
  | sl t es xs => simp only [freeLeaf, decide_eq_true_eq] at hq; exact hsl hq h
  | pe t es xs i o =>
    simp only [freeLeaf, decide_eq_true_eq] at hq
    obtain ⟨b, off, c, h1, h2, rfl⟩ := h.pe_inv
    exact .pe _ _ _ _ _ _ _ _ (hsl hq h1) h2
  | pb i o => obtain ⟨b, hb, rfl⟩ := h.pb_inv; exact .pb _ _ _ (by simp [AM.killR, hb])
  | ag cs => simp [AV.leafy] at hx
  | tup cs => simp [AV.leafy] at hx
  | any => exact .froz (.any _)
  | nil => rw [h.nil_inv]; exact .froz .nil
  | ub => obtain ⟨b, rfl⟩ := h.ub_inv; exact .froz (.ub b)
  | sc u => rw [h.sc_inv]; exact .froz (.sc _)
  | fn g caps => cases h with | froz h => exact .froz (h.mono (fun b => killR_stable.2) (fun _ _ => rfl))
  | mp t P k e D =>
    simp only [freeLeaf, decide_eq_true_eq] at hq
    exact h.mpMono (fun b hb => by simp [AM.killR, hb, hq]) (fun _ _ _ _ _ => rfl)
  | cl g caps => exact h.clMono (fun b => killR_stable.2) (fun _ _ => rfl) (fun b i hb => by simp [AM.killR, hb])
  | tl t es xs i =>
    simp only [freeLeaf, decide_eq_true_eq] at hq
    obtain ⟨b, off, off', c, h1, h2, h3, _, rfl⟩ := h.tl_inv
    exact .tl _ _ _ _ _ _ _ _ (hsl hq h1) h2 h3
  | fp cs o => cases h with | froz h => exact .froz (h.mono (fun b => killR_stable.2) (fun _ _ => rfl))

theorem killR_tag {d : Nat} {G : Nat → Status} {b t : Nat} (h : killR d G b = .tag t) : G b = .tag t ∧ root t / 64 ≠ d + 1 := by
  unfold killR at h
  split at h
  · rename_i t' ht
    split at h
    · cases h
    · rename_i hn; cases h; exact ⟨ht, hn⟩
  · rename_i hn; exact absurd h (hn t)

theorem killR_box {d : Nat} {G : Nat → Status} {b i : Nat} : killR d G b = .box i ↔ G b = .box i := by
  unfold killR
  cases h : G b <;> simp
  split <;> simp

theorem freeT_look {d : Nat} : ∀ {l : List (Nat × AV)}, freeT d l = true → ∀ s, (lookT l s).allLeaf (freeLeaf d) = true
  | [], _, s => by simp [lookT, AV.allLeaf, freeLeaf]
  | (k, v) :: r, h, s => by
    simp only [freeT, Bool.and_eq_true] at h
    simp only [lookT]
    split
    · exact h.1
    · exact freeT_look h.2 s

theorem freeB_mem {d : Nat} : ∀ {l : List (List AV)}, freeB d l = true → ∀ (i : Nat) cs, l[i]? = some cs → ∀ x ∈ cs, x.allLeaf (freeLeaf d) = true
  | [], _, i, cs, h, _, _ => by simp at h
  | y :: r, h, i, cs, hi, x, hx => by
    simp only [freeB, Bool.and_eq_true] at h
    cases i with
    | zero => simp at hi; subst hi; exact allLeafs_mem h.1 x hx
    | succ i => exact freeB_mem h.2 i cs (by simpa using hi) x hx

theorem Good.killR {d : Nat} {G : Nat → Status} {w : World} (h : Good G w) : Good (AM.killR d G) w :=
  ⟨fun b hb => h.lt b fun h' => hb (by simp [AM.killR, h']), fun b b' t h1 h2 => h.tags b b' t (killR_tag h1).1 (killR_tag h2).1, fun b b' i h1 h2 => h.boxes b b' i (killR_box.1 h1) (killR_box.1 h2)⟩

theorem SRel.fresh {G0 w0 σ G a w} (h : SRel G0 w0 σ G a w) {d : Nat} (hf : σ.free d = true) (h0 : True) : SRel G0 w0 σ (killR d G) a w ∧ Fresh d (killR d G) := by
  simp only [St.free, Bool.and_eq_true, decide_eq_true_eq] at hf
  obtain ⟨hdl, hf⟩ := hf
  refine ⟨{ h with good := h.good.killR, slots := fun s => (h.slots s).killR (freeT_look hf.1 s), boxes := ⟨h.boxes.low, fun i cs hi => ?_⟩, blt := fun b i hb => h.blt b i (killR_box.1 hb), stat := fun b hb hnt => ?_ }, hdl, fun b t hb => (killR_tag hb).2⟩
  · refine (h.boxes.cell i cs hi).turn rfl (fun j x y v h1 h2 hr => ?_) (fun b hb => ⟨killR_box.2 hb, rfl⟩) fun h0 b hb => h0 b (killR_box.1 hb)
    rw [h1] at h2; cases h2
    exact hr.killR (freeB_mem hf.2 i cs hi x (List.mem_of_getElem? h1))
  · have := h.stat b hb hnt
    unfold AM.killR
    split
    · rename_i t ht; rw [this] at ht; exact absurd ht (hnt t)
    · exact this

end Go.AM
