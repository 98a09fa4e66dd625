/-
  The abstract machine: a region that draws its order, among whose operations are new variables: for each a place is kept ahead.
  Walks: numbers of the dice; configurations of the dice.
  Walks: small functions of models and invariants.
  Walks: atoms.
  Walks: configurations of counter models.
  Walks: names.
  Walks: searches in lists.
  Walks: keywords; lists of names.
  Walks: a model's names.
  Walks: a model's numbers and ranks.
  Walks: a rule is right.
  Walks: a counter model's rule is right.
  Walks: types; flat types are right.
  Walks: values of flat types; a counter model is valid.
  Walks: a valid counter model is found valid.
  Walks: valid atoms, whether they hold, whether they are closed.
-/
import Derived.Test.YtlldkikmjeeamaaGreatg6
import Derived.Test.YtlldkikmjeeamaaGreatg7
/-! ## Am5 -/
namespace Go.AM
open Go.RowKit

/-! ### places that are kept -/
/-- no pointer to variable N -/
def noPb (N : Nat) : AV → Bool
  | .pb i _ => decide (i ≠ N)
  | .cl _ caps => caps.all fun c => match c with
    | .pb i _ => decide (i ≠ N)
    | _ => true
  | _ => true
def noPbT (N : Nat) : List (Nat × AV) → Bool
  | [] => true
  | (_, v) :: r => v.allLeaf (noPb N) && noPbT N r
def noPbB (N : Nat) : List (List AV) → Bool
  | [] => true
  | cs :: r => allLeafs (noPb N) cs && noPbB N r
theorem noPbT_look {N : Nat} : ∀ {l : List (Nat × AV)}, noPbT N l = true → ∀ s, (lookT l s).allLeaf (noPb N) = true
  | [], _, s => by simp [lookT, AV.allLeaf, noPb]
  | (k, v) :: r, h, s => by
    simp only [noPbT, Bool.and_eq_true] at h
    simp only [lookT]
    split
    · exact h.1
    · exact noPbT_look h.2 s
theorem noPbB_mem {N : Nat} : ∀ {l : List (List AV)}, noPbB N l = true → ∀ (i : Nat) cs, l[i]? = some cs → ∀ x ∈ cs, x.allLeaf (noPb N) = true
  | [], _, i, cs, h, _, _ => by simp at h
  | y :: r, h, i, cs, hi, x, hx => by
    simp only [noPbB, Bool.and_eq_true] at h
    cases i with
    | zero => simp at hi; subst hi; exact allLeafs_mem h.1 x hx
    | succ i => exact noPbB_mem h.2 i cs (by simpa using hi) x hx
theorem noPbT_put {N : Nat} {x : AV} (hx : x.allLeaf (noPb N) = true) : ∀ {l : List (Nat × AV)} {s : Nat}, noPbT N l = true → noPbT N (putT l s x) = true
  | [], s, _ => by simp [putT, noPbT, hx]
  | (s', v) :: r, s, h => by
    simp only [noPbT, Bool.and_eq_true] at h
    unfold putT
    split
    · simp [noPbT, hx, h.2]
    · simp [noPbT, h.1, noPbT_put hx h.2]
theorem noPbB_set {N : Nat} : ∀ (bx : List (List AV)) (k : Nat) (c' : List AV), noPbB N bx = true → allLeafs (noPb N) c' = true → noPbB N (bx.set k c') = true
  | [], _, _, _, _ => rfl
  | b :: bx, 0, c', h1, h2 => by simp only [List.set_cons_zero, noPbB, Bool.and_eq_true] at h1 ⊢; exact ⟨h2, h1.2⟩
  | b :: bx, k + 1, c', h1, h2 => by simp only [List.set_cons_succ, noPbB, Bool.and_eq_true] at h1 ⊢; exact ⟨h1.1, noPbB_set bx k c' h1.2 h2⟩
def unboxG (N : Nat) (G : Nat → Status) (b : Nat) : Status := if G b = .box N then .junk else G b
theorem unboxG_stable {N : Nat} {G : Nat → Status} {b : Nat} : Stable (unboxG N G) b ↔ Stable G b := by
  unfold Stable unboxG
  split
  · rename_i h; rw [h]; simp
  · exact Iff.rfl
theorem unboxG_tag {N t : Nat} {G : Nat → Status} {b : Nat} : unboxG N G b = .tag t ↔ G b = .tag t := by
  unfold unboxG
  split
  · rename_i h; rw [h]; simp
  · exact Iff.rfl
theorem unboxG_box {N i : Nat} {G : Nat → Status} {b : Nat} : unboxG N G b = .box i ↔ G b = .box i ∧ i ≠ N := by
  unfold unboxG
  split
  · rename_i h; rw [h]; simp; exact fun e => e.symm
  · rename_i h
    exact ⟨fun h' => ⟨h', fun e => h (by rw [h', e])⟩, fun h' => h'.1⟩
theorem VRel.unbox {N : Nat} {G : Nat → Status} {w : World} {x : AV} {v : Value} (h : VRel G w x v) (hq : x.allLeaf (noPb N) = true) : VRel (unboxG N G) w x v := by
  have hF : ∀ {x v}, FRel (Stable G) w x v → FRel (Stable (unboxG N G)) w x v := fun hr => hr.mono (fun b => unboxG_stable.2) (fun _ _ => rfl)
  have hsl : ∀ {t es xs v}, VRel G w (.sl t es xs) v → VRel (unboxG N G) w (.sl t es xs) v := by
    intro t es xs v h
    cases h with
    | froz h => exact .froz (hF h)
    | own _ _ _ _ e vals h1 h2 h3 h4 h0 h5 => exact .own t es xs v e vals h1 h2 (fun b hb => unboxG_tag.2 (h3 b hb)) h4 h0 (h5.mono fun x y _ hr => hF hr)
  have hso : ∀ {t xs v}, VRel G w (.so t xs) v → VRel (unboxG N G) w (.so t xs) v := by
    intro t xs v h
    have := h.so_map (f := id) (G' := unboxG N G) (w' := w) h.so_two (fun x u hx hr => ⟨hx, by
      cases hr with
      | froz hr => exact .froz (hF hr)
      | own t' es ys _ e vals h1 hrt h2 h3 h4 h0 h5 => exact .own t' es ys _ e vals h1 hrt h2 (fun b hb => unboxG_tag.2 (h3 b hb)) h4 h0 (h5.mono fun x y _ hr => hF hr)⟩)
      (fun b hb => ⟨unboxG_tag.2 hb, rfl⟩)
    simpa using this
  refine h.keepQ (fun x v hx hq h => ?_) hq
  cases x with
  | so t xs => exact hso h
  | po t xs i =>
    obtain ⟨b, off, c, h1, h2, rfl⟩ := h.po_inv
    exact (hso h1).po_of rfl h2
  | sl t es xs => exact hsl h
  | pe t es xs i o =>
    obtain ⟨b, off, c, h1, h2, rfl⟩ := h.pe_inv
    exact .pe _ _ _ _ _ _ _ _ (hsl h1) h2
  | pb i o =>
    obtain ⟨b, hb, rfl⟩ := h.pb_inv
    simp only [noPb, decide_eq_true_eq] at hq
    exact .pb _ _ _ (unboxG_box.2 ⟨hb, hq⟩)
  | ag cs => simp [AV.leafy] at hx
  | tup cs => simp [AV.leafy] at hx
  | any => exact .froz (.any _)
  | nil => rw [h.nil_inv]; exact .froz .nil
  | ub => obtain ⟨b, rfl⟩ := h.ub_inv; exact .froz (.ub b)
  | sc u => rw [h.sc_inv]; exact .froz (.sc _)
  | fn g caps => cases h with | froz h => exact .froz (hF h)
  | mp t P k e D => exact h.mpMono (fun b hb => unboxG_tag.2 hb) (fun _ _ _ _ _ => rfl)
  | cl g caps =>
    obtain ⟨vs, rfl, hp⟩ := h.cl_inv
    simp only [noPb, List.all_eq_true] at hq
    refine .cl _ _ _ (hp.mono fun x u hx hr => ?_)
    rcases hr with ⟨i, o, b, rfl, hb, rfl⟩ | hr
    · have := hq _ hx
      simp only [decide_eq_true_eq] at this
      exact .inl ⟨i, o, b, rfl, unboxG_box.2 ⟨hb, this⟩, rfl⟩
    · exact .inr (hF hr)
  | tl t es xs i =>
    obtain ⟨b, off, off', c, h1, h2, h3, _, rfl⟩ := h.tl_inv
    exact .tl _ _ _ _ _ _ _ _ (hsl h1) h2 h3
  | fp cs o => cases h with | froz h => exact .froz (hF h)
/-- a place of which the frame knows nothing: there is no variable there -/
theorem SRel.unbox {G0 w0 σ G a w} (h : SRel G0 w0 σ G a w) {N k : Nat} (hg : G0.gh N = none) (h0 : ∀ b, b < w0.heap.size → G0 b ≠ .box N) (ht : noPbT N σ.tmps = true) (hb : noPbB N σ.boxes = true) (hc : σ.boxes[N]? = some (List.replicate k .any)) :
    SRel G0 w0 σ (unboxG N G) a w ∧ ∀ b, unboxG N G b ≠ .box N := by
  have hn : ∀ b, unboxG N G b ≠ .box N := fun b hb => (unboxG_box.1 hb).2 rfl
  refine ⟨{ h with good := ?_, slots := fun s => (h.slots s).unbox (noPbT_look ht s), boxes := ⟨h.boxes.low, fun i cs hi => ?_⟩, blt := fun b i hb => h.blt b i (unboxG_box.1 hb).1, stat := fun b hbl hnt => ?_ }, hn⟩
  · refine ⟨fun b hb => h.good.lt b fun h' => hb (by unfold unboxG; rw [h']; simp), fun b b' t h1 h2 => h.good.tags b b' t (unboxG_tag.1 h1) (unboxG_tag.1 h2), fun b b' i h1 h2 => h.good.boxes b b' i (unboxG_box.1 h1).1 (unboxG_box.1 h2).1⟩
  · by_cases hiN : i = N
    · subst hiN
      rw [hc] at hi; cases hi
      exact .inr (.inr ⟨hg, hn, fun x hx v => by rw [(List.mem_replicate.1 hx).2]; exact .froz (.any _)⟩)
    · refine (h.boxes.cell i cs hi).turn rfl (fun j x y v h1 h2 hr => ?_) (fun b hb => ⟨unboxG_box.2 ⟨hb, hiN⟩, rfl⟩) fun h0 b hb => h0 b (unboxG_box.1 hb).1
      rw [h1] at h2; cases h2
      exact hr.unbox (noPbB_mem hb i cs hi x (List.mem_of_getElem? h1))
  · have h1 := h.stat b hbl hnt
    unfold unboxG
    rw [if_neg (fun h' => h0 b hbl (by rw [← h1, h'])), h1]
/-- .. and now there is one -/
theorem SRel.realize {G0 w0 σ G a w} (h : SRel G0 w0 σ G a w) {N d : Nat} {z : Value} {T : TypeId} (hg : G0.gh N = none) (hn : ∀ b, G b ≠ .box N) (hc : σ.boxes[N]? = some (List.replicate z.cells.size .any)) (hz : One z.cells.toList) (hd : d < σ.n) :
    SRel G0 w0 (σ.put (some d) (.pb N 0)) (updG G w.heap.size (.box N)) (a.put (some d) (.pointer (some ⟨w.heap.size, 0, none⟩))) (w.alloc (.cells z.cells T)) := by
  have hE : Ext G w (updG G w.heap.size (.box N)) (w.alloc (.cells z.cells T)) := .alloc _ _
  have hG : Good (updG G w.heap.size (.box N)) (w.alloc (.cells z.cells T)) := h.good.upd _ _ (Nat.le_refl _) (by simp) (by simp) (fun t ht => by cases ht) (fun i hi b hb => by cases hi; exact hn b hb)
  have hbx : ∀ b i, updG G w.heap.size (.box N) b = .box i → (b = w.heap.size ∧ i = N) ∨ G b = .box i := fun b i hb => by
    unfold updG at hb
    split at hb
    · rename_i e; cases hb; exact .inl ⟨e, rfl⟩
    · exact .inr hb
  have hNl : N < σ.boxes.length := (List.getElem?_eq_some_iff.1 hc).1
  refine { good := hG, slots := slots_put (fun s => (h.slots s).ext h.good hE) h.size (by simpa [dstOk] using hd) (.pb _ _ _ (by simp [updG])), boxes := ⟨fun i vs hv => by rw [put_boxes]; exact h.boxes.low i vs hv, fun i cs hi => ?_⟩, blt := fun b i hb => ?_, size := by rw [put_size, put_n]; exact h.size, defs := by rw [put_defers]; exact h.defs, os := hE.os.trans h.os, tape := hE.tape.trans h.tape, output := hE.output.trans h.output, hsize := Nat.le_trans h.hsize hE.size, stat := fun b hb ht => (hE.stat b (Nat.lt_of_lt_of_le hb h.hsize)).trans (h.stat b hb ht), keep := fun b hb hn' ht => (hE.keep b (Nat.lt_of_lt_of_le hb h.hsize)).trans (h.keep b hb hn' ht) }
  · rw [put_boxes] at hi
    by_cases hiN : i = N
    · subst hiN
      rw [hc] at hi; cases hi
      refine .inl ⟨hg, w.heap.size, z.cells, T, by simp [updG], heap_alloc_new w _, hz, by simp, fun j x u hx _ => ?_⟩
      rw [List.getElem?_replicate] at hx
      split at hx
      · cases hx; exact .froz (.any _)
      · cases hx
    · refine (h.boxes.cell i cs hi).same (fun x v hr => hr.ext h.good hE) (fun b hb => ?_) fun h0 b hb => ?_
      · have hbs := h.good.lt b (by rw [hb]; simp)
        exact ⟨by rw [hE.stat b hbs]; exact hb, hE.keep b hbs⟩
      · rcases hbx b i hb with ⟨_, e⟩ | h1
        · exact hiN e
        · exact h0 b h1
  · rw [put_boxes]
    rcases hbx b i hb with ⟨_, rfl⟩ | h1
    · exact hNl
    · exact h.blt b i h1

def lookA : List (Nat × Nat) → Nat → Option Nat
  | [], _ => none
  | (i, N) :: r, k => if i = k then some N else lookA r k
/-- a new variable, at the place that was kept for it -/
def AllocP (P : Program) (bx : List (List AV)) (o : Oper) (N : Nat) (y : AV) : Prop :=
  o.guard = none ∧ y = .pb N 0 ∧ ∃ T q z, o.op = .alloc T ∧ tinfo P T = some q ∧ q.2.2 = some z ∧ zeroOk q.1 z = true ∧ bx[N]? = some (List.replicate q.1 .any)

section
variable {P : Program} {ops : Array Oper} {m : Nat} {vs : List (Nat × AV)} {E : List Nat} {A : List (Nat × Nat)} {C : Nat → List AV} {i0 : Nat} {σ : St} {K : St → Prop} {G0 : Orig} {w0 : World} {Q : Exit → Act → World → Prop}

theorem head_runP {LF : List Nat} {tr : Tr} {sg : Option (Nat × Tr)} (hp : PlanL ops m E LF tr sg) (hE : PlanE ops m E) (h0 : True) (hN : ∀ e a w, e ≠ .normal → ¬ Q e a w) (hQ : ∀ σ' G' a' w', K σ' → SRel G0 w0 σ' G' a' w' → Q .normal a' w') (hvl : vs.length = m) (hap : Apart vs) (hC : ∀ j, (C j).length = (C 0).length)
    (hK : treeA P ops tr (puts { σ with boxes := σ.boxes.set i0 (C E.length) } vs) K) (hK2 : sgA P ops sg (puts { σ with boxes := σ.boxes.set i0 (C E.length) } vs) K)
    (hst : ∀ i o, i < m → ops[i]? = some o → ∃ d y, vs[i]? = some (d, y) ∧ o.dst = some d ∧ d < σ.n ∧
      if i ∈ E then EffC P σ i0 o d (puts σ (vs.take i)).ev (C (E.filter fun e => decide (e < i)).length) y (C ((E.filter fun e => decide (e < i)).length + 1)) else if i ∈ LF then FrontC P o (puts σ (vs.take i)).ev y else match lookA A i with | some N => AllocP P σ.boxes o N y | none => StepG P ops o d (puts σ (vs.take i)) (σ.boxes.set i0 (blankC E (C 0))) y)
    (hA : ∀ i N, i < m → lookA A i = some N → N ≠ i0 ∧ G0.gh N = none ∧ (∀ b, b < w0.heap.size → G0 b ≠ .box N) ∧ (∀ j d y, j ≠ i → vs[j]? = some (d, y) → y.allLeaf (noPb N) = true) ∧ ∀ j, allLeafs (noPb N) (C j) = true)
    (hfr : ∀ i o d, ops[i]? = some o → i < m → o.dst = some d → creates o.op = true → (∀ j d' y, j ≠ i → vs[j]? = some (d', y) → y.allLeaf (freeLeaf d) = true ∨ reach ops j j i = true) ∧ ∀ j, allLeafs (freeLeaf d) (C j) = true) :
    ∀ (fuel : Nat) (listed : Array Bool) (U : List Nat) (τ : St) (G : Nat → Status) (a : Act) (w : World), Left ops listed U → U.length = fuel → (∀ i, m ≤ i → listed.getD i false = false) →
      Closed ops (fun k => listed.getD k false) → AtE vs E C i0 (fun i => listed.getD i false) σ τ → SRel G0 w0 τ G a w →
      (∀ i o d, ops[i]? = some o → i < m → o.dst = some d → creates o.op = true → listed.getD i false = false → τ.free d = true) →
      (∀ i N, i < m → lookA A i = some N → i ∉ E → i ∉ LF → listed.getD i false = false → noPbT N τ.tmps = true ∧ noPbB N τ.boxes = true) → wpAny P .any ops Q fuel listed a w := by
  have posAll : ∀ {L : Nat → Bool}, (∀ i, i < m → L i = true) → posE E L = E.length := fun {L} h => by
    unfold posE
    rw [List.filter_eq_self.2 fun e he => h e (hE.lt e he)]
  have done : ∀ {τ G a w} {L : Nat → Bool}, AtE vs E C i0 L σ τ → (∀ i, i < m → L i = true) → SRel G0 w0 τ G a w → SRel G0 w0 (puts { σ with boxes := σ.boxes.set i0 (C E.length) } vs) G a w := by
    intro τ G a w L hat hall h
    have hpa := puts_at m vs { σ with boxes := σ.boxes.set i0 (C E.length) } hap
    rw [List.take_of_length_le (by omega)] at hpa
    refine h.slotsEq (by rw [hpa.n, hat.n]) (by rw [hpa.boxes, hat.boxes, posAll hall]) fun s => ?_
    by_cases hs : ∀ (i d : Nat) (y : AV), vs[i]? = some (d, y) → d ≠ s
    · rw [hpa.rest s hs, hat.rest s hs]; rfl
    · have : ∃ (i : Nat) (y : AV), vs[i]? = some (s, y) := by
        apply Classical.byContradiction
        intro hcon
        exact hs fun i d y hi hds => hcon ⟨i, y, by rw [← hds]; exact hi⟩
      obtain ⟨i, y, hi⟩ := this
      have hil : i < m := by rw [← hvl]; exact (List.getElem?_eq_some_iff.1 hi).1
      rw [hpa.dst i s y hi, hat.dst i s y hi]
      simp [hil, hall i hil]
  have done2 : ∀ {τ G a w} {L : Nat → Bool} {x dx : Nat} {yx : AV}, AtE vs E C i0 L σ τ → x ∉ E → vs[x]? = some (dx, yx) → (∀ i, i < m → i ≠ x → L i = true) → SRel G0 w0 τ G a w → SRel G0 w0 ((puts { σ with boxes := σ.boxes.set i0 (C E.length) } vs).put (some dx) .any) G a w := by
    intro τ G a w L x dx yx hat hxE hx hall h
    have hpa := puts_at m vs { σ with boxes := σ.boxes.set i0 (C E.length) } hap
    rw [List.take_of_length_le (by omega)] at hpa
    have hpos : posE E L = E.length := by
      unfold posE
      rw [List.filter_eq_self.2 fun e he => hall e (hE.lt e he) fun h' => hxE (h' ▸ he)]
    have h2 := h.reput (d := dx) (x := .any) (.froz (.any _))
    refine h2.slotsEq (by rw [put_n, put_n, hpa.n, hat.n]) (by rw [put_boxes, put_boxes, hpa.boxes, hat.boxes, hpos]) fun s => ?_
    rw [get_put, get_put]
    by_cases hds : dx = s
    · rw [if_pos hds, if_pos hds]
    rw [if_neg hds, if_neg hds]
    by_cases hs : ∀ (i d : Nat) (y : AV), vs[i]? = some (d, y) → d ≠ s
    · rw [hpa.rest s hs, hat.rest s hs]; rfl
    · have : ∃ (i : Nat) (y : AV), vs[i]? = some (s, y) := by
        apply Classical.byContradiction
        intro hcon
        exact hs fun i d y hi hds => hcon ⟨i, y, by rw [← hds]; exact hi⟩
      obtain ⟨i, y, hi⟩ := this
      have hil : i < m := by rw [← hvl]; exact (List.getElem?_eq_some_iff.1 hi).1
      have hix : i ≠ x := fun h' => by subst h'; rw [hx] at hi; cases hi; exact hds rfl
      rw [hpa.dst i s y hi, hat.dst i s y hi]
      simp [hil, hall i hil hix]
  intro fuel
  induction fuel with
  | zero =>
    intro listed U τ G a w hl hU hm hc hat h _ _
    have hUn : U = [] := List.eq_nil_of_length_eq_zero hU
    subst hUn
    have hall : ∀ i, i < ops.size → listed.getD i false = true := fun i hi => by
      cases hb : listed.getD i false
      · have := (hl.mem i).2 ⟨hi, hb⟩; simp at this
      · rfl
    have hms : m = ops.size := by
      apply Classical.byContradiction
      intro hne
      have := hp.le
      have h1 := hall m (by omega)
      rw [hm m (Nat.le_refl m)] at h1; cases h1
    exact (tree_run (P := P) h0 hp.lt hN hQ tr true (List.range m) listed [] _ G a w hp.tr hl hc (fun i hi => by rw [hall i hi]; simp; omega) hK (done hat (fun i hi => hall i (by have := hp.le; omega)) h)).1 rfl
  | succ fuel ih =>
    intro listed U τ G a w hl hU hm hc hat h hfree hph
    have hUn : U ≠ [] := by intro h; rw [h] at hU; simp at hU
    by_cases hdone : ∀ i, i < m → listed.getD i false = true
    · have := (tree_run (P := P) h0 hp.lt hN hQ tr true (List.range m) listed U _ G a w hp.tr hl hc (fun i hi => by
        simp only [List.contains_iff_mem, List.mem_range]
        refine ⟨fun hb => ?_, fun hlt => hdone i hlt⟩
        apply Classical.byContradiction
        intro hge
        rw [hm i (by omega)] at hb; cases hb) hK (done hat hdone h)).1 rfl
      rw [hU] at this; exact this
    by_cases hsg : ∃ x t, sg = some (x, t) ∧ ∀ i, i < m → i ≠ x → listed.getD i false = true
    · obtain ⟨x, t, rfl, hall⟩ := hsg
      obtain ⟨hxm, hxE, hxL, _, ht⟩ := hp.sg x t rfl
      obtain ⟨o, ho⟩ : ∃ p, ops[x]? = some p := ⟨ops[x]'(by have := hp.le; omega), by have := hp.le; simp [show x < ops.size by omega]⟩
      obtain ⟨dx, yx, hv, hd, _, _⟩ := hst x o hxm ho
      have hxf : listed.getD x false = false := by
        cases hb : listed.getD x false
        · rfl
        · exact absurd (fun i hi => by by_cases hix : i = x; · rw [hix]; exact hb
                                       · exact hall i hi hix) hdone
      simp only [sgA, ho] at hK2
      obtain ⟨d', hd', hK2⟩ := hK2
      rw [hd] at hd'; cases hd'
      have := (tree_run (P := P) h0 hp.lt hN hQ t true _ listed U _ G a w ht hl hc (fun i hi => by
        simp only [List.contains_iff_mem, List.mem_filter, List.mem_range, Bool.not_eq_true', beq_eq_false_iff_ne, ne_eq]
        refine ⟨fun hb => ⟨?_, fun hix => by rw [hix, hxf] at hb; cases hb⟩, fun ⟨h1, h2⟩ => hall i h1 h2⟩
        apply Classical.byContradiction
        intro hge
        rw [hm i (by omega)] at hb; cases hb) hK2 (done2 hat hxE hv hall h)).1 rfl
      rw [hU] at this; exact this
    · suffices key : ∀ i, i ∈ Region.ready .any ops listed → i < m → (i ∈ LF → wpAny P .any ops Q (fuel + 1) listed a w) ∧ (i ∉ LF → Go.wpOp P ops Q i (wpAny P .any ops Q fuel (listed.setIfInBounds i true)) a w) by
        by_cases hLF : ∃ j, j ∈ LF ∧ j ∈ Region.ready .any ops listed
        · obtain ⟨j, h1, h2⟩ := hLF
          exact (key j h2 (hp.fr j h1).1).1 h1
        · refine ⟨fun hr => absurd hr (some_ready hl hp.lt hUn), fun i hi => (key i hi ?_).2 fun hiL => hLF ⟨i, hiL, hi⟩⟩
          obtain ⟨o, ho, h1, h2⟩ := (ready_iff hl.size).1 hi
          apply Classical.byContradiction
          intro hge
          have hall : ∀ j, j < m → sgIs sg j = false → listed.getD j false = true := fun j => by
            refine Nat.strongRecOn (motive := fun j => j < m → sgIs sg j = false → listed.getD j false = true) j ?_
            intro j ihj hjm hjs
            by_cases hjL : j ∈ LF
            · obtain ⟨p, hpj⟩ : ∃ p, ops[j]? = some p := ⟨ops[j]'(by have := hp.le; omega), by have := hp.le; simp [show j < ops.size by omega]⟩
              cases hb : listed.getD j false
              · exact absurd ⟨j, hjL, (ready_iff hl.size).2 ⟨p, hpj, hb, fun k hk => by
                  have := hp.lt j p hpj k hk
                  refine ihj k this (by omega) ?_
                  cases hsg' : sg with
                  | none => rfl
                  | some q =>
                    obtain ⟨x, t⟩ := q
                    have := (hp.sg x t hsg').2.2.2.1 j hjL p hpj
                    simp only [sgIs, beq_eq_false_iff_ne, ne_eq]
                    exact fun hkx => this (hkx ▸ hk)⟩⟩ hLF
              · rfl
            · exact reach_listed hc ops.size i j o ho h2 (hp.tail i o ho (by omega) j hjm hjL hjs)
          cases hsg' : sg with
          | none => exact hdone fun j hj => hall j hj (by rw [hsg']; rfl)
          | some q =>
            obtain ⟨x, t⟩ := q
            exact hsg ⟨x, t, hsg', fun j hj hjx => hall j hj (by rw [hsg']; simpa [sgIs] using hjx)⟩
      intro i hi him
      obtain ⟨o, ho, h1, h2⟩ := (ready_iff hl.size).1 hi
      have hlt := (Array.getElem?_eq_some_iff.1 ho).1
      obtain ⟨d, y, hv, hd, hdn, hstep⟩ := hst i o him ho
      obtain ⟨d', hd', hself, hpair⟩ := hp.head i o ho him
      rw [hd] at hd'; cases hd'
      have hmem : i ∈ U := (hl.mem i).2 ⟨hlt, h1⟩
      obtain ⟨l1, l2⟩ := hl.step hmem
      have hsz : i < listed.size := by rw [hl.size]; exact hlt
      have hsame : ∀ s ∈ slotsG ops o, (puts σ (vs.take i)).get s = τ.get s := by
        intro s hsm
        have hpa := puts_at i vs σ hap
        by_cases hs : ∀ (i d : Nat) (y : AV), vs[i]? = some (d, y) → d ≠ s
        · rw [hpa.rest s hs, hat.rest s hs]
        · have : ∃ (j : Nat) (y : AV), vs[j]? = some (s, y) := by
            apply Classical.byContradiction
            intro hcon
            exact hs fun i d y hi hds => hcon ⟨i, y, by rw [← hds]; exact hi⟩
          obtain ⟨j, y', hj⟩ := this
          have hjl : j < m := by rw [← hvl]; exact (List.getElem?_eq_some_iff.1 hj).1
          obtain ⟨p, hpj⟩ : ∃ p, ops[j]? = some p := ⟨ops[j]'(by have := hp.le; omega), by have := hp.le; simp [show j < ops.size by omega]⟩
          obtain ⟨d'', y'', hv'', hds'', _⟩ := hst j p hjl hpj
          rw [hj] at hv''; cases hv''
          have hji : j ≠ i := fun hji => by subst hji; rw [hv] at hj; cases hj; exact hself hsm
          have hre := (hpair j p s hjl hji hpj hds'').2 hsm
          rw [hpa.dst j s y' hj, hat.dst j s y' hj]
          by_cases hjlt : j < i
          · rw [if_pos hjlt] at hre
            have := reach_listed hc ops.size i j o ho h2 hre
            simp [hjlt, this]
          · rw [if_neg hjlt] at hre
            have hjf : listed.getD j false = false := by
              cases hb : listed.getD j false
              · rfl
              · have := reach_listed hc ops.size j i p hpj (fun k hk => hc j p hpj hb k hk) hre
                rw [h1] at this; cases this
            simp [hjlt, hjf]
      have hevs : ∀ x ∈ o.op.operands, (puts σ (vs.take i)).ev x = τ.ev x := by
        intro x hx
        cases x with
        | tmp s =>
          simp only [St.ev]
          refine hsame s (List.mem_append.2 (.inr ?_))
          unfold slotsOf
          exact List.mem_filterMap.2 ⟨.tmp s, by simpa using hx, rfl⟩
        | const v => rfl
        | func f => rfl
        | global g => rfl
      -- the frame behind the step
      have hLi : (listed.setIfInBounds i true).getD i false = true := by rw [set_getD hsz]; simp
      have hLj : ∀ j, j ≠ i → (listed.setIfInBounds i true).getD j false = listed.getD j false := fun j hj => by rw [set_getD hsz, if_neg (Ne.symm hj)]
      have hpos := posE_step (L := fun k => listed.getD k false) (L' := fun k => (listed.setIfInBounds i true).getD k false) hE.nodup hLj h1 hLi
      have hgo : ∀ {τ' G' a' w'}, τ'.n = τ.n → τ'.tmps = putT τ.tmps d y → τ'.boxes = σ.boxes.set i0 (C (posE E fun k => (listed.setIfInBounds i true).getD k false)) → SRel G0 w0 τ' G' a' w' → wpAny P .any ops Q fuel (listed.setIfInBounds i true) a' w' := by
        intro τ' G' a' w' e1 e2 e3 hs'
        have hget : ∀ s, τ'.get s = if d = s then y else τ.get s := fun s => by unfold St.get; rw [e2, lookT_put]
        refine ih _ _ τ' G' _ _ l1 (by omega) (fun j hj => ?_) (hc.step hsz ho h2) ⟨by rw [e1, hat.n], e3, fun j d' y' hj => ?_, fun s hs => ?_⟩ hs' (fun j oj dj hoj hjm hdj hcr hjf => ?_) (fun j N hjm hjA hjE hjL hjf => ?_)
        · rw [set_getD hsz, if_neg (by omega)]; exact hm j hj
        · rw [hget]
          by_cases hij : j = i
          · subst hij; rw [hv] at hj; cases hj; simp [hLi]
          · rw [if_neg (hap i j d y d' y' hv hj (Ne.symm hij)), hat.dst j d' y' hj, hLj j hij]
        · rw [hget, if_neg (hs i d y hv), hat.rest s hs]
        · by_cases hij : j = i
          · subst hij; rw [hLi] at hjf; cases hjf
          · rw [hLj j hij] at hjf
            have hf := hfree j oj dj hoj hjm hdj hcr hjf
            obtain ⟨f1, f2⟩ := hfr j oj dj hoj hjm hdj hcr
            have f1 : y.allLeaf (freeLeaf dj) = true := (f1 i d y (Ne.symm hij) hv).elim id fun f1 => by
              have := reach_listed hc i i j o ho h2 f1
              rw [hjf] at this; cases this
            simp only [St.free, Bool.and_eq_true, decide_eq_true_eq] at hf ⊢
            refine ⟨hf.1, by rw [e2]; exact freeT_put f1 hf.2.1, ?_⟩
            rw [e3]
            have hfb := hf.2.2
            rw [hat.boxes] at hfb
            have hset : ∀ (bx : List (List AV)) (k : Nat) (c c' : List AV), freeB dj (bx.set k c) = true → allLeafs (freeLeaf dj) c' = true → freeB dj (bx.set k c') = true := by
              intro bx
              induction bx with
              | nil => intro k c c' _ _; rfl
              | cons b bx ihb =>
                intro k c c' h1 h2
                cases k with
                | zero => simp only [List.set_cons_zero, freeB, Bool.and_eq_true] at h1 ⊢; exact ⟨h2, h1.2⟩
                | succ k => simp only [List.set_cons_succ, freeB, Bool.and_eq_true] at h1 ⊢; exact ⟨h1.1, ihb k c c' h1.2 h2⟩
            exact hset _ _ _ _ hfb (f2 _)
        · by_cases hij : j = i
          · subst hij; rw [hLi] at hjf; cases hjf
          · rw [hLj j hij] at hjf
            obtain ⟨q1, q2⟩ := hph j N hjm hjA hjE hjL hjf
            obtain ⟨_, _, _, f1, f2⟩ := hA j N hjm hjA
            refine ⟨by rw [e2]; exact noPbT_put (f1 i d y (Ne.symm hij) hv) q1, ?_⟩
            rw [e3]
            rw [hat.boxes] at q2
            have := noPbB_set _ i0 _ q2 (f2 (posE E fun k => (listed.setIfInBounds i true).getD k false))
            rw [List.set_set] at this
            exact this
      refine ⟨fun hiL => ?_, fun hnL => ?_⟩
      · obtain ⟨_, hiE, hfr'⟩ := hp.fr i hiL
        obtain ⟨d', hfront⟩ := hfr' o ho
        obtain rfl : d = d' := by have := hfront.dst; rw [hd] at this; simpa using this
        rw [if_neg hiE, if_pos hiL] at hstep
        rw [if_neg hiE, Nat.add_zero] at hpos
        obtain ⟨v, hv', hex⟩ := hstep G a w h.good (fun x hx => by rw [hevs x hx]; exact h.ev x)
        have hs' := h.add (.refl G w) h.good (fun _ _ h => h) (d := some d) (x := y) (v := v) (by simp [dstOk, hat.n, hdn]) hv'
        exact front_run hN hfront fuel listed a w v hl.size hc hi hex (hgo (τ' := τ.put (some d) y) rfl rfl (by rw [put_boxes, hat.boxes, hpos]) hs')
      by_cases hiE : i ∈ E
      case neg =>
        rw [if_neg hiE, if_neg hnL] at hstep
        rw [if_neg hiE, Nat.add_zero] at hpos
        cases hlA : lookA A i with
        | some N =>
          rw [hlA] at hstep
          obtain ⟨hgd, rfl, T, q, z, hop, hq, hz, hzo, hbN⟩ := hstep
          obtain ⟨a1, a2, a3, _, _⟩ := hA i N him hlA
          obtain ⟨p1, p2⟩ := hph i N him hlA hiE hnL h1
          have hbN' : τ.boxes[N]? = some (List.replicate q.1 .any) := by rw [hat.boxes, List.getElem?_set_ne (Ne.symm a1)]; exact hbN
          obtain ⟨hu, hun⟩ := h.unbox a2 a3 p1 p2 hbN'
          simp only [zeroOk, Bool.and_eq_true, decide_eq_true_eq] at hzo
          obtain ⟨_, hone⟩ := ofConst_cells (S := fun _ => False) (w := w) z hzo.2
          have hr := hu.realize (d := d) (z := z) (T := T) a2 hun (by rw [hzo.1]; exact hbN') hone (by rw [hat.n]; exact hdn)
          obtain ⟨sz, by_, zz⟩ := q
          simp only at hz
          subst hz
          obtain ⟨ti, hti, _, _, hzz⟩ := tinfo_some hq
          have hrun : (execOp a.eval o).run P w = .ok (.value (.pointer (some ⟨w.heap.size, 0, none⟩))) (w.alloc (.cells z.cells T)) := by
            simp [execOp, hop, Instr.alloc, newVar, newRow, zeroValue, typeInfo, hti, hzz]
          simp only [Go.wpOp, ho]
          rw [if_pos (by simp [Region.wanted, hgd])]
          refine .inl ?_
          simp only [Oper.wp, hrun, Oper.upon, hd]
          exact hgo (τ' := τ.put (some d) (.pb N 0)) rfl rfl (by rw [put_boxes, hat.boxes, hpos]) hr
        | none =>
        rw [hlA] at hstep
        have hops : ∀ x ∈ o.op.operands, ∀ {G}, SRel G0 w0 τ G a w → VRel G w ((puts σ (vs.take i)).ev x) (a.eval x) := fun x hx G h => by rw [hevs x hx]; exact h.ev x
        have hgo2 : ∀ {G' a' w'}, SRel G0 w0 (τ.put (some d) y) G' a' w' → wpAny P .any ops Q fuel (listed.setIfInBounds i true) a' w' := fun hs' =>
          hgo (τ' := τ.put (some d) y) rfl rfl (by rw [put_boxes, hat.boxes, hpos]) hs'
        have hrun : StepOk P o d (puts σ (vs.take i)).ev (σ.boxes.set i0 (blankC E (C 0))) y → o.wp P a w (wpAny P .any ops Q fuel (listed.setIfInBounds i true)) Q := by
          intro hstep
          have key : ∀ {G}, SRel G0 w0 τ G a w → (creates o.op = true → Fresh d G) → o.wp P a w (wpAny P .any ops Q fuel (listed.setIfInBounds i true)) Q := fun {G} h hfr' =>
            hstep _ G a w h.good ((show BRel _ G w (σ.boxes.set i0 (C (posE E fun k => listed.getD k false))) from by rw [← hat.boxes]; exact h.boxes).blank (hC _) fun hE0 => by rw [hE0]; rfl) hfr' (fun x hx => hops x hx h) _ _ fun v w' G' g1 g2 g3 g4 =>
              hgo2 (by rw [hd]; exact h.add g2 g3 g4.boxes (by simp [dstOk, hat.n, hdn]) g1)
          by_cases hcr : creates o.op = true
          · obtain ⟨hs, hf⟩ := h.fresh (hfree i o d ho him hd hcr h1) h0
            exact key hs fun _ => hf
          · exact key h fun hc' => absurd hc' hcr
        simp only [Go.wpOp, ho]
        rcases hstep with ⟨hg, hstep⟩ | ⟨j, want, g, c, hg, hgs, hgv, hc2⟩ | ⟨j, want, g, vs', hg, hgs, hgv, rfl⟩
        · rw [if_pos (by simp [Region.wanted, hg])]
          exact .inl (hrun hstep)
        · have hgm : g ∈ slotsG ops o := by simp [slotsG, guardS, hg, hgs]
          have hv2 := h.slots g
          rw [← hsame g hgm, hgv] at hv2
          have hy := yielded_bool hgs hv2.sc_inv
          rcases hc2 with ⟨rfl, hstep⟩ | ⟨hne, rfl⟩
          · rw [if_pos (by simp [Region.wanted, hg, hy])]
            exact .inl (hrun hstep)
          · rw [if_neg (by simp [Region.wanted, hg, hy, hne])]
            have hs' := h.add (.refl G w) h.good (fun _ _ h => h) (d := o.dst) (x := .sc undef) (v := undef) (by rw [hd]; simp [dstOk, hat.n, hdn]) (.froz (.sc _))
            exact hgo2 (G' := G) (by rw [hd] at hs' ⊢; exact hs')
        · have hgm : g ∈ slotsG ops o := by simp [slotsG, guardS, hg, hgs]
          have hv2 := h.slots g
          rw [← hsame g hgm, hgv] at hv2
          have hy := yielded_none hgs hv2.sc_inv
          rw [if_neg (by simp [Region.wanted, hg, hy])]
          have hs' := h.add (.refl G w) h.good (fun _ _ h => h) (d := o.dst) (x := .sc undef) (v := undef) (by rw [hd]; simp [dstOk, hat.n, hdn]) (.froz (.sc _))
          exact hgo2 (G' := G) (by rw [hd] at hs' ⊢; exact hs')
      case pos =>
        rw [if_pos hiE] at hstep
        rw [if_pos hiE] at hpos
        obtain ⟨hg, fid, args, As, r, c1, hop, hpb, hnt, hnt0, hcon, hr1, hr2, hye, hce⟩ := hstep
        -- all effects ahead of it are listed, none behind it is
        have hposi : posE E (fun k => listed.getD k false) = (E.filter fun e => decide (e < i)).length := by
          unfold posE
          congr 1
          refine List.filter_congr fun e he => ?_
          rcases Nat.lt_trichotomy e i with hlt' | heq | hgt
          · have := reach_listed hc ops.size i e o ho h2 (hE.chain e he i hiE hlt')
            simp [hlt', this]
          · subst heq; simp [h1]
          · have hnl : listed.getD e false = false := by
              cases hb : listed.getD e false
              · rfl
              · have hel := hE.lt e he
                obtain ⟨p, hpe⟩ : ∃ p, ops[e]? = some p := ⟨ops[e]'(by have := hp.le; omega), by have := hp.le; simp [show e < ops.size by omega]⟩
                have := reach_listed hc ops.size e i p hpe (fun k hk => hc e p hpe hb k hk) (hE.chain i hiE e he hgt)
                rw [h1] at this; cases this
            simp [hnl]; omega
        have hargs : args.toList.map (puts σ (vs.take i)).ev = args.toList.map τ.ev := by
          refine List.map_congr_left fun x hx => hevs x ?_
          simp [hop, Op.operands, Call.operands]
          exact .inr (by simpa using hx)
        rw [hargs] at hpb hnt hcon
        have hcr : creates o.op = true := by simp [creates, hop]
        have hfd := hfree i o d ho him hd hcr h1
        -- the variable is there
        have hva : ∀ G, SRel G0 w0 τ G a w → PW (VRel G w) (args.toList.map τ.ev) (args.map a.eval).toList := fun G hs => by
          rw [Array.toList_map]
          refine ⟨by simp, fun j x u hx hu => ?_⟩
          simp only [List.getElem?_map] at hx hu
          cases hj : args.toList[j]? with
          | none => simp [hj] at hx
          | some c => simp [hj] at hx hu; subst hx; subst hu; exact hs.ev c
        have hi0 : i0 < σ.boxes.length := by
          obtain ⟨b, hb⟩ := pbss_real (i := i0) _ _ (hva G h) (dedup_mem _ (by rw [hpb]; simp))
          have := h.blt b i0 hb
          rw [hat.boxes] at this; simpa using this
        have hbx : getAll τ.boxes [i0] = some [C (posE E fun k => listed.getD k false)] := by
          simp only [getAll, hat.boxes, List.getElem?_set, if_true, hi0]
        have hlen : τ.boxes.length = σ.boxes.length := by rw [hat.boxes]; simp
        rw [← hposi] at hcon hnt0 hce
        have hcall : CallB P fid (args.toList.map τ.ev) [i0] d τ fun σ' => σ'.n = τ.n ∧ σ'.tmps = putT τ.tmps d y ∧ σ'.boxes = σ.boxes.set i0 (C (posE E (fun k => listed.getD k false) + 1)) := by
          refine ⟨hfd, by rw [hat.n]; exact hdn, hnt, rfl, _, hbx, hnt0, hcon.mono ?_⟩
          rintro r' bx ⟨rfl, rfl⟩
          refine ⟨hr1, hr2, rfl, by rw [hlen, ← hye]; rfl, ?_⟩
          rw [put_boxes]
          have hce' : mapB (outLeaf (64 * (d + 1)) [i0] σ.boxes.length) [c1] = [C (posE E (fun k => listed.getD k false) + 1)] := hce.symm
          simp only [List.length_singleton, List.take_succ_cons, List.take_zero, List.drop_succ_cons, List.drop_nil, hlen, hce', mapB, setAll, List.append_nil]
          rw [hat.boxes, List.set_set]
        obtain ⟨⟨fn, hfn, hname, hbody⟩, hcalls⟩ := CallB.sound hcall h h0 hva (fun G hs j hj => by
          simp at hj; subst hj
          exact pbss_real _ _ (hva G hs) (dedup_mem _ (by rw [hpb]; simp)))
        have hrun : (execOp a.eval o).run P w = .ok (.enter fid (args.map a.eval)) w := by
          have hname' : ¬ fn.name = "runtime.NumGoroutine" := by simpa using hname
          have hbody' : ¬ fn.body = none := by intro h; rw [h] at hbody; simp at hbody
          have hfe : a.eval (.func fid) = .func (.func fid) #[] #[] := rfl
          simp [execOp, hop, resolve, hfe, Deferred.ofValue, invoke, callFunc, hfn, hname', hbody']
        simp only [Go.wpOp, ho]
        rw [if_pos (by simp [Region.wanted, hg])]
        refine .inl ?_
        unfold Oper.wp
        rw [hrun, Oper.upon_enter]
        refine hcalls.mono ?_
        rintro e w' ⟨v, σ', G', rfl, ⟨e1, e2, e3⟩, hs'⟩
        exact hgo e1 e2 (by rw [e3, hpos]) (by rw [hd]; exact hs')
end

/-- no pointers to variables, no closures -/
def noVar : AV → Bool
  | .pb _ _ => false
  | .cl _ _ => false
  | _ => true
theorem noVar_noPb {N : Nat} : ∀ x : AV, noVar x = true → noPb N x = true := fun x h => by cases x <;> simp_all [noVar, noPb]
/-- a new variable, as the walk meets it -/
def AllocK (P : Program) (o : Oper) (N : Nat) (σ : St) (K : St → Prop) : Prop :=
  ∃ d, o.dst = some d ∧ d < σ.n ∧ AllocP P σ.boxes o N (.pb N 0) ∧ K (σ.put (some d) (.pb N 0))
def headF (P : Program) (ops : Array Oper) (n0 i0 : Nat) (E LF : List Nat) (A : List (Nat × Nat)) : Nat → List Oper → St → List AV → (St → List AV → Prop) → Prop
  | _, [], σ, c, K => K σ c
  | k, o :: r, σ, c, K => if E.contains k = true then EffK P n0 i0 o σ c fun σ' c' => allLeafs noVar c' = true ∧ headF P ops n0 i0 E LF A (k + 1) r σ' c' K else if LF.contains k = true then frB P o σ fun σ' => headF P ops n0 i0 E LF A (k + 1) r σ' c K else match lookA A k with
    | some N => AllocK P o N σ fun σ' => headF P ops n0 i0 E LF A (k + 1) r σ' c K
    | none => headG P ops o σ fun σ' => headF P ops n0 i0 E LF A (k + 1) r σ' c K

section
variable {P : Program} {ops : Array Oper} {n0 i0 : Nat} {E LF : List Nat} {A : List (Nat × Nat)}

theorem headF_vals (hn : E.Nodup) : ∀ (l : List Oper) (k : Nat) (σ : St) (c : List AV) (K : St → List AV → Prop), headF P ops n0 i0 E LF A k l σ c K → allLeafs noTag c = true → allLeafs noVar c = true → ∃ (vs : List (Nat × AV)) (C : Nat → List AV), vs.length = l.length ∧ (∀ j, j ≤ cntE E k → C j = c) ∧ (∀ j, (C j).length = c.length ∧ allLeafs noTag (C j) = true ∧ allLeafs noVar (C j) = true) ∧ K (puts σ vs) (C (cntE E (k + l.length))) ∧
    ∀ i o, l[i]? = some o → ∃ d y, vs[i]? = some (d, y) ∧ o.dst = some d ∧ d < σ.n ∧
      if k + i ∈ E then EffC P ⟨0, [], List.replicate n0 []⟩ i0 o d (puts σ (vs.take i)).ev (C (cntE E (k + i))) y (C (cntE E (k + i) + 1)) else if k + i ∈ LF then FrontC P o (puts σ (vs.take i)).ev y else match lookA A (k + i) with | some N => AllocP P σ.boxes o N y | none => StepG P ops o d (puts σ (vs.take i)) σ.boxes y
  | [], k, σ, c, K, h, hc, hn0 => ⟨[], fun _ => c, rfl, fun _ _ => rfl, fun _ => ⟨rfl, hc, hn0⟩, h, fun i o hi => by simp at hi⟩
  | o :: l, k, σ, c, K, h, hc, hn0 => by
    unfold headF at h
    have hcs := cntE_succ hn k
    by_cases hk : k ∈ E
    · rw [if_pos (by simpa using hk)] at h
      rw [if_pos hk] at hcs
      obtain ⟨d, y, c', h1, h2, h3, h4, h5, h7, h6⟩ := h
      obtain ⟨vs, C, g1, g2, g3, g4, g5⟩ := headF_vals hn l (k + 1) _ c' K h6 h5 h7
      refine ⟨(d, y) :: vs, fun j => if j ≤ cntE E k then c else C j, by simp [g1], fun j hj => if_pos hj, fun j => ?_, ?_, fun i o' hi => ?_⟩
      · simp only
        split
        · exact ⟨rfl, hc, hn0⟩
        · exact ⟨(g3 j).1.trans h4, (g3 j).2⟩
      · simp only [puts, List.length_cons]
        rw [show k + (l.length + 1) = k + 1 + l.length by omega]
        have : ¬ cntE E (k + 1 + l.length) ≤ cntE E k := by
          have : ∀ t, cntE E (k + 1) ≤ cntE E (k + 1 + t) := fun t => by
            induction t with
            | zero => exact Nat.le_refl _
            | succ t ih => have := cntE_succ hn (k + 1 + t); rw [show k + 1 + (t + 1) = k + 1 + t + 1 by omega]; omega
          have := this l.length; omega
        rw [if_neg this]; exact g4
      · cases i with
        | zero =>
          simp at hi; subst hi
          refine ⟨d, y, rfl, h1, h2, ?_⟩
          rw [Nat.add_zero, if_pos hk]
          dsimp only
          rw [if_pos (Nat.le_refl _), if_neg (by omega), ← hcs, g2 _ (Nat.le_refl _)]
          exact h3
        | succ i =>
          obtain ⟨d', y', k1, k2, k3, k4⟩ := g5 i o' (by simpa using hi)
          rw [put_n] at k3
          refine ⟨d', y', by simpa using k1, k2, k3, ?_⟩
          rw [show k + (i + 1) = k + 1 + i by omega]
          have hge : ∀ t, cntE E (k + 1) ≤ cntE E (k + 1 + t) := fun t => by
            induction t with
            | zero => exact Nat.le_refl _
            | succ t ih => have := cntE_succ hn (k + 1 + t); rw [show k + 1 + (t + 1) = k + 1 + t + 1 by omega]; omega
          have := hge i
          dsimp only
          rw [if_neg (show ¬ cntE E (k + 1 + i) ≤ cntE E k by omega), if_neg (show ¬ cntE E (k + 1 + i) + 1 ≤ cntE E k by omega)]
          rw [put_boxes] at k4
          exact k4
    · rw [if_neg (by simpa using hk)] at h
      rw [if_neg hk, Nat.add_zero] at hcs
      obtain ⟨d, y, h1, h2, h3, h4⟩ : ∃ d y, o.dst = some d ∧ d < σ.n ∧ headF P ops n0 i0 E LF A (k + 1) l (σ.put (some d) y) c K ∧ if k ∈ LF then FrontC P o σ.ev y else match lookA A k with | some N => AllocP P σ.boxes o N y | none => StepG P ops o d σ σ.boxes y := by
        by_cases hkL : k ∈ LF
        · rw [if_pos (by simpa using hkL)] at h
          obtain ⟨d, y, h1, h2, h3, h4⟩ := frB_sound h
          exact ⟨d, y, h1, h2, h3, by rw [if_pos hkL]; exact h4⟩
        · rw [if_neg (by simpa using hkL)] at h
          cases hlA : lookA A k with
          | some N =>
            rw [hlA] at h
            obtain ⟨d, h1, h2, h4, h3⟩ := h
            exact ⟨d, _, h1, h2, h3, by rw [if_neg hkL]; exact h4⟩
          | none =>
            rw [hlA] at h
            obtain ⟨d, y, h1, h2, h3, h4⟩ := headG_sound h
            exact ⟨d, y, h1, h2, h3, by rw [if_neg hkL]; exact h4⟩
      obtain ⟨vs, C, g1, g2, g3, g4, g5⟩ := headF_vals hn l (k + 1) _ c K h3 hc hn0
      refine ⟨(d, y) :: vs, C, by simp [g1], fun j hj => g2 j (by omega), g3, ?_, fun i o' hi => ?_⟩
      · simp only [puts, List.length_cons]
        rw [show k + (l.length + 1) = k + 1 + l.length by omega]; exact g4
      · cases i with
        | zero =>
          simp at hi; subst hi
          refine ⟨d, y, rfl, h1, h2, ?_⟩
          rw [Nat.add_zero, if_neg hk]; exact h4
        | succ i =>
          obtain ⟨d', y', k1, k2, k3, k4⟩ := g5 i o' (by simpa using hi)
          rw [put_n] at k3
          rw [put_boxes] at k4
          refine ⟨d', y', by simpa using k1, k2, k3, ?_⟩
          rw [show k + (i + 1) = k + 1 + i by omega]; exact k4

/-- no other slot points to the variable at a kept place -/
def pbBut (N d : Nat) : List (Nat × AV) → Bool
  | [] => true
  | (s, v) :: r => (s == d || v.allLeaf (noPb N)) && pbBut N d r
theorem pbBut_look {N d : Nat} : ∀ {l : List (Nat × AV)}, pbBut N d l = true → ∀ s, s ≠ d → (lookT l s).allLeaf (noPb N) = true
  | [], _, _, _ => rfl
  | (s', v) :: r, h, s, hs => by
    simp only [pbBut, Bool.and_eq_true, Bool.or_eq_true, beq_iff_eq] at h
    unfold lookT
    split
    · rename_i he
      rcases h.1 with h1 | h1
      · exact absurd (he.symm.trans h1) (by intro e; exact hs e)
      · exact h1
    · exact pbBut_look h.2 s hs
/-- of all kept places: the slots of their variables -/
def keptOk (ops : Array Oper) (l : List (Nat × AV)) : List (Nat × Nat) → Bool
  | [] => true
  | (i, N) :: r => (match (ops[i]?).bind (·.dst) with
    | some d => pbBut N d l
    | none => false) && keptOk ops l r
/-- .. and ahead of the region nothing points to them -/
def keptFree (σ : St) : List (Nat × Nat) → Bool
  | [] => true
  | (_, N) :: r => (decide (σ.boxes.length ≤ N) && (noPbT N σ.tmps && noPbB N σ.boxes)) && keptFree σ r
theorem keptOk_mem {l : List (Nat × AV)} : ∀ {A : List (Nat × Nat)}, keptOk ops l A = true → ∀ i N, lookA A i = some N → ∃ d, (ops[i]?).bind (·.dst) = some d ∧ pbBut N d l = true
  | [], _, i, N, h => by simp [lookA] at h
  | (k, M) :: r, h, i, N, hi => by
    simp only [keptOk, Bool.and_eq_true] at h
    simp only [lookA] at hi
    split at hi
    · rename_i e; subst e; cases hi
      have h1 := h.1
      split at h1
      · rename_i d hd; exact ⟨d, hd, h1⟩
      · cases h1
    · exact keptOk_mem h.2 i N hi
theorem keptFree_mem {σ : St} : ∀ {A : List (Nat × Nat)}, keptFree σ A = true → ∀ i N, lookA A i = some N → σ.boxes.length ≤ N ∧ noPbT N σ.tmps = true ∧ noPbB N σ.boxes = true
  | [], _, i, N, h => by simp [lookA] at h
  | (k, M) :: r, h, i, N, hi => by
    simp only [keptFree, Bool.and_eq_true, decide_eq_true_eq] at h
    simp only [lookA] at hi
    split at hi
    · cases hi; exact h.1
    · exact keptFree_mem h.2 i N hi
def anyB (ph : List Nat) : List (List AV) := ph.map fun k => List.replicate k .any
theorem noPbB_any {N : Nat} : ∀ ph : List Nat, noPbB N (anyB ph) = true
  | [] => rfl
  | k :: r => by
    show (allLeafs (noPb N) (List.replicate k .any) && noPbB N (anyB r)) = true
    rw [noPbB_any r, Bool.and_true]
    induction k with
    | zero => rfl
    | succ k ih => rw [List.replicate_succ]; simp only [allLeafs, ih, Bool.and_true]; rfl
theorem noPbB_app {N : Nat} : ∀ (x y : List (List AV)), noPbB N (x ++ y) = (noPbB N x && noPbB N y)
  | [], y => by simp [noPbB]
  | c :: x, y => by rw [List.cons_append, noPbB, noPbB, noPbB_app x y, Bool.and_assoc]
/-- places kept -/
theorem SRel.kept {G0 w0 σ G a w} (h : SRel G0 w0 σ G a w) (ph : List Nat) : SRel G0 w0 { σ with boxes := σ.boxes ++ anyB ph } G a w :=
  { h with
    boxes := ⟨fun i vs hv => by have := h.boxes.low i vs hv; simp only [List.length_append]; omega, fun i cs hi => by
      simp only at hi
      by_cases hlt : i < σ.boxes.length
      · rw [List.getElem?_append_left hlt] at hi; exact h.boxes.cell i cs hi
      · rw [List.getElem?_append_right (by omega)] at hi
        refine .inr (.inr ⟨by cases hgh : G0.gh i with | none => rfl | some vs => have := h.boxes.low _ vs hgh; omega, fun b hb => by have := h.blt b i hb; omega, fun x hx v => ?_⟩)
        unfold anyB at hi
        rw [List.getElem?_map] at hi
        cases hp : ph[i - σ.boxes.length]? with
        | none => simp [hp] at hi
        | some k => simp [hp] at hi; subst hi; rw [(List.mem_replicate.1 hx).2]; exact .froz (.any _)⟩
    blt := fun b i hb => by have := h.blt b i hb; simp only [List.length_append]; omega }

theorem freeB_kept {d : Nat} : ∀ ph : List Nat, freeB d (anyB ph) = true
  | [] => rfl
  | k :: r => by
    show (allLeafs (freeLeaf d) (List.replicate k .any) && freeB d (anyB r)) = true
    rw [freeB_kept r, Bool.and_true]
    induction k with
    | zero => rfl
    | succ k ih => rw [List.replicate_succ]; simp only [allLeafs, ih, Bool.and_true]; rfl
theorem freeB_two {d : Nat} : ∀ (x y : List (List AV)), freeB d (x ++ y) = (freeB d x && freeB d y)
  | [], y => by simp [freeB]
  | c :: x, y => by rw [List.cons_append, freeB, freeB, freeB_two x y, Bool.and_assoc]
theorem freeAll_kept {σ : St} (ph : List Nat) : ∀ {ds : List Nat}, freeAll σ ds = true → freeAll { σ with boxes := σ.boxes ++ anyB ph } ds = true
  | [], _ => rfl
  | d :: r, h => by
    simp only [freeAll, Bool.and_eq_true] at h ⊢
    refine ⟨?_, freeAll_kept ph h.2⟩
    have h1 := h.1
    simp only [St.free, Bool.and_eq_true] at h1 ⊢
    exact ⟨h1.1, h1.2.1, by rw [freeB_two, h1.2.2, freeB_kept]; rfl⟩
def hasD (d s : Nat) : List (Nat × Nat) → Bool
  | [] => false
  | (a, b) :: r => (a == d && b == s) || hasD d s r
/-- no other slot bears these tags, but those that D names: they are filled later in every order -/
def freeButD (D : List (Nat × Nat)) (d : Nat) : List (Nat × AV) → Bool
  | [] => true
  | (s, v) :: r => (s == d || (hasD d s D || v.allLeaf (freeLeaf d))) && freeButD D d r
def freeOthersD (D : List (Nat × Nat)) (l : List (Nat × AV)) : List Nat → Bool
  | [] => true
  | d :: r => freeButD D d l && freeOthersD D l r
theorem freeButD_look {D : List (Nat × Nat)} {d : Nat} : ∀ {l : List (Nat × AV)}, freeButD D d l = true → ∀ s, s ≠ d → hasD d s D = true ∨ (lookT l s).allLeaf (freeLeaf d) = true
  | [], _, _, _ => .inr rfl
  | (s', v) :: r, h, s, hs => by
    simp only [freeButD, Bool.and_eq_true, Bool.or_eq_true, beq_iff_eq] at h
    unfold lookT
    split
    · rename_i he
      rcases h.1 with h1 | h1 | h1
      · exact absurd (he.symm.trans h1) (by intro e; exact hs e)
      · rw [← he]; exact .inl h1
      · exact .inr h1
    · exact freeButD_look h.2 s hs
theorem freeOthersD_mem {D : List (Nat × Nat)} {l : List (Nat × AV)} : ∀ {ds : List Nat}, freeOthersD D l ds = true → ∀ d ∈ ds, freeButD D d l = true
  | d' :: r, h, d, hd => by
    simp only [freeOthersD, Bool.and_eq_true] at h
    rcases List.mem_cons.1 hd with rfl | hd
    · exact h.1
    · exact freeOthersD_mem h.2 d hd
def lateP (ops : Array Oper) (m d s : Nat) : Bool := (List.range m).all fun i => match ops[i]? with
  | some o => (o.dst != some s) || (List.range m).all fun j => match ops[j]? with
    | some o' => (o'.dst != some d) || reach ops i i j
    | none => true
  | none => true
/-- for each pair (d, s) the slot s is filled after d in every order -/
def lateD (ops : Array Oper) (m : Nat) : List (Nat × Nat) → Bool
  | [] => true
  | (d, s) :: r => lateP ops m d s && lateD ops m r
theorem lateD_has {ops : Array Oper} {m d s : Nat} : ∀ {D : List (Nat × Nat)}, lateD ops m D = true → hasD d s D = true → lateP ops m d s = true
  | (a, b) :: r, h, hd => by
    simp only [lateD, Bool.and_eq_true] at h
    simp only [hasD, Bool.or_eq_true, Bool.and_eq_true, beq_iff_eq] at hd
    rcases hd with ⟨rfl, rfl⟩ | hd
    · exact h.1
    · exact lateD_has h.2 hd
theorem lateP_spec {ops : Array Oper} {m d s i j : Nat} {o o' : Oper} (h : lateP ops m d s = true) (hi : ops[i]? = some o) (him : i < m) (hd : o.dst = some s) (hj : ops[j]? = some o') (hjm : j < m) (hd' : o'.dst = some d) : reach ops i i j = true := by
  unfold lateP at h
  have h1 := List.all_eq_true.1 h i (List.mem_range.2 him)
  rw [hi] at h1
  simp only [hd, bne_self_eq_false, Bool.false_or] at h1
  have h2 := List.all_eq_true.1 h1 j (List.mem_range.2 hjm)
  rw [hj] at h2
  simpa only [hd', bne_self_eq_false, Bool.false_or] using h2
/-- A DRAWN REGION with effects and new variables: A: each one's operation, and the place kept for it behind the boxes; ph: the kept places' sizes. -/
theorem DrawN.effP {σ0 : St} {K : St → Prop} (A : List (Nat × Nat)) (ph : List Nat) (D : List (Nat × Nat)) (i0 : Nat) (E LF : List Nat) (m : Nat) (tr : Tr) (sg : Option (Nat × Tr)) (c : List AV) (hok : lateOk ops m E LF tr sg = true) (hE : effOk ops m E = true) (hD : lateD ops m D = true) (hc : (σ0.boxes ++ anyB ph)[i0]? = some c) (hi0 : i0 < σ0.boxes.length) (hnt : allLeafs noTag c = true) (hnv : allLeafs noVar c = true) (hfree : freeAll σ0 (creators ops m) = true) (hkf : keptFree σ0 A = true)
    (h : headF P ops (σ0.boxes ++ anyB ph).length i0 E LF A 0 (ops.toList.take m) { σ0 with boxes := (σ0.boxes ++ anyB ph).set i0 (blankC E c) } c fun σ' c' => (freeOthersD D σ'.tmps (creators ops m) = true ∧ keptOk ops σ'.tmps A = true) ∧ treeA P ops tr { σ' with boxes := σ'.boxes.set i0 c' } K ∧ sgA P ops sg { σ' with boxes := σ'.boxes.set i0 c' } K) : DrawN P ops σ0 K := by
  intro G0 w0 G a w Q h0 hs0 hN hQ
  have hs := hs0.kept ph
  have hkf := fun i N => keptFree_mem hkf i N
  have hfree : freeAll { σ0 with boxes := σ0.boxes ++ anyB ph } (creators ops m) = true := freeAll_kept ph hfree
  have hall : ∀ N, noPbB N σ0.boxes = true → noPbB N (σ0.boxes ++ anyB ph) = true := fun N hN => by rw [noPbB_app, hN, noPbB_any]; rfl
  obtain ⟨σ, hσ⟩ : ∃ σ : St, σ = { σ0 with boxes := σ0.boxes ++ anyB ph } := ⟨_, rfl⟩
  have hσb : σ.boxes = σ0.boxes ++ anyB ph := by rw [hσ]
  have hσt : σ.tmps = σ0.tmps := by rw [hσ]
  have hσn : σ.n = σ0.n := by rw [hσ]
  rw [← hσ] at hs hfree
  have h : headF P ops σ.boxes.length i0 E LF A 0 (ops.toList.take m) { σ with boxes := σ.boxes.set i0 (blankC E c) } c fun σ' c' => (freeOthersD D σ'.tmps (creators ops m) = true ∧ keptOk ops σ'.tmps A = true) ∧ treeA P ops tr { σ' with boxes := σ'.boxes.set i0 c' } K ∧ sgA P ops sg { σ' with boxes := σ'.boxes.set i0 c' } K := by
    rw [hσ]; exact h
  rw [← hσb] at hc
  have hp := lateOk_plan hok
  simp only [effOk, Bool.and_eq_true, List.all_eq_true, decide_eq_true_eq, Bool.or_eq_true, Bool.not_eq_true', decide_eq_false_iff_not] at hE
  have hpE : PlanE ops m E := ⟨nodupE_spec hE.1.1, hE.1.2, fun e he e' he' hlt => (hE.2 e he e' he').resolve_left (fun hn => hn hlt)⟩
  obtain ⟨vs, C, hvl, hC0, hC, ⟨⟨hoth, hkp⟩, hK, hK2⟩, hst⟩ := headF_vals hpE.nodup _ _ _ _ _ h hnt hnv
  have hlen : (ops.toList.take m).length = m := by have := hp.le; simp; omega
  rw [hlen] at hvl
  have hcm : cntE E (0 + (ops.toList.take m).length) = E.length := by
    rw [hlen, Nat.zero_add]
    unfold cntE posE
    rw [List.filter_eq_self.2 fun e he => by simpa using hpE.lt e he]
  rw [hcm] at hK hK2
  have hst' : ∀ i o, i < m → ops[i]? = some o → ∃ d y, vs[i]? = some (d, y) ∧ o.dst = some d ∧ d < σ.n ∧
      if i ∈ E then EffC P σ i0 o d (puts σ (vs.take i)).ev (C (E.filter fun e => decide (e < i)).length) y (C ((E.filter fun e => decide (e < i)).length + 1)) else if i ∈ LF then FrontC P o (puts σ (vs.take i)).ev y else match lookA A i with | some N => AllocP P σ.boxes o N y | none => StepG P ops o d (puts σ (vs.take i)) (σ.boxes.set i0 (blankC E (C 0))) y := fun i o hi ho => by
    obtain ⟨d, y, k1, k2, k3, k4⟩ := hst i o (by rw [List.getElem?_take, if_pos hi]; simpa using ho)
    refine ⟨d, y, k1, k2, k3, ?_⟩
    rw [Nat.zero_add] at k4
    split
    · rename_i hiE
      rw [if_pos hiE, puts_ev] at k4
      unfold EffC at k4 ⊢
      simp only [List.length_replicate] at k4
      exact k4
    · rename_i hiE
      rw [if_neg hiE] at k4
      rw [hC0 0 (Nat.zero_le _)]
      split
      · rename_i hiL
        rw [if_pos hiL, puts_ev] at k4
        exact k4
      rename_i hiL
      rw [if_neg hiL] at k4
      cases hlA : lookA A i with
      | some N =>
        rw [hlA] at k4
        have hNi : i0 ≠ N := fun e => by have := (hkf i N hlA).1; omega
        obtain ⟨q1, q2, T, q, z, q3, q4, q5, q6, q7⟩ := k4
        simp only [List.getElem?_set_ne hNi] at q7
        exact ⟨q1, q2, T, q, z, q3, q4, q5, q6, q7⟩
      | none =>
      rw [hlA] at k4
      unfold StepG at k4 ⊢
      rw [puts_ev] at k4
      simp only [puts_get] at k4
      exact k4
  have hap : Apart vs := by
    intro i j d y d' y' h1 h2 hij
    have hil : i < m := by have := (List.getElem?_eq_some_iff.1 h1).1; omega
    have hjl : j < m := by have := (List.getElem?_eq_some_iff.1 h2).1; omega
    have hle := hp.le
    obtain ⟨oi, hoi⟩ : ∃ p, ops[i]? = some p := ⟨ops[i]'(by omega), by simp [show i < ops.size by omega]⟩
    obtain ⟨oj, hoj⟩ : ∃ p, ops[j]? = some p := ⟨ops[j]'(by omega), by simp [show j < ops.size by omega]⟩
    obtain ⟨_, _, k1, k2, _⟩ := hst' i oi hil hoi
    obtain ⟨_, _, k3, k4, _⟩ := hst' j oj hjl hoj
    rw [h1] at k1; cases k1
    rw [h2] at k3; cases k3
    obtain ⟨d1, e1, _, e2⟩ := hp.head j oj hoj hjl
    rw [k4] at e1; cases e1
    exact (e2 i oi d hil hij hoi k2).1
  have hs' := hs
  have hgd : ∀ i, (Array.replicate ops.size false).getD i false = false := fun i => by
    by_cases hi : i < ops.size <;> simp [hi]
  have hcrm : ∀ i o d, ops[i]? = some o → i < m → o.dst = some d → creates o.op = true → d ∈ creators ops m := fun i o d ho hi hd hcr => by
    unfold creators
    refine List.mem_filterMap.2 ⟨o, ?_, by rw [if_pos hcr]; exact hd⟩
    refine List.mem_of_getElem? (i := i) ?_
    rw [List.getElem?_take, if_pos hi]; simpa using ho
  have hset : ∀ c', (puts { σ with boxes := σ.boxes.set i0 (blankC E c) } vs).boxes.set i0 c' = σ.boxes.set i0 c' := fun c' => by rw [puts_boxes, List.set_set]
  refine head_runP (P := P) (A := A) hp hpE h0 hN hQ hvl hap (fun j => by rw [(hC j).1, (hC 0).1]) ?_ ?_ hst' (fun i N hi hlA => ⟨fun e => by have := (hkf i N hlA).1; omega, ?_, fun b hb e => ?_, fun j d' y hji hj => ?_, fun j => allLeafs_mono noVar_noPb _ (hC j).2.2⟩) (fun i o d ho hi hd hcr => ⟨fun j d' y hji hj => ?_, fun j => allLeafs_mono noTag_free _ (hC j).2.1⟩) ops.size (Array.replicate ops.size false) (List.range ops.size) σ G a _ ⟨by simp, List.nodup_range, fun i => ?_⟩ (by simp) (fun i _ => hgd i)
    (fun i o _ hi => absurd (show (Array.replicate ops.size false).getD i false = true from hi) (by rw [hgd]; simp)) ⟨rfl, ?_, fun i d y _ => by simp only [hgd]; simp, fun _ _ => rfl⟩ hs' (fun i o d ho hi hd hcr _ => freeAll_mem hfree d (hcrm i o d ho hi hd hcr)) (fun i N hi hlA _ _ _ => ⟨by rw [hσt]; exact (hkf i N hlA).2.1, by rw [hσb]; exact hall N (hkf i N hlA).2.2⟩)
  · rw [hset] at hK
    rw [puts_eq] at hK ⊢
    exact hK
  · rw [hset] at hK2
    rw [puts_eq] at hK2 ⊢
    exact hK2
  · have := (hkf i N hlA).1
    cases hgh : G0.gh N with
    | none => rfl
    | some vs => have := hs0.boxes.low _ vs hgh; omega
  · have h1 := hs0.stat b hb (fun t ht => by rw [e] at ht; cases ht)
    rw [e] at h1
    have := hs0.blt b N h1
    have := (hkf i N hlA).1
    omega
  · obtain ⟨di, hdi, hbut⟩ := keptOk_mem hkp i N hlA
    obtain ⟨oi, hoi⟩ : ∃ p, ops[i]? = some p := ⟨ops[i]'(by have := hp.le; omega), by have := hp.le; simp [show i < ops.size by omega]⟩
    rw [hoi, Option.bind_some] at hdi
    obtain ⟨_, yi, k1, k2, _⟩ := hst' i oi hi hoi
    rw [hdi] at k2; cases k2
    have hne := hap i j di yi d' y k1 hj (Ne.symm hji)
    have hpa := puts_at m vs { σ with boxes := σ.boxes.set i0 (blankC E c) } hap
    rw [List.take_of_length_le (by omega)] at hpa
    have hjm : j < m := by have := (List.getElem?_eq_some_iff.1 hj).1; omega
    have hg := hpa.dst j d' y hj
    simp only [hjm, decide_true, if_true] at hg
    rw [← hg]
    exact pbBut_look hbut d' (Ne.symm hne)
  · have hb := freeOthersD_mem hoth d (hcrm i o d ho hi hd hcr)
    obtain ⟨oi, yi, k1, k2, _⟩ := hst' i o hi ho
    rw [hd] at k2; cases k2
    have hne := hap i j d yi d' y k1 hj (Ne.symm hji)
    have hpa := puts_at m vs { σ with boxes := σ.boxes.set i0 (blankC E c) } hap
    rw [List.take_of_length_le (by omega)] at hpa
    have hjm : j < m := by have := (List.getElem?_eq_some_iff.1 hj).1; omega
    have hg := hpa.dst j d' y hj
    simp only [hjm, decide_true, if_true] at hg
    rw [← hg]
    rcases freeButD_look hb d' (Ne.symm hne) with h1 | h1
    · obtain ⟨oj, hoj⟩ : ∃ p, ops[j]? = some p := ⟨ops[j]'(by have := hp.le; omega), by have := hp.le; simp [show j < ops.size by omega]⟩
      obtain ⟨_, yj, q1, q2, _⟩ := hst' j oj hjm hoj
      rw [hj] at q1; cases q1
      exact .inr (lateP_spec (lateD_has hD h1) hoj hjm q2 ho hi hd)
    · exact .inl h1
  · rw [List.mem_range, hgd]; simp
  · have : posE E (fun i => (Array.replicate ops.size false).getD i false) = 0 := by
      unfold posE
      rw [List.filter_eq_nil_iff.2 fun e _ => by rw [hgd]; simp]; rfl
    rw [this, hC0 0 (Nat.zero_le _)]
    have hi := (List.getElem?_eq_some_iff.1 hc).1
    rw [← (List.getElem?_eq_some_iff.1 hc).2, List.set_getElem_self]
end

/-! ### as rules -/
def headZ (P : Program) (ops : Array Oper) (n0 i0 : Nat) (E LF : List Nat) (A : List (Nat × Nat)) (D : List (Nat × Nat)) (ds : List Nat) (tr : Tr) (sg : Option (Nat × Tr)) (σ : St) (c : List AV) (K : St → Prop) : Prop :=
  (freeOthersD D σ.tmps ds = true ∧ keptOk ops σ.tmps A = true) ∧ treeA P ops tr { σ with boxes := σ.boxes.set i0 c } K ∧ sgA P ops sg { σ with boxes := σ.boxes.set i0 c } K
def headY (P : Program) (ops : Array Oper) (n0 i0 : Nat) (E LF : List Nat) (A : List (Nat × Nat)) (D : List (Nat × Nat)) (ds : List Nat) (tr : Tr) (sg : Option (Nat × Tr)) : Nat → Nat → List Oper → St → List AV → (St → Prop) → Prop
  | _, 0, _, σ, c, K => headZ P ops n0 i0 E LF A D ds tr sg σ c K
  | _, _ + 1, [], σ, c, K => headZ P ops n0 i0 E LF A D ds tr sg σ c K
  | k, m + 1, o :: r, σ, c, K => if E.contains k = true then EffK P n0 i0 o σ c fun σ' c' => allLeafs noVar c' = true ∧ headY P ops n0 i0 E LF A D ds tr sg (k + 1) m r σ' c' K else if LF.contains k = true then frB P o σ fun σ' => headY P ops n0 i0 E LF A D ds tr sg (k + 1) m r σ' c K else match lookA A k with
    | some N => AllocK P o N σ fun σ' => headY P ops n0 i0 E LF A D ds tr sg (k + 1) m r σ' c K
    | none => headG P ops o σ fun σ' => headY P ops n0 i0 E LF A D ds tr sg (k + 1) m r σ' c K
theorem headY_eq {P : Program} {ops : Array Oper} {n0 i0 : Nat} {E LF : List Nat} {A D : List (Nat × Nat)} {ds : List Nat} {tr : Tr} {sg : Option (Nat × Tr)} {K : St → Prop} : ∀ (m k : Nat) (l : List Oper) (σ : St) (c : List AV), headY P ops n0 i0 E LF A D ds tr sg k m l σ c K =
    headF P ops n0 i0 E LF A k (l.take m) σ c fun σ' c' => headZ P ops n0 i0 E LF A D ds tr sg σ' c' K
  | 0, k, l, σ, c => by cases l <;> rfl
  | m + 1, k, [], σ, c => rfl
  | m + 1, k, o :: l, σ, c => by
    have ih : ∀ σ' c', headY P ops n0 i0 E LF A D ds tr sg (k + 1) m l σ' c' K = headF P ops n0 i0 E LF A (k + 1) (l.take m) σ' c' fun σ' c' => headZ P ops n0 i0 E LF A D ds tr sg σ' c' K := fun σ' c' => headY_eq m (k + 1) l σ' c'
    simp only [headY, List.take_succ_cons, headF, ih]
/-- A DRAWN REGION with effects and new variables, its operations put into the row π -/
theorem DrawK.news {P : Program} {l l' : List Oper} {σ : St} {K : St → Prop} (π : List Nat) (A : List (Nat × Nat)) (ph : List Nat) (D : List (Nat × Nat)) (i0 : Nat) (E LF : List Nat) (m : Nat) (tr : Tr) (sg : Option (Nat × Tr)) (c : List AV) (hm : P.follows .mixedOrders = true) (hπ : permOk l π = true) (hl : permG π l π = l') (hok : lateOk l'.toArray m E LF tr sg = true) (hE : effOk l'.toArray m E = true) (hD : lateD l'.toArray m D = true) (hc : (σ.boxes ++ anyB ph)[i0]? = some c) (hi0 : i0 < σ.boxes.length) (hnt : allLeafs noTag c = true ∧ allLeafs noVar c = true)
    (hfree : freeAll σ (crs (l'.take m)) = true ∧ keptFree σ A = true)
    (h : headY P l'.toArray (σ.boxes ++ anyB ph).length i0 E LF A D (crs (l'.take m)) tr sg 0 m l' ⟨σ.n, σ.tmps, (σ.boxes ++ anyB ph).set i0 (blankC E c)⟩ c K) : DrawK P l.toArray σ K :=
  DrawK.ofN hm (DrawN.perm π hπ hl (DrawN.effP A ph D i0 E LF m tr sg c hok hE hD hc hi0 hnt.1 hnt.2 (by rw [crs_creators]; exact hfree.1) hfree.2 (by rw [crs_creators]; rw [headY_eq] at h; exact h)))
/-- .. in the text's row -/
theorem DrawK.news0 {P : Program} {l : List Oper} {σ : St} {K : St → Prop} (A : List (Nat × Nat)) (ph : List Nat) (D : List (Nat × Nat)) (i0 : Nat) (E LF : List Nat) (m : Nat) (tr : Tr) (sg : Option (Nat × Tr)) (c : List AV) (hm : P.follows .mixedOrders = true) (hok : lateOk l.toArray m E LF tr sg = true) (hE : effOk l.toArray m E = true) (hD : lateD l.toArray m D = true) (hc : (σ.boxes ++ anyB ph)[i0]? = some c) (hi0 : i0 < σ.boxes.length) (hnt : allLeafs noTag c = true ∧ allLeafs noVar c = true)
    (hfree : freeAll σ (crs (l.take m)) = true ∧ keptFree σ A = true)
    (h : headY P l.toArray (σ.boxes ++ anyB ph).length i0 E LF A D (crs (l.take m)) tr sg 0 m l ⟨σ.n, σ.tmps, (σ.boxes ++ anyB ph).set i0 (blankC E c)⟩ c K) : DrawK P l.toArray σ K :=
  DrawK.ofN hm (DrawN.effP A ph D i0 E LF m tr sg c hok hE hD hc hi0 hnt.1 hnt.2 (by rw [crs_creators]; exact hfree.1) hfree.2 (by rw [crs_creators]; rw [headY_eq] at h; exact h))

section
variable {P : Program} {n : Nat} {t : List (Nat × AV)} {b : List (List AV)} {ops : Array Oper} {n0 i0 k m : Nat} {E LF ds : List Nat} {A D : List (Nat × Nat)} {tr : Tr} {sg : Option (Nat × Tr)} {l : List Oper} {c : List AV} {K : St → Prop}
variable {d : Nat} {T : TypeId} {pos : String} {af : Array Edge} {g : Option (Nat × Bool)}
@[congr] theorem headY_congr {n0' k' : Nat} {σ σ' : St} {c' : List AV} (h0 : n0 = n0') (h1 : k = k') (h : mkd σ = σ') (h2 : c = c') : headY P ops n0 i0 E LF A D ds tr sg k m l σ c K = headY P ops n0' i0 E LF A D ds tr sg k' m l σ' c' K := by subst_vars; rfl
def selN (o : Option Nat) (f : Nat → Prop) (p : Prop) : Prop := match o with
  | some N => f N
  | none => p
@[congr] theorem selN_congr {o o' : Option Nat} {f : Nat → Prop} {p : Prop} (h : o = o') : selN o f p = selN o' f p := by subst_vars; rfl
@[go_sem] theorem selN_some {N : Nat} {f : Nat → Prop} {p : Prop} : selN (some N) f p = f N := rfl
@[go_sem] theorem selN_none {f : Nat → Prop} {p : Prop} : selN none f p = p := rfl
@[go_sem] theorem headY_zero : headY P ops n0 i0 E LF A D ds tr sg k 0 l ⟨n, t, b⟩ c K = andK (freeOthersD D t ds = true) (andK (keptOk ops t A = true) (andK (treeA P ops tr ⟨n, t, b.set i0 c⟩ K) (sgA P ops sg ⟨n, t, b.set i0 c⟩ K))) := by
  cases l <;> (simp only [headY, headZ, andK]; exact propext and_assoc)
@[go_sem] theorem headY_nil : headY P ops n0 i0 E LF A D ds tr sg k (m + 1) [] ⟨n, t, b⟩ c K = andK (freeOthersD D t ds = true) (andK (keptOk ops t A = true) (andK (treeA P ops tr ⟨n, t, b.set i0 c⟩ K) (sgA P ops sg ⟨n, t, b.set i0 c⟩ K))) := by
  simp only [headY, headZ, andK]; exact propext and_assoc
@[go_sem] theorem headY_succ {dst : Option Tmp} {op : Op} : headY P ops n0 i0 E LF A D ds tr sg k (m + 1) (⟨dst, op, T, pos, af, none⟩ :: l) ⟨n, t, b⟩ c K = selK (E.contains k) (EffK P n0 i0 ⟨dst, op, T, pos, af, none⟩ ⟨n, t, b⟩ c fun σ' c' => andK (allLeafs noVar c' = true) (headY P ops n0 i0 E LF A D ds tr sg (k + 1) m l σ' c' K))
    (selK (LF.contains k) (frB P ⟨dst, op, T, pos, af, none⟩ ⟨n, t, b⟩ fun σ' => headY P ops n0 i0 E LF A D ds tr sg (k + 1) m l σ' c K) (selN (lookA A k) (fun N => AllocK P ⟨dst, op, T, pos, af, none⟩ N ⟨n, t, b⟩ fun σ' => headY P ops n0 i0 E LF A D ds tr sg (k + 1) m l σ' c K) (headOp P ⟨dst, op, T, pos, af, none⟩ ⟨n, t, b⟩ fun σ' => headY P ops n0 i0 E LF A D ds tr sg (k + 1) m l σ' c K))) := by
  rw [selK_ite, selK_ite]
  show (if E.contains k = true then _ else if LF.contains k = true then _ else _) = _
  cases lookA A k <;> rfl
@[congr] theorem AllocK_congr {o : Oper} {N : Nat} {σ σ' : St} {K : St → Prop} (h : mkd σ = σ') : AllocK P o N σ K = AllocK P o N σ' K := by subst_vars; rfl
@[go_sem] theorem AllocK_eq {N : Nat} : AllocK P ⟨some d, .alloc T, k, pos, af, none⟩ N ⟨n, t, b⟩ K = andK (d < n) (caseO (tinfo P T) fun q => caseO q.2.2 fun z => andK (zeroOk q.1 z = true) (caseO b[N]? fun cs => andK (cs = List.replicate q.1 .any) (K (St.put ⟨n, t, b⟩ (some d) (.pb N 0))))) := by
  unfold AllocK AllocP andK caseO
  apply propext
  constructor
  · rintro ⟨d', hd, h1, ⟨_, _, T', q, z, h3, h4, h5, h6, h7⟩, h8⟩
    cases hd; cases h3
    exact ⟨h1, q, h4, z, h5, h6, _, h7, rfl, h8⟩
  · rintro ⟨h1, q, h4, z, h5, h6, cs, h7, rfl, h8⟩
    exact ⟨d, rfl, h1, ⟨rfl, rfl, T, q, z, rfl, h4, h5, h6, h7⟩, h8⟩
attribute [go_sem] freeOthersD freeButD hasD lookA keptOk pbBut keptFree noPbT noPbB noPb noVar anyB
end
end Go.AM

/-! ## CmZ -/
namespace Go.AM
open Go Go.Proofs Go.RowKit

/-! ### the numbers that the dice give, one after the other -/
def rollA (l : List Int) (at_ : Nat) : Nat → Nat
  | 0 => at_
  | n + 1 => pickA l (rollA l at_ n)
def rollV (l : List Int) (at_ : Nat) (most : Int) : Nat → List Int
  | 0 => []
  | n + 1 => rollV l at_ most n ++ [pickV l (rollA l at_ n) (most + 1)]
theorem rollA_le {l : List Int} {at_ : Nat} (h : at_ ≤ l.length) : ∀ n, rollA l at_ n ≤ l.length
  | 0 => h
  | n + 1 => pickA_le (rollA_le h n)
theorem rollV_len {l : List Int} {at_ : Nat} {most : Int} : ∀ n, (rollV l at_ most n).length = n
  | 0 => rfl
  | n + 1 => by rw [rollV, List.length_append, rollV_len n]; rfl
theorem rollV_low {l : List Int} {at_ : Nat} {most : Int} (h : 0 ≤ most) : ∀ n, ∀ x ∈ rollV l at_ most n, 0 ≤ x ∧ x ≤ most
  | 0 => fun x hx => by cases hx
  | n + 1 => fun x hx => by
    rw [rollV, List.mem_append] at hx
    rcases hx with hx | hx
    · exact rollV_low h n x hx
    · simp only [List.mem_cons, List.not_mem_nil, or_false] at hx
      have := pickV_lt (l := l) (at_ := rollA l at_ n) (n := most + 1) (by omega)
      subst hx; omega

/-- what a callee hands back, and its variables, never written again -/
theorem Con.freezeB {P : Program} {f : FuncId} {args : List AV} {bx : List (List AV)} {post : AV → List (List AV) → Prop} (p : Nat → Bool) (h : Con P f args bx post) : Con P f args bx fun r' b' => ∃ r b, post r b ∧ r' = r.freeze p ∧ b' = b.map fun cs => cs.map (AV.freeze p) :=
  ⟨h.1, fun G w vs h1 h2 h3 h4 h5 => (h.2 G w vs h1 h2 h3 h4 h5).mono fun e w' ⟨v, r, bx', G', he, hq, hr, hg, hbx, hlt, e1, e2, e3, e4, e5, e6⟩ => by
    have hbox : ∀ k i, freezeG p G' k = .box i ↔ G' k = .box i := fun k i => by
      unfold freezeG; split
      · rename_i t ht; split <;> simp [ht]
      · exact Iff.rfl
    refine ⟨v, _, bx'.map (fun cs => cs.map (AV.freeze p)), freezeG p G', he, ⟨r, bx', hq, rfl, rfl⟩, hr.freeze, hg.freeze, ⟨fun i vs hv => by simp [noGh] at hv, fun i cs hi => ?_⟩, fun k i hk => by simpa using hlt k i ((hbox k i).1 hk), e1, e2, e3, e4, fun k hk => ?_, e6⟩
    · rw [List.getElem?_map] at hi
      cases hc : bx'[i]? with
      | none => simp [hc] at hi
      | some cs' =>
        simp [hc] at hi; subst hi
        exact (hbx.cell i cs' hc).map (fun x v hr => hr.freeze) (fun k hk => ⟨(hbox k i).2 hk, rfl⟩) fun h0 k hk => h0 k ((hbox k i).1 hk)
    · have := e5 k hk
      unfold freezeG
      split
      · rename_i t ht; rw [this] at ht; exact absurd ht (h2 k t)
      · exact this⟩

set_option maxRecDepth 100000 in
theorem con_ints (l : List Int) (at_ : Nat) (n : Nat) (most : Int) (hs : Seeds l) (ha : at_ ≤ l.length) (hn : n ≤ 6) (hm : 0 ≤ most ∧ most ≤ 100) : Con Tryz.prog 63 [.pb 0 0, vi n, vi most] [diceA l at_]
    fun r b => r = vs 2 (rollV l at_ most n) ∧ b = [diceA l (rollA l at_ n)] := by
  refine Con.intro Tryz.func63 rfl Tryz.ntmps63 Tryz.results63 (by kernel_rfl) (by simp) 1 (by simp) ?_
  simp only [go_sem]
  refine LoopK.intro (fun i : Nat => ⟨22, [(0, .pb 0 0), (1, vi n), (2, vi most), (7, vs 1344 (rollV l at_ most i)), (8, vi i)], [diceA l (rollA l at_ i)]⟩)
    (fun i => n - i) (fun i => i ≤ n) 0 (by omega) ?_ ?_
  · simp only [go_sem, rollV, rollA, List.map_nil]
  rintro i hi
  by_cases h : i < n
  · have hw : IntKind.i64.wrap (i + 1) = i + 1 := wrap_in (by omega) (by omega)
    have hw2 : IntKind.i64.wrap (most + 1) = most + 1 := wrap_in (by omega) (by omega)
    simp only [go_sem, h, hw2]
    refine CallU.boxes (i := 0) (is := []) (bx0 := [diceA l (rollA l at_ i)]) (con_pickF l (rollA l at_ i) (most + 1) hs (rollA_le ha i) (by omega)) (by simp only [go_sem]) (by simp only [go_sem]) (by simp only [go_sem]) (by simp only [go_sem]) (by simp only [go_sem]) ?_
    rintro r b ⟨rfl, rfl⟩
    have hr : roomFor ((rollV l at_ most i).length + 1) 8 := by rw [rollV_len]; simp only [roomFor]; omega
    simp only [go_sem, hr, hw]
    refine roundK.intro (i + 1) (by omega) (by omega) ?_
    simp only [go_sem, rollV, rollA, List.map_append, List.map_cons, List.map_nil]
  · have e : i = n := by omega
    subst e
    simp only [go_sem, h]
theorem con_intsF (l : List Int) (at_ : Nat) (n : Nat) (most : Int) (hs : Seeds l) (ha : at_ ≤ l.length) (hn : n ≤ 6) (hm : 0 ≤ most ∧ most ≤ 100) : Con Tryz.prog 63 [.pb 0 0, vi n, vi most] [diceA l at_]
    fun r b => r = vs 0 (rollV l at_ most n) ∧ b = [diceA l (rollA l at_ n)] :=
  ((con_ints l at_ n most hs ha hn hm).freezeB fun _ => true).mono fun r b ⟨r1, b1, ⟨h1, h2⟩, h3, h4⟩ => by
    subst h1; subst h2; subst h3; subst h4
    refine ⟨?_, ?_⟩
    · rfl
    · rfl

/-! ### configurations as they are built: what is empty is nil -/
def kidN (n : Int) : AV := .ag [vi n, .nil]
def cfgN (t s : Nat) (v : List Int) : AV := .ag [vi 0, .sl t 2 (((s : Int) :: v).map kidN)]
attribute [go_sem] kidN cfgN

set_option maxRecDepth 100000 in
theorem con_config28 (s : Nat) (v : List Int) (hv : v.length ≤ 100) : Con Tryz.prog 21 [vi s, vs 0 v] [] fun r _ => r = cfgN 2 s v := by
  refine Con.intro Tryz.func21 rfl Tryz.ntmps21 Tryz.results21 (by kernel_rfl) (by simp) 0 (by simp) ?_
  simp only [go_sem]
  refine LoopK.intro (fun i : Nat => ⟨28, [(0, vi s), (1, vs 0 v), (4, .pb 0 0), (5, .pb 1 0), (6, vi i)], [[.any, .any], [vi 0, .sl 640 2 (((s : Int) :: v.take i).map kidN)]]⟩)
    (fun i => v.length - i) (fun i => i ≤ v.length) 0 (by omega) ?_ ?_
  · simp only [go_sem, List.take_zero, List.map_cons, List.map_nil]
  rintro i hi
  by_cases h : i < v.length
  · have hw : IntKind.i64.wrap (i + 1) = i + 1 := wrap_in (by omega) (by omega)
    have hg := getv h
    have e : v.take (i + 1) = v.take i ++ [v[i]!] := by rw [List.take_add_one, List.getElem?_eq_getElem h, getElem!_pos v i h]; rfl
    simp only [go_sem, h, List.map_cons]
    refine DrawK.walk 8 mixed (by kernel_rfl) ?_
    simp only [go_sem, h, hw, hg, List.map_cons]
    refine ⟨by simp only [roomFor, List.length_take]; omega, roundK.intro (i + 1) (by omega) (by omega) ?_⟩
    simp only [go_sem, e, List.map_append, List.map_cons, List.map_nil]
  · have e : i = v.length := by omega
    subst e
    simp only [go_sem, h, List.take_length, List.map_cons]

/-- a configuration of the dice -/
def rollS (l : List Int) (at_ ns : Nat) : Nat := (pickV l at_ ns).toNat
theorem rollS_lt {l : List Int} {at_ ns : Nat} (h : 1 ≤ ns) : rollS l at_ ns < ns ∧ pickV l at_ ns = rollS l at_ ns := by
  have := pickV_lt (l := l) (at_ := at_) (n := ns) (by omega)
  unfold rollS; omega
set_option maxRecDepth 100000 in
theorem con_Config (l : List Int) (at_ : Nat) (m : MD) (hs : Seeds l) (ha : at_ ≤ l.length) (hk : m.kind = 1) (h1 : 1 ≤ m.states.length ∧ m.states.length ≤ 8) (h2 : 1 ≤ m.places.length ∧ m.places.length ≤ 6) :
    Con Tryz.prog 38 [.pb 0 0, vM m] [diceA l at_]
    fun r b => r = cfgN 2 (rollS l at_ m.states.length) (rollV l (pickA l at_) 3 m.places.length) ∧ b = [diceA l (rollA l (pickA l at_) m.places.length)] := by
  refine Con.intro Tryz.func38 rfl Tryz.ntmps38 Tryz.results38 (by kernel_rfl) (by simp) 1 (by simp) ?_
  have hN := rollS_lt (l := l) (at_ := at_) h1.1
  have ei := con_intsF l (pickA l at_) m.places.length 3 hs (pickA_le ha) h2.2 (by omega)
  unfold vM cM
  rw [hk]
  simp only [go_sem, vss]
  refine DrawK.effs0 0 [4, 9] [] 10 (.one 10 (.one 11 .done)) none (diceA l at_) mixed (by kernel_rfl) (by kernel_rfl) (by simp only [go_sem]) (by simp only [go_sem]) ?_
  simp only [go_sem, List.length_map]
  refine EffK.mk (con_pickF l at_ m.states.length hs ha (by omega)) (by simp only [go_sem]) (by simp only [go_sem]) (by simp only [go_sem]) (by simp only [go_sem]) ?_
  simp only [go_sem, List.length_map]
  refine EffK.mk ei (by simp only [go_sem]) (by simp only [go_sem]) (by simp only [go_sem]) (by simp only [go_sem]) ?_
  simp only [go_sem, hN.2]
  refine ⟨CallU.free (con_config28 (rollS l at_ m.states.length) (rollV l (pickA l at_) 3 m.places.length) (by rw [rollV_len]; omega)) (by simp only [go_sem]) (by simp only [go_sem]) ?_, ?_⟩
  · rintro r bx rfl
    simp only [go_sem]
  · exact trivial
end Go.AM

/-! ## CmE -/
namespace Go.AM
open Go Go.Proofs Go.RowKit

set_option maxRecDepth 100000 in
theorem con_between (x low high : Int) : Con Tryz.prog 162 [vi x, vi low, vi high] [] fun r _ => r = vb (betweenB x low high) := by
  refine Con.intro Tryz.func162 rfl Tryz.ntmps162 Tryz.results162 (by kernel_rfl) (by simp) 0 (by simp) ?_
  unfold betweenB
  by_cases h1 : low ≤ x
  · by_cases h2 : x ≤ high
    · simp only [go_sem, h1, h2, Bool.and_true]
    · simp only [go_sem, h1, h2, Bool.and_false]
  · simp only [go_sem, h1, Bool.false_and]
set_option maxRecDepth 100000 in
theorem con_index (x : Int) (n : Int) (h1 : 0 ≤ n) (h2 : n ≤ 9223372036854775807) : Con Tryz.prog 209 [vi x, vi n] [] fun r _ => r = vb (decide (0 ≤ x) && decide (x < n)) := by
  refine Con.intro Tryz.func209 rfl Tryz.ntmps209 Tryz.results209 (by kernel_rfl) (by simp) 0 (by simp) ?_
  have hw : IntKind.i64.wrap (n - 1) = n - 1 := wrap_in (by omega) (by omega)
  have e : betweenB x 0 (n - 1) = (decide (0 ≤ x) && decide (x < n)) := by
    unfold betweenB
    congr 1
    exact decide_eq_decide.2 (by omega)
  simp only [go_sem, hw]
  refine CallU.free (con_between x 0 (n - 1)) (by simp only [go_sem]) (by simp only [go_sem]) ?_
  rintro r bx rfl
  simp only [go_sem, e]
set_option maxRecDepth 100000 in
theorem con_rest (n m : Int) (hm : 0 < m) (hm2 : m ≤ 1048576) : Con Tryz.prog 101 [vi n, vi m] [] fun r _ => r = vi (restF n m) := by
  refine Con.intro Tryz.func101 rfl Tryz.ntmps101 Tryz.results101 (by kernel_rfl) (by simp) 0 (by simp) ?_
  have hz : ¬ m = 0 := by omega
  have b1 := Int.lt_tmod_of_pos n hm
  have b2 := Int.tmod_lt_of_pos n hm
  have hw1 : IntKind.i64.wrap (Int.tmod n m) = Int.tmod n m := wrap_in (by omega) (by omega)
  have hw2 : IntKind.i64.wrap (Int.tmod n m + m) = Int.tmod n m + m := wrap_in (by omega) (by omega)
  have b3 := Int.lt_tmod_of_pos (Int.tmod n m + m) hm
  have b4 := Int.tmod_lt_of_pos (Int.tmod n m + m) hm
  have hw3 : IntKind.i64.wrap (Int.tmod (Int.tmod n m + m) m) = Int.tmod (Int.tmod n m + m) m := wrap_in (by omega) (by omega)
  simp only [go_sem, hz, hw2, restF]

theorem sum_take : ∀ {c v : List Int} {i : Nat}, i < c.length → i < v.length → sumF (c.take (i + 1)) (v.take (i + 1)) = sumF (c.take i) (v.take i) + c[i]! * v[i]!
  | c :: cs, v :: vs, 0, _, _ => by simp [sumF]
  | c :: cs, v :: vs, i + 1, h1, h2 => by
    rw [List.take_succ_cons, List.take_succ_cons, List.take_succ_cons, List.take_succ_cons, sumF, sumF, sum_take (by simpa using h1) (by simpa using h2), List.getElem!_cons_succ, List.getElem!_cons_succ]
    omega
  | [], _, _, h, _ => by simp at h
  | _ :: _, [], _, _, h => by simp at h
theorem sum_cut : ∀ {c v : List Int}, c.length ≤ v.length → sumF c (v.take c.length) = sumF c v
  | [], _, _ => rfl
  | c :: cs, v :: vs, h => by rw [List.length_cons, List.take_succ_cons, sumF, sumF, sum_cut (by simpa using h)]
  | _ :: _, [], h => by simp at h
/-- small enough -/
def SmallI (B : Int) (l : List Int) : Prop := ∀ x ∈ l, -B ≤ x ∧ x ≤ B
theorem mul_small {c x : Int} (hc : -4 ≤ c ∧ c ≤ 4) (hx : -1048576 ≤ x ∧ x ≤ 1048576) : -4194304 ≤ c * x ∧ c * x ≤ 4194304 := by
  obtain h | h | h | h | h | h | h | h | h : c = -4 ∨ c = -3 ∨ c = -2 ∨ c = -1 ∨ c = 0 ∨ c = 1 ∨ c = 2 ∨ c = 3 ∨ c = 4 := by omega
  all_goals (subst h; omega)
theorem sum_small : ∀ {c v : List Int}, SmallI 4 c → SmallI 1048576 v → -(4194304 * (c.length : Int)) ≤ sumF c v ∧ sumF c v ≤ 4194304 * c.length
  | [], v, _, _ => by simp [sumF]
  | c :: cs, [], _, _ => by simp only [sumF, List.length_cons]; omega
  | c :: cs, x :: vs, h1, h2 => by
    have h3 := sum_small (c := cs) (v := vs) (fun y hy => h1 y (List.mem_cons_of_mem _ hy)) (fun y hy => h2 y (List.mem_cons_of_mem _ hy))
    have h4 := mul_small (h1 c (List.mem_cons_self ..)) (h2 x (List.mem_cons_self ..))
    simp only [sumF, List.length_cons]; omega
set_option maxRecDepth 100000 in
theorem con_sum (c v : List Int) (hl : c.length ≤ v.length) (h6 : c.length ≤ 1000000) (hc : SmallI 4 c) (hv : SmallI 1048576 v) : Con Tryz.prog 99 [vs 0 c, vs 0 v] [] fun r _ => r = vi (sumF c v) := by
  refine Con.intro Tryz.func99 rfl Tryz.ntmps99 Tryz.results99 (by kernel_rfl) (by simp) 0 (by simp) ?_
  simp only [go_sem]
  refine LoopK.intro (fun i : Nat => ⟨25, [(1, vs 0 v), (5, vi (sumF (c.take i) (v.take i))), (8, vs 0 c), (9, vi c.length), (10, vi i)], []⟩)
    (fun i => c.length - i) (fun i => i ≤ c.length) 0 (by omega) ?_ ?_
  · simp only [go_sem, List.take_zero]
    all_goals exact leV_refl _
  rintro i hi
  by_cases h : i < c.length
  · have h2 : i < v.length := by omega
    have g1 := getv h
    have g2 := getv h2
    have hw : IntKind.i64.wrap (i + 1) = i + 1 := wrap_in (by omega) (by omega)
    have m1 := mul_small (hc _ (mem_bang h)) (hv _ (mem_bang h2))
    have hw1 : IntKind.i64.wrap (c[i]! * v[i]!) = c[i]! * v[i]! := wrap_in (by omega) (by omega)
    have m2 := sum_small (c := c.take (i + 1)) (v := v.take (i + 1)) (fun y hy => hc y (List.mem_of_mem_take hy)) (fun y hy => hv y (List.mem_of_mem_take hy))
    have e := sum_take h h2
    have m3 : ((c.take (i + 1)).length : Int) ≤ 1000000 := by rw [List.length_take]; omega
    have hw2 : IntKind.i64.wrap (sumF (c.take i) (v.take i) + c[i]! * v[i]!) = sumF (c.take (i + 1)) (v.take (i + 1)) := by rw [← e]; exact wrap_in (by omega) (by omega)
    simp only [go_sem, h, h2, g1, g2, hw, hw1, hw2]
    refine roundK.intro (i + 1) (by omega) (by omega) ?_
    simp only [go_sem]
  · have hi2 : i = c.length := by omega
    have e : sumF (c.take i) (v.take i) = sumF c v := by rw [hi2, List.take_length]; exact sum_cut hl
    simp only [go_sem, h, e]
end Go.AM

/-! ## CmF -/
namespace Go.AM
open Go Go.Proofs Go.RowKit

def vAtom (a : AtomD) : AV := .ag [vs 0 a.coefs, vi a.mod, vs 0 a.values]
attribute [go_sem] vAtom
set_option maxRecDepth 100000 in
theorem con_follows (a : AtomD) (n : Int) (s : Nat) (hs : s < a.values.length) (hm : 0 ≤ a.mod) (hm2 : a.mod ≤ 8) : Con Tryz.prog 154 [vAtom a, vi n, vi s] [] fun r _ => r = vb (followsF a n s) := by
  refine Con.intro Tryz.func154 rfl Tryz.ntmps154 Tryz.results154 (by kernel_rfl) (by simp) 0 (by simp) ?_
  have g := getv hs
  by_cases h1 : a.values[s]! = 1099511627776
  · have e : followsF a n s = false := by unfold followsF omegaI; rw [if_pos h1]
    simp only [go_sem, hs, g, h1, e]
  have h1' : (a.values[s]! == 1099511627776) = false := beq_eq_false_iff_ne.2 h1
  by_cases h2 : a.mod = 0
  · have e : followsF a n s = decide (a.values[s]! ≤ n) := by unfold followsF omegaI; rw [if_neg h1, if_pos h2]
    simp only [go_sem, hs, g, h1', h2, e]
  · have e : followsF a n s = (restF n a.mod == a.values[s]!) := by unfold followsF omegaI; rw [if_neg h1, if_neg h2]
    have h2' : (a.mod == 0) = false := beq_eq_false_iff_ne.2 h2
    simp only [go_sem, hs, g, h1', h2']
    refine CallU.free (con_rest n a.mod (by omega) (by omega)) (by simp only [go_sem]) (by simp only [go_sem]) ?_
    rintro r bx rfl
    simp only [go_sem, e]
end Go.AM

/-! ## CmG -/
namespace Go.AM
open Go Go.Proofs Go.RowKit

set_option maxRecDepth 100000 in
theorem con_numbers (n : Int) (x : CV) (l : List CV) (hl : l.length ≤ 1000000) : Con Tryz.prog 100 [.ag [vi n, .sl 0 2 ((x :: l).map vV)]] [] fun r _ => r = vs 2 (l.map CV.n) := by
  refine Con.intro Tryz.func100 rfl Tryz.ntmps100 Tryz.results100 (by kernel_rfl) (by simp) 0 (by simp) ?_
  have hd : (1 : Nat) ≤ (x :: l).length := by simp
  have ht : List.take l.length (l.map vV) = l.map vV := List.take_of_length_le (by simp)
  simp only [go_sem, List.map_cons]
  refine ⟨Nat.le_refl _, ?_⟩
  rw [ht]
  refine LoopK.intro (fun i : Nat => ⟨21, [(3, vs 1216 ((l.take i).map CV.n)), (8, .sl 0 2 (l.map vV)), (9, vi l.length), (10, vi i)], [vi n, .sl 0 2 ((x :: l).map vV)] :: Rk 2 i⟩)
    (fun i => l.length - i) (fun i => i ≤ l.length) 0 (by omega) ?_ ?_
  · simp only [go_sem]
    all_goals exact leB_self _
  rintro i hi
  by_cases h : i < l.length
  · have hg := getvV h
    have hw : IntKind.i64.wrap (i + 1) = i + 1 := wrap_in (by omega) (by omega)
    have hB := Rk_len 2 i
    have n0 := fun L : List (List AV) => app_at0 (L := L) hB
    have s0 := fun (L : List (List AV)) z => app_set0 (L := L) (z := z) hB
    have e : (l.take (i + 1)).map CV.n = (l.take i).map CV.n ++ [l[i]!.n] := by
      rw [List.take_add_one, List.getElem?_eq_getElem h, getElem!_pos l i h, List.map_append]; rfl
    simp only [go_sem, h, hg, hw, hB, n0, s0]
    refine ⟨by unfold roomFor; rw [List.length_take]; omega, ?_⟩
    refine roundK.intro (i + 1) (by omega) (by omega) ?_
    simp only [go_sem, Rk_succ, e]
    refine ⟨?_, leB_RkA (x := [[_, _]]) (y := [List.replicate 2 .any]) ⟨⟨leV_any _, leV_any _, trivial⟩, trivial⟩⟩
    rw [List.map_append, List.map_map]
    exact leV_refl _
  · have hi2 : i = l.length := by omega
    have e2 : l.take i = l := by rw [hi2, List.take_length]
    simp only [go_sem, h, e2]
end Go.AM

/-! ## CmH -/
namespace Go.AM
open Go Go.Proofs Go.RowKit

def u8v (c : UInt8) : AV := .sc (.int .u8 c.toNat)
attribute [go_sem] u8v vStr vss
theorem u8_low {k c : UInt8} {n : Nat} (h : k.toNat = n) : k ≤ c ↔ (n : Int) ≤ (c.toNat : Int) := UInt8.le_iff_toNat_le.trans (by rw [h]; omega)
theorem u8_high {k c : UInt8} {n : Nat} (h : k.toNat = n) : c ≤ k ↔ (c.toNat : Int) ≤ (n : Int) := UInt8.le_iff_toNat_le.trans (by rw [h]; omega)
theorem letterB_eq (c : UInt8) : letterB c = (decide ((97 : Int) ≤ (c.toNat : Int)) && decide ((c.toNat : Int) ≤ 122)) := by
  unfold letterB
  rw [decide_eq_decide.2 (u8_low (k := 97) (c := c) (n := 97) rfl), decide_eq_decide.2 (u8_high (k := 122) (c := c) (n := 122) rfl)]; rfl
theorem digitB_eq (c : UInt8) : digitB c = (decide ((48 : Int) ≤ (c.toNat : Int)) && decide ((c.toNat : Int) ≤ 57)) := by
  unfold digitB
  rw [decide_eq_decide.2 (u8_low (k := 48) (c := c) (n := 48) rfl), decide_eq_decide.2 (u8_high (k := 57) (c := c) (n := 57) rfl)]; rfl
theorem u8_eq {k c : UInt8} {n : Nat} (h : k.toNat = n) : (c == k) = (((c.toNat : Int)) == (n : Int)) := by
  rw [Bool.eq_iff_iff, beq_iff_eq, beq_iff_eq, ← UInt8.toNat_inj, h]; omega

set_option maxRecDepth 100000 in
theorem con_letter (c : UInt8) : Con Tryz.prog 235 [u8v c] [] fun r _ => r = vb (letterB c) := by
  refine Con.intro Tryz.func235 rfl Tryz.ntmps235 Tryz.results235 (by kernel_rfl) (by simp) 0 (by simp) ?_
  rw [letterB_eq]
  by_cases h1 : (97 : Int) ≤ (c.toNat : Int)
  · by_cases h2 : (c.toNat : Int) ≤ 122
    · simp only [go_sem, h1, h2, Bool.and_true]
    · simp only [go_sem, h1, h2, Bool.and_false]
  · simp only [go_sem, h1, Bool.false_and]
set_option maxRecDepth 100000 in
theorem con_digit (c : UInt8) : Con Tryz.prog 257 [u8v c] [] fun r _ => r = vb (digitB c) := by
  refine Con.intro Tryz.func257 rfl Tryz.ntmps257 Tryz.results257 (by kernel_rfl) (by simp) 0 (by simp) ?_
  rw [digitB_eq]
  by_cases h1 : (48 : Int) ≤ (c.toNat : Int)
  · by_cases h2 : (c.toNat : Int) ≤ 57
    · simp only [go_sem, h1, h2, Bool.and_true]
    · simp only [go_sem, h1, h2, Bool.and_false]
  · simp only [go_sem, h1, Bool.false_and]
set_option maxRecDepth 100000 in
theorem con_part (c : UInt8) : Con Tryz.prog 237 [u8v c] [] fun r _ => r = vb (partB c) := by
  refine Con.intro Tryz.func237 rfl Tryz.ntmps237 Tryz.results237 (by kernel_rfl) (by simp) 0 (by simp) ?_
  unfold partB
  rw [u8_eq (k := 95) (c := c) (n := 95) rfl]
  simp only [go_sem]
  refine CallU.free (con_letter c) (by simp only [go_sem]) (by simp only [go_sem]) ?_
  rintro r bx rfl
  cases h1 : letterB c
  · simp only [go_sem]
    refine CallU.free (con_digit c) (by simp only [go_sem]) (by simp only [go_sem]) ?_
    rintro r bx rfl
    cases h2 : digitB c
    · simp only [go_sem]
      all_goals simp
    · simp only [go_sem]
      all_goals simp
  · simp only [go_sem]
    all_goals simp

/-- how many bytes at the beginning p holds of -/
def runL (p : UInt8 → Bool) (l : List UInt8) : Nat := (l.takeWhile p).length
theorem run_stop {p : UInt8 → Bool} : ∀ {l : List UInt8} {i : Nat}, (∀ j, j < i → p l[j]! = true) → i ≤ l.length → (i < l.length → p l[i]! = false) → runL p l = i
  | [], i, _, h2, _ => by simp at h2; subst h2; rfl
  | x :: l, 0, _, _, h3 => by
    have := h3 (by simp)
    simp at this
    simp [runL, this]
  | x :: l, i + 1, h1, h2, h3 => by
    have hx := h1 0 (by omega)
    simp at hx
    have := run_stop (p := p) (l := l) (i := i) (fun j hj => by simpa using h1 (j + 1) (by omega)) (by simpa using h2) (fun h => by simpa using h3 (by simpa using h))
    unfold runL at *
    rw [List.takeWhile_cons, hx, if_pos rfl, List.length_cons, this]
theorem run_all {p : UInt8 → Bool} {l : List UInt8} : (runL p l == l.length) = l.all p := by
  unfold runL
  induction l with
  | nil => rfl
  | cons x l ih =>
    cases h : p x
    · simp [h]
    · simp only [List.takeWhile_cons, h, if_true, List.length_cons, List.all_cons, Bool.true_and]
      rw [← ih]
      rw [Bool.eq_iff_iff]; simp
theorem ba_get {s : ByteArray} {i : Nat} (h : i < s.size) : s[i]? = some s.data.toList[i]! := by
  rw [getElem?_pos s i h]
  congr 1
  have h2 : i < s.data.toList.length := by simpa using h
  rw [getElem!_pos s.data.toList i h2, Array.getElem_toList]; rfl
theorem ba_len (s : ByteArray) : s.data.toList.length = s.size := Array.length_toList
set_option maxRecDepth 100000 in
theorem con_run (s : ByteArray) (f : FuncId) (p : UInt8 → Bool) (hf : ∀ c, Con Tryz.prog f [u8v c] [] fun r _ => r = vb (p c)) (hs : s.size ≤ 9223372036854775806) : Con Tryz.prog 236 [vStr s, .fn f []] [] fun r _ => r = vi (runL p s.data.toList) := by
  refine Con.intro Tryz.func236 rfl Tryz.ntmps236 Tryz.results236 (by kernel_rfl) (by simp) 0 (by simp) ?_
  simp only [go_sem]
  refine LoopK.intro (fun i : Nat => ⟨20, [(0, vStr s), (1, .fn f []), (4, vi 0), (5, vi i)], []⟩)
    (fun i => s.size - i) (fun i => i ≤ s.size ∧ ∀ j, j < i → p s.data.toList[j]! = true) 0 ⟨by omega, fun j hj => by omega⟩ ?_ ?_
  · simp only [go_sem]
    all_goals exact leV_refl _
  rintro i ⟨hi, hb⟩
  by_cases h : i < s.size
  · have hg := ba_get h
    have hw : IntKind.i64.wrap (i + 1) = i + 1 := wrap_in (by omega) (by omega)
    simp only [go_sem, h, hg]
    refine CallU.free (hf s.data.toList[i]!) (by simp only [go_sem]) (by simp only [go_sem]) ?_
    rintro r bx rfl
    cases hp : p s.data.toList[i]!
    · simp only [go_sem]
      rw [run_stop hb (by rw [ba_len]; exact hi) (fun _ => hp)]
    · simp only [go_sem, hw]
      refine roundK.intro (i + 1) ⟨by omega, fun j hj => ?_⟩ (by omega) ?_
      · by_cases hji : j = i
        · subst hji; exact hp
        · exact hb j (by omega)
      · simp only [go_sem]
  · simp only [go_sem, h]
    rw [run_stop hb (by rw [ba_len]; exact hi) (fun h' => absurd (by rw [ba_len] at h'; exact h') h)]
theorem size_zero {s : ByteArray} : (s.toList == ByteArray.toList { data := #[] }) = decide (s.size = 0) := by
  rw [ByteArray.toList_eq, ByteArray.toList_eq, ← ba_len]
  cases h : s.data.toList <;> simp
set_option maxRecDepth 100000 in
theorem con_word (s : ByteArray) (hs : s.size ≤ 9223372036854775806) : Con Tryz.prog 206 [vStr s] [] fun r _ => r = vb (wordB s) := by
  refine Con.intro Tryz.func206 rfl Tryz.ntmps206 Tryz.results206 (by kernel_rfl) (by simp) 0 (by simp) ?_
  have e : wordB s = (decide (0 < s.size) && decide (s.size ≤ 12) && letterB s.data.toList[0]! && (runL partB s.data.toList == s.data.toList.length)) := by
    rw [run_all]
    unfold wordB
    rw [ByteArray.toList_eq]
    by_cases h0 : 0 < s.size
    · have h2 := ba_get h0
      congr 2
      rw [show s.get! 0 = s.data.toList[0]! from ?_]
      have h3 : 0 < s.data.toList.length := by rw [ba_len]; exact h0
      rw [getElem!_pos s.data.toList 0 h3, Array.getElem_toList]
      show s.data[0]! = _
      rw [getElem!_pos s.data 0 h0]
    · rw [decide_eq_false h0]; simp
  rw [e]
  by_cases h0 : 0 < s.size
  · have h0' : ¬ s.size = 0 := by omega
    have hg := ba_get h0
    by_cases h1 : (s.size : Int) ≤ 12
    · have h1' : s.size ≤ 12 := by omega
      simp only [go_sem, size_zero, h0', h1]
      simp only [go_sem, hg]
      refine CallU.free (con_letter s.data.toList[0]!) (by simp only [go_sem]) (by simp only [go_sem]) ?_
      rintro r bx rfl
      cases h2 : letterB s.data.toList[0]!
      · simp only [go_sem]
        all_goals simp
      · simp only [go_sem]
        refine CallU.free (con_run s 237 partB con_part hs) (by simp only [go_sem]) (by simp only [go_sem]) ?_
        rintro r bx rfl
        simp only [go_sem, ba_len, h0, h1', decide_true, Bool.true_and]
        all_goals congr 2
    · have h1' : ¬ s.size ≤ 12 := by omega
      simp only [go_sem, size_zero, h0', h1, h1']
      all_goals simp
  · have h0' : s.size = 0 := by omega
    simp only [go_sem, size_zero, h0']
    all_goals simp
end Go.AM

/-! ## CmI -/
namespace Go.AM
open Go Go.Proofs Go.RowKit

theorem mem_bangI {α : Type} [Inhabited α] {l : List α} {i : Nat} (h : i < l.length) : l[i]! ∈ l := by rw [getElem!_pos l i h]; exact List.getElem_mem h

/-- a function value that tells by p, one call at a time -/
def TellsI (f : FuncId) (caps : List AV) (l : List Int) (p : Int → Bool) : Prop := ∀ x ∈ l, Con Tryz.prog f ([vi x] ++ caps) [] fun r _ => r = .sc (.bool (p x))
set_option maxRecDepth 100000 in
theorem con_indexInt (l : List Int) (f : FuncId) (caps : List AV) (p : Int → Bool) (hc : mapTops (viewV []) caps = caps) (hf : TellsI f caps l p) (hl : l.length ≤ 9223372036854775806) : Con Tryz.prog 138 [vs 0 l, .fn f caps] [] fun r _ => r = vi (findI p l) := by
  refine Con.intro Tryz.func138 rfl Tryz.ntmps138 Tryz.results138 (by kernel_rfl) (by simp) 0 (by simp) ?_
  simp only [go_sem]
  refine LoopK.intro (fun i : Nat => ⟨19, [(0, vs 0 l), (1, .fn f caps), (7, vi l.length), (8, vi i)], []⟩)
    (fun i => l.length - i) (fun i => i ≤ l.length ∧ ∀ j, j < i → p l[j]! = false) 0 ⟨by omega, fun j hj => by omega⟩ ?_ ?_
  · simp only [go_sem]
    all_goals exact leV_refl _
  · rintro i ⟨hi, hb⟩
    by_cases h : i < l.length
    · have hg := getv h
      have hw : IntKind.i64.wrap (i + 1) = i + 1 := wrap_in (by omega) (by omega)
      simp only [go_sem, h, hg]
      refine CallU.look (hf l[i]! (mem_bangI h)) (by simp only [go_sem]) (by simp only [go_sem, hc]) ?_
      rintro r bx rfl
      cases hp : p l[i]!
      · simp only [go_sem, hw]
        refine roundK.intro (i + 1) ⟨by omega, fun j hj => ?_⟩ (by omega) ?_
        · by_cases hji : j = i
          · subst hji; exact hp
          · exact hb j (by omega)
        · simp only [go_sem]
      · simp only [go_sem]
        rw [findI_stop h hb hp]
    · simp only [go_sem, h]
      rw [findI_none (fun j hj => hb j (by omega))]
set_option maxRecDepth 100000 in
theorem con_containsInt (l : List Int) (f : FuncId) (caps : List AV) (p : Int → Bool) (hc : mapTops (viewV []) caps = caps) (hf : TellsI f caps l p) (hl : l.length ≤ 9223372036854775806) : Con Tryz.prog 78 [vs 0 l, .fn f caps] [] fun r _ => r = .sc (.bool (l.any p)) := by
  refine Con.intro Tryz.func78 rfl Tryz.ntmps78 Tryz.results78 (by kernel_rfl) (by simp) 0 (by simp) ?_
  simp only [go_sem]
  refine CallU.look (con_indexInt l f caps p hc hf hl) (by simp only [go_sem]) (by simp only [go_sem]) ?_
  rintro r bx rfl
  simp only [go_sem, findI_ge]

/-- rules -/
def TellsR (f : FuncId) (caps : List AV) (l : List RD) (p : RD → Bool) : Prop := ∀ x ∈ l, Con Tryz.prog f ([vRule x] ++ caps) [] fun r _ => r = .sc (.bool (p x))
attribute [go_sem] vRule
set_option maxRecDepth 100000 in
theorem con_indexRule (l : List RD) (f : FuncId) (caps : List AV) (p : RD → Bool) (hc : mapTops (viewV []) caps = caps) (hf : TellsR f caps l p) (hl : l.length ≤ 9223372036854775806) : Con Tryz.prog 208 [.sl 0 14 (l.map vRule), .fn f caps] [] fun r _ => r = vi (findI p l) := by
  refine Con.intro Tryz.func208 rfl Tryz.ntmps208 Tryz.results208 (by kernel_rfl) (by simp) 0 (by simp) ?_
  simp only [go_sem]
  refine LoopK.intro (fun i : Nat => ⟨19, [(0, .sl 0 14 (l.map vRule)), (1, .fn f caps), (7, vi l.length), (8, vi i)], []⟩)
    (fun i => l.length - i) (fun i => i ≤ l.length ∧ ∀ j, j < i → p l[j]! = false) 0 ⟨by omega, fun j hj => by omega⟩ ?_ ?_
  · simp only [go_sem]
    all_goals exact leV_refl _
  · rintro i ⟨hi, hb⟩
    by_cases h : i < l.length
    · have hg := getRule h
      have hw : IntKind.i64.wrap (i + 1) = i + 1 := wrap_in (by omega) (by omega)
      simp only [go_sem, h, hg]
      refine CallU.look (hf l[i]! (mem_bangI h)) (by simp only [go_sem]) (by simp only [go_sem, hc]) ?_
      rintro r bx rfl
      cases hp : p l[i]!
      · simp only [go_sem, hw]
        refine roundK.intro (i + 1) ⟨by omega, fun j hj => ?_⟩ (by omega) ?_
        · by_cases hji : j = i
          · subst hji; exact hp
          · exact hb j (by omega)
        · simp only [go_sem]
      · simp only [go_sem]
        rw [findI_stop h hb hp]
    · simp only [go_sem, h]
      rw [findI_none (fun j hj => hb j (by omega))]
set_option maxRecDepth 100000 in
theorem con_containsRule (l : List RD) (f : FuncId) (caps : List AV) (p : RD → Bool) (hc : mapTops (viewV []) caps = caps) (hf : TellsR f caps l p) (hl : l.length ≤ 9223372036854775806) : Con Tryz.prog 166 [.sl 0 14 (l.map vRule), .fn f caps] [] fun r _ => r = .sc (.bool (l.any p)) := by
  refine Con.intro Tryz.func166 rfl Tryz.ntmps166 Tryz.results166 (by kernel_rfl) (by simp) 0 (by simp) ?_
  simp only [go_sem]
  refine CallU.look (con_indexRule l f caps p hc hf hl) (by simp only [go_sem]) (by simp only [go_sem]) ?_
  rintro r bx rfl
  simp only [go_sem, findI_ge]

set_option maxRecDepth 100000 in
theorem con_all1 (x : Int) (g : FuncId) (caps : List AV) (p : Int → Bool) (hc : mapTops (viewV []) caps = caps) (hf : Con Tryz.prog g ([vi x] ++ caps) [] fun r _ => r = .sc (.bool (p x))) : Con Tryz.prog 246 [vi x, .fp [.fn g caps] 0] [] fun r _ => r = .sc (.bool (!p x)) := by
  refine Con.intro Tryz.func246 rfl Tryz.ntmps246 Tryz.results246 (by kernel_rfl) (by simp) 0 (by simp) ?_
  simp only [go_sem]
  refine CallU.look hf (by simp only [go_sem]) (by simp only [go_sem, hc]) ?_
  rintro r bx rfl
  simp only [go_sem]
theorem any_not {α : Type} (p : α → Bool) : ∀ l : List α, (!l.any fun x => !p x) = l.all p
  | [] => rfl
  | x :: l => by rw [List.any_cons, List.all_cons, ← any_not p l]; cases p x <;> simp
set_option maxRecDepth 100000 in
theorem con_all (l : List Int) (g : FuncId) (caps : List AV) (p : Int → Bool) (hc : mapTops (viewV []) caps = caps) (hf : TellsI g caps l p) (hl : l.length ≤ 9223372036854775806) : Con Tryz.prog 215 [vs 0 l, .fn g caps] [] fun r _ => r = .sc (.bool (l.all p)) := by
  refine Con.intro Tryz.func215 rfl Tryz.ntmps215 Tryz.results215 (by kernel_rfl) (by simp) 1 (by simp) ?_
  simp only [go_sem]
  refine CallU.look (con_containsInt l 246 [.fp [.fn g caps] 0] (fun x => !p x) (by simp only [go_sem]) (fun x hx => con_all1 x g caps p hc (hf x hx)) hl) (by simp only [go_sem]) (by simp only [go_sem]) ?_
  rintro r bx rfl
  simp only [go_sem, any_not]

theorem beq_cut {a b : List Int} (h : a.length ≠ b.length) : (a == b) = false := by
  rw [beq_eq_false_iff_ne]; intro e; rw [e] at h; exact h rfl
theorem eqI_stop {a b : List Int} {i : Nat} (h : a[i]! ≠ b[i]!) : (a == b) = false := by
  rw [beq_eq_false_iff_ne]; intro e; rw [e] at h; exact h rfl
theorem eqI_all {a b : List Int} (hl : a.length = b.length) (h : ∀ j, j < a.length → a[j]! = b[j]!) : (a == b) = true := by
  rw [beq_iff_eq]
  apply List.ext_getElem hl
  intro i h1 h2
  have := h i h1
  rw [getElem!_pos a i h1, getElem!_pos b i h2] at this; exact this
set_option maxRecDepth 100000 in
theorem con_equalInt (a b : List Int) (hl : a.length ≤ 9223372036854775806) : Con Tryz.prog 76 [vs 0 a, vs 0 b] [] fun r _ => r = .sc (.bool (a == b)) := by
  refine Con.intro Tryz.func76 rfl Tryz.ntmps76 Tryz.results76 (by kernel_rfl) (by simp) 0 (by simp) ?_
  by_cases he : a.length = b.length
  case neg =>
    have he' : ((a.length : Int) != (b.length : Int)) = true := bne_iff_ne.2 (by omega)
    simp only [go_sem, he', beq_cut he]
  simp only [go_sem, he]
  refine LoopK.intro (fun i : Nat => ⟨26, [(0, vs 0 a), (1, vs 0 b), (12, vi a.length), (13, vi i)], []⟩)
    (fun i => a.length - i) (fun i => i ≤ a.length ∧ ∀ j, j < i → a[j]! = b[j]!) 0 ⟨by omega, fun j hj => by omega⟩ ?_ ?_
  · simp only [go_sem, he]
    all_goals exact leV_refl _
  rintro i ⟨hi, hb⟩
  by_cases h : i < a.length
  · have h2 : i < b.length := by omega
    have g1 := getv h
    have g2 := getv h2
    have hw : IntKind.i64.wrap (i + 1) = i + 1 := wrap_in (by omega) (by omega)
    simp only [go_sem, h]
    refine DrawK.walk 9 mixed (by kernel_rfl) ?_
    by_cases hp : a[i]! = b[i]!
    · simp only [go_sem, h, h2, g1, g2, hp, hw]
      refine roundK.intro (i + 1) ⟨by omega, fun j hj => ?_⟩ (by omega) ?_
      · by_cases hji : j = i
        · subst hji; exact hp
        · exact hb j (by omega)
      · simp only [go_sem]
    · have hp' : (a[i]! != b[i]!) = true := bne_iff_ne.2 hp
      simp only [go_sem, h, h2, g1, g2, hp']
      rw [eqI_stop hp]
  · simp only [go_sem, h]
    rw [eqI_all he (fun j hj => hb j (by omega))]
end Go.AM

/-! ## CmJ -/
namespace Go.AM
open Go Go.Proofs Go.RowKit

set_option maxRecDepth 100000 in
theorem con_indexStr (l : List ByteArray) (v : ByteArray) (hl : l.length ≤ 9223372036854775806) : Con Tryz.prog 258 [vss l, vStr v] [] fun r _ => r = vi (findI (fun x => v.toList == x.toList) l) := by
  refine Con.intro Tryz.func258 rfl Tryz.ntmps258 Tryz.results258 (by kernel_rfl) (by simp) 0 (by simp) ?_
  simp only [go_sem]
  refine LoopK.intro (fun i : Nat => ⟨19, [(0, vss l), (1, vStr v), (7, vi l.length), (8, vi i)], []⟩)
    (fun i => l.length - i) (fun i => i ≤ l.length ∧ ∀ j, j < i → (v.toList == l[j]!.toList) = false) 0 ⟨by omega, fun j hj => by omega⟩ ?_ ?_
  · simp only [go_sem]
    all_goals exact leV_refl _
  · rintro i ⟨hi, hb⟩
    by_cases h : i < l.length
    · have hg := getStr h
      have hw : IntKind.i64.wrap (i + 1) = i + 1 := wrap_in (by omega) (by omega)
      cases hp : (v.toList == l[i]!.toList)
      · simp only [go_sem, h, hg, hp, hw]
        refine roundK.intro (i + 1) ⟨by omega, fun j hj => ?_⟩ (by omega) ?_
        · by_cases hji : j = i
          · subst hji; exact hp
          · exact hb j (by omega)
        · simp only [go_sem]
      · simp only [go_sem, h, hg, hp]
        rw [findI_stop (p := fun x : ByteArray => v.toList == x.toList) h hb hp]
    · simp only [go_sem, h]
      rw [findI_none (p := fun x : ByteArray => v.toList == x.toList) (fun j hj => hb j (by omega))]
set_option maxRecDepth 100000 in
theorem con_containsStr (l : List ByteArray) (v : ByteArray) (hl : l.length ≤ 9223372036854775806) : Con Tryz.prog 238 [vss l, vStr v] [] fun r _ => r = .sc (.bool (l.any fun x => v.toList == x.toList)) := by
  refine Con.intro Tryz.func238 rfl Tryz.ntmps238 Tryz.results238 (by kernel_rfl) (by simp) 0 (by simp) ?_
  simp only [go_sem]
  refine CallU.free (con_indexStr l v hl) (by simp only [go_sem]) (by simp only [go_sem]) ?_
  rintro r bx rfl
  simp only [go_sem, findI_ge]
set_option maxRecDepth 100000 in
theorem con_keyword (s : ByteArray) : Con Tryz.prog 207 [vStr s] [] fun r _ => r = vb (keywordB s) := by
  refine Con.intro Tryz.func207 rfl Tryz.ntmps207 Tryz.results207 (by kernel_rfl) (by simp) 0 (by simp) ?_
  simp only [go_sem]
  refine CallU.flat (con_containsStr kwL s (by decide)) (by simp only [go_sem]) (by simp only [go_sem, kwL, List.map_cons, List.map_nil]) ?_
  rintro r bx rfl
  simp only [go_sem]
  rfl

/-! ### lists, one after the other -/
/-- how long the first i lists are, together -/
def sumL {α : Type} (ls : List (List α)) (i : Nat) : Nat := ((ls.take i).map List.length).sum
theorem sumL_zero {α : Type} (ls : List (List α)) : sumL ls 0 = 0 := rfl
theorem sumL_succ {α : Type} {ls : List (List α)} {i : Nat} (h : i < ls.length) : sumL ls (i + 1) = sumL ls i + ls[i]!.length := by
  unfold sumL
  rw [List.take_add_one, List.getElem?_eq_getElem h, getElem!_pos ls i h, List.map_append, List.sum_append]
  simp only [Option.toList, List.map_cons, List.map_nil, List.sum_cons, List.sum_nil, Nat.add_zero]
theorem sumL_mono {α : Type} {ls : List (List α)} : ∀ {i : Nat}, sumL ls i ≤ ls.flatten.length := by
  intro i
  unfold sumL
  rw [← List.length_flatten]
  have h : ls.flatten = (ls.take i).flatten ++ (ls.drop i).flatten := by rw [← List.flatten_append, List.take_append_drop]
  rw [h, List.length_append]; omega
theorem flat_succ {α : Type} {ls : List (List α)} {i : Nat} (h : i < ls.length) : (ls.take (i + 1)).flatten = (ls.take i).flatten ++ ls[i]! := by
  rw [List.take_add_one, List.getElem?_eq_getElem h, getElem!_pos ls i h, List.flatten_append]
  simp only [Option.toList, List.flatten_cons, List.flatten_nil, List.append_nil]
theorem getRow {ls : List (List ByteArray)} {i : Nat} (h : i < ls.length) : (ls.map vss)[i]? = some (.sl 0 1 (ls[i]!.map vStr)) := by
  rw [List.getElem?_map, List.getElem?_eq_getElem h, getElem!_pos ls i h, Option.map_some]; rfl
set_option maxRecDepth 100000 in
theorem con_growStr (n : Nat) (h1 : 1 ≤ n) (h2 : n ≤ 1000000) : Con Tryz.prog 234 [.nil, vi n] [] fun r _ => r = .sl 2 1 [] := by
  refine Con.intro Tryz.func234 rfl Tryz.ntmps234 Tryz.results234 (by kernel_rfl) (by simp) 0 (by simp) ?_
  have a1 : ¬ ((n : Int) < 0) := by omega
  have a2 : (0 : Int) < (n : Int) := by omega
  have hw : IntKind.i64.wrap ((n : Int) - 0) = n := by rw [wrap_in (by omega) (by omega)]; omega
  have hz : IntKind.i64.wrap 0 = 0 := wrap_in (by omega) (by omega)
  simp only [go_sem, a1, a2, hz, hw]
  omega
set_option maxRecDepth 100000 in
theorem con_concatStr (ls : List (List ByteArray)) (h1 : 1 ≤ ls.flatten.length) (h2 : ls.flatten.length ≤ 1000000) (hl : ls.length ≤ 1000000) : Con Tryz.prog 205 [.sl 0 1 (ls.map vss)] [] fun r _ => r = .sl 2 1 (ls.flatten.map vStr) := by
  refine Con.intro Tryz.func205 rfl Tryz.ntmps205 Tryz.results205 (by kernel_rfl) (by simp) 0 (by simp) ?_
  simp only [go_sem]
  refine LoopK.intro (fun i : Nat => ⟨36, [(0, .sl 0 1 (ls.map vss)), (2, .nil), (3, vi (sumL ls i)), (9, .sl 0 1 (ls.map vss)), (10, vi ls.length), (11, vi i)], []⟩)
    (fun i => ls.length - i) (fun i => i ≤ ls.length) 0 (by omega) ?_ ?_
  · simp only [go_sem, sumL_zero]
    all_goals exact leV_refl _
  rintro i hi
  have hm := sumL_mono (ls := ls) (i := i)
  by_cases h : i < ls.length
  · have hg := getRow h
    have hw : IntKind.i64.wrap (i + 1) = i + 1 := wrap_in (by omega) (by omega)
    have hm2 := sumL_mono (ls := ls) (i := i + 1)
    have hs := sumL_succ h
    have hw2 : IntKind.i64.wrap ((sumL ls i : Int) + (ls[i]!.length : Int)) = (sumL ls (i + 1) : Int) := by rw [wrap_in (by omega) (by omega)]; omega
    have a1 : ¬ ((sumL ls (i + 1) : Int) < 0) := by omega
    simp only [go_sem, h, hg, hw, hw2, a1]
    refine roundK.intro (i + 1) (by omega) (by omega) ?_
    simp only [go_sem]
  · obtain rfl : i = ls.length := by omega
    have e : sumL ls ls.length = ls.flatten.length := by unfold sumL; rw [List.take_length, ← List.length_flatten]
    simp only [go_sem, h, e]
    refine CallU.free (con_growStr ls.flatten.length h1 h2) (by simp only [go_sem]) (by simp only [go_sem]) ?_
    rintro r bx rfl
    simp only [go_sem]
    refine LoopK.intro (fun i : Nat => ⟨36, [(0, .sl 0 1 (ls.map vss)), (2, .nil), (6, .sl 1602 1 (((ls.take i).flatten).map vStr)), (25, .sl 0 1 (ls.map vss)), (26, vi ls.length), (27, vi i)], []⟩)
      (fun i => ls.length - i) (fun i => i ≤ ls.length) 0 (by omega) ?_ ?_
    · simp only [go_sem, List.take_zero, List.flatten_nil, List.map_nil]
      all_goals exact leV_refl _
    rintro i hi
    by_cases h : i < ls.length
    · have hg := getRow h
      have hw : IntKind.i64.wrap (i + 1) = i + 1 := wrap_in (by omega) (by omega)
      have hm2 := sumL_mono (ls := ls) (i := i + 1)
      have hs := sumL_succ h
      have hf := flat_succ h
      have el : (ls.take i).flatten.length = sumL ls i := by unfold sumL; rw [List.length_flatten]
      simp only [go_sem, h, hg, hw]
      refine ⟨by simp only [roomFor, el]; omega, ?_⟩
      refine roundK.intro (i + 1) (by omega) (by omega) ?_
      simp only [go_sem, hf, List.map_append]
    · obtain rfl : i = ls.length := by omega
      simp only [go_sem, h, List.take_length]
end Go.AM

/-! ## CmK -/
namespace Go.AM
open Go Go.Proofs Go.RowKit

attribute [go_sem] vM cM
theorem leC_any : ∀ (l : List AV) (n : Nat), l.length = n → leC l (List.replicate n .any)
  | [], _, h => by subst h; exact trivial
  | x :: l, _, h => by subst h; exact ⟨leV_any x, leC_any l l.length rfl⟩
theorem take_map_succ {α β : Type} [Inhabited α] {l : List α} {i : Nat} (f : α → β) (h : i < l.length) : (l.take (i + 1)).map f = (l.take i).map f ++ [f l[i]!] := by
  rw [List.take_add_one, List.getElem?_eq_getElem h, getElem!_pos l i h, List.map_append]; rfl
theorem metD_le : ∀ (n : Nat) (ks : List (List UInt8)), ks.length = n → mapLen (metD ks) ≤ n := by
  intro n
  induction n with
  | zero => intro ks h; obtain rfl := List.eq_nil_of_length_eq_zero h; exact Nat.le_refl _
  | succ n ih =>
    intro ks h
    obtain ⟨ks', x, rfl⟩ : ∃ ks' x, ks = ks' ++ [x] := ⟨ks.dropLast, ks.getLast (by intro e; rw [e] at h; simp at h), (List.dropLast_concat_getLast _).symm⟩
    have ih' := ih ks' (by simpa using h)
    have e : ∀ D : DataW Unit, mapLen D = Go.Maps.size D := fun D => by cases D <;> rfl
    rw [← metD_snoc, e, Go.Maps.size_put (metD_tidy _), ← e]
    split <;> omega
def dataL (s : ByteArray) : List UInt8 := s.data.toList
theorem names_bad {l : List ByteArray} {i : Nat} (h : i < l.length) (hb : okN l i = false) : namesB l = false := by
  unfold namesB
  rw [List.all_eq_false]
  exact ⟨i, List.mem_range.2 h, by rw [hb]; simp⟩
theorem names_ok {l : List ByteArray} (h : ∀ i, i < l.length → okN l i = true) : namesB l = true := by
  unfold namesB
  rw [List.all_eq_true]
  exact fun i hi => h i (List.mem_range.1 hi)
theorem ba_self (s : ByteArray) : s.data.toList = dataL s := rfl
/-- the names of the first rules -/
def namesTo (m : MD) (i : Nat) : List ByteArray := m.states ++ m.places ++ m.letters ++ (m.rules.take i).map RD.name
theorem namesTo_zero (m : MD) : namesTo m 0 = m.states ++ m.places ++ m.letters := by simp [namesTo]
theorem namesTo_succ {m : MD} {i : Nat} (h : i < m.rules.length) : namesTo m (i + 1) = namesTo m i ++ [m.rules[i]!.name] := by
  unfold namesTo
  rw [List.take_add_one, List.getElem?_eq_getElem h, getElem!_pos m.rules i h, List.map_append]
  simp only [Option.toList, List.map_cons, List.map_nil, List.append_assoc]
theorem namesTo_all (m : MD) : namesTo m m.rules.length = namesOf m := by unfold namesTo namesOf; rw [List.take_length]
theorem namesTo_len {m : MD} {i : Nat} : (namesTo m i).length ≤ (namesOf m).length := by
  unfold namesTo namesOf
  simp only [List.length_append, List.length_map, List.length_take]; omega
set_option maxRecDepth 100000 in
theorem con_named (m : MD) (h1 : 1 ≤ m.states.length) (h2 : (namesOf m).length ≤ 1000000) (hs : ∀ s ∈ namesOf m, s.size ≤ 9223372036854775806) : Con Tryz.prog 165 [vM m] [] fun r _ => r = vb (namesB (namesOf m)) := by
  refine Con.intro Tryz.func165 rfl Tryz.ntmps165 Tryz.results165 (by kernel_rfl) (by simp) 1 (by simp) ?_
  have h2' := h2
  unfold namesOf at h2'
  simp only [List.length_append, List.length_map] at h2'
  simp only [go_sem]
  refine CallU.freeze (con_concatStr [m.states, m.places, m.letters] (by simp; omega) (by simp; omega) (by simp)) (by simp only [go_sem]) (by simp only [go_sem, List.map_cons, List.map_nil]) ?_
  rintro r bx rfl
  have e0 : [m.states, m.places, m.letters].flatten = namesTo m 0 := by rw [namesTo_zero]; simp
  rw [e0]
  simp only [go_sem]
  refine LoopK.intro (fun i : Nat => ⟨52, [(1, .pb 0 0), (2, vb false), (3, .mp 640 Tryz.prog 9 4 (metD [])), (4, .sl 1154 1 ((namesTo m i).map vStr)), (19, .sl 0 14 (m.rules.map vRule)), (20, vi m.rules.length), (21, vi i)], cM m :: Rk 14 i⟩)
    (fun i => m.rules.length - i) (fun i => i ≤ m.rules.length) 0 (by omega) ?_ ?_
  · simp only [go_sem]
    all_goals exact ⟨leV_refl _, leB_self _⟩
  rintro i hi
  have hn := namesTo_len (m := m) (i := i)
  by_cases h : i < m.rules.length
  · have hg := getRule h
    have hw : IntKind.i64.wrap (i + 1) = i + 1 := wrap_in (by omega) (by omega)
    have hB := Rk_len 14 i
    have n0 := fun L : List (List AV) => app_at0 (L := L) hB
    have s0 := fun (L : List (List AV)) z => app_set0 (L := L) (z := z) hB
    have e := namesTo_succ h
    simp only [go_sem, h, hg, hw, hB, n0, s0]
    refine ⟨by simp only [roomFor]; omega, ?_⟩
    refine roundK.intro (i + 1) (by omega) (by omega) ?_
    simp only [go_sem, Rk_succ, e, List.map_append, List.map_cons, List.map_nil]
    exact leB_RkA ⟨leC_any _ 14 rfl, trivial⟩
  obtain rfl : i = m.rules.length := by omega
  rw [namesTo_all]
  simp only [go_sem, h]
  generalize hL : namesOf m = l at *
  refine LoopK.intro (fun i : Nat => ⟨52, [(1, .pb 0 0), (2, vb false), (3, .mp 640 Tryz.prog 9 4 (metD ((l.take i).map fun s => s.data.toList))), (31, .sl 1154 1 (l.map vStr)), (32, vi l.length), (33, vi i)], cM m :: Rk 14 m.rules.length⟩)
    (fun i => l.length - i) (fun i => i ≤ l.length ∧ ∀ j, j < i → okN l j = true) 0 ⟨by omega, fun j hj => by omega⟩ ?_ ?_
  · simp only [go_sem, List.take_zero, List.map_nil]
    all_goals exact leV_refl _
  rintro i ⟨hi, hb⟩
  by_cases h : i < l.length
  · have hg := getStr h
    have hw : IntKind.i64.wrap (i + 1) = i + 1 := wrap_in (by omega) (by omega)
    have hz := hs l[i]! (mem_bangI h)
    simp only [go_sem, h, hg]
    refine CallU.free (con_word l[i]! hz) (by simp only [go_sem]) (by simp only [go_sem]) ?_
    rintro r bx rfl
    cases a1 : wordB l[i]!
    · simp only [go_sem]
      rw [names_bad h (by unfold okN; rw [a1]; rfl)]
    simp only [go_sem]
    refine CallU.free (con_keyword l[i]!) (by simp only [go_sem]) (by simp only [go_sem]) ?_
    rintro r bx rfl
    cases a2 : keywordB l[i]!
    case true =>
      simp only [go_sem]
      rw [names_bad h (by unfold okN; rw [a1, a2]; rfl)]
    simp only [go_sem]
    refine evLookup_str Tryz.underlying207 Tryz.underlying9 Tryz.underlying4 tinfo_4 rfl (by omega) ?_
    rw [metD_at]
    cases a3 : ((l.take i).map fun s => s.data.toList).contains l[i]!.data.toList
    case true =>
      simp only [go_sem]
      rw [names_bad h (by unfold okN; rw [a1, a2, a3]; rfl)]
    simp only [go_sem]
    have hlen := metD_le i ((l.take i).map fun s => s.data.toList) (by rw [List.length_map, List.length_take]; omega)
    refine evMapPut_str Tryz.underlying207 Tryz.underlying9 Tryz.underlying4 (by omega) (by omega) ?_
    rw [metD_snoc]
    simp only [go_sem, hw]
    refine roundK.intro (i + 1) ⟨by omega, fun j hj => ?_⟩ (by omega) ?_
    · by_cases hji : j = i
      · subst hji; unfold okN; rw [a1, a2, a3]; rfl
      · exact hb j (by omega)
    · simp only [go_sem, take_map_succ (fun s : ByteArray => s.data.toList) h]
      all_goals exact leV_refl _
  · simp only [go_sem, h]
    rw [names_ok (fun j hj => hb j (by omega))]
end Go.AM

/-! ## CmL -/
namespace Go.AM
open Go Go.Proofs Go.RowKit

/-- the limits of a kind: places, letters, levels, age, each from .. to .. -/
def limF (k : Int) : List Int :=
  if k = 1 ∨ k = 6 then [1, 6, 0, 0, 0, 0, 0, 0] else if k = 2 ∨ k = 3 then [1, 2, 1, 6, 0, 0, 0, 0] else if k = 4 then [0, 0, 1, 6, 1, 2, 0, 0] else [1, 6, 0, 0, 0, 0, 0, 3]
abbrev lim (k : Int) (j : Nat) : Int := (limF k).getD j 0
def limV (l : List Int) : AV := .ag [vi (l.getD 0 0), vi (l.getD 1 0), vi (l.getD 2 0), vi (l.getD 3 0), vi (l.getD 4 0), vi (l.getD 5 0), vi (l.getD 6 0), vi (l.getD 7 0)]
set_option maxRecDepth 100000 in
theorem con_of (k : Int) : Con Tryz.prog 203 [vi k] [] fun r _ => r = limV (limF k) := by
  refine Con.intro Tryz.func203 rfl Tryz.ntmps203 Tryz.results203 (by kernel_rfl) (by simp) 0 (by simp) ?_
  by_cases k1 : k = 1
  · subst k1; simp only [go_sem]; rfl
  have b1 : (k == 1) = false := beq_eq_false_iff_ne.2 k1
  by_cases k6 : k = 6
  · subst k6; simp only [go_sem]; rfl
  have b6 : (k == 6) = false := beq_eq_false_iff_ne.2 k6
  by_cases k2 : k = 2
  · subst k2; simp only [go_sem]; rfl
  have b2 : (k == 2) = false := beq_eq_false_iff_ne.2 k2
  by_cases k3 : k = 3
  · subst k3; simp only [go_sem]; rfl
  have b3 : (k == 3) = false := beq_eq_false_iff_ne.2 k3
  by_cases k4 : k = 4
  · subst k4; simp only [go_sem]; rfl
  have b4 : (k == 4) = false := beq_eq_false_iff_ne.2 k4
  have e : limF k = [1, 6, 0, 0, 0, 0, 0, 3] := by unfold limF; rw [if_neg (by omega), if_neg (by omega), if_neg (by omega)]
  rw [e]
  simp only [go_sem, b1, b6, b2, b3, b4]
  rfl
/-- right numbers of everything -/
def sizedB (m : MD) : Bool := betweenB m.states.length 1 8 && decide (m.rules.length ≤ 12) && betweenB m.places.length (lim m.kind 0) (lim m.kind 1) && betweenB m.letters.length (lim m.kind 2) (lim m.kind 3) && betweenB m.levels (lim m.kind 4) (lim m.kind 5) && betweenB m.age (lim m.kind 6) (lim m.kind 7)
set_option maxRecDepth 100000 in
set_option maxHeartbeats 4000000 in
theorem con_sized (m : MD) : Con Tryz.prog 163 [vM m] [] fun r _ => r = vb (sizedB m) := by
  refine Con.intro Tryz.func163 rfl Tryz.ntmps163 Tryz.results163 (by kernel_rfl) (by simp) 2 (by simp) ?_
  simp only [go_sem]
  refine CallU.free (con_of m.kind) (by simp only [go_sem]) (by simp only [go_sem]) ?_
  rintro r bx rfl
  simp only [go_sem, limV]
  refine CallU.free (con_between m.states.length 1 8) (by simp only [go_sem]) (by simp only [go_sem]) ?_
  rintro r bx rfl
  unfold sizedB
  cases h1 : betweenB m.states.length 1 8
  · simp only [go_sem, Bool.false_and]
  by_cases h2 : (m.rules.length : Int) ≤ 12
  case neg =>
    have h2' : ¬ m.rules.length ≤ 12 := by omega
    simp only [go_sem, h2, h2', decide_false, Bool.and_false, Bool.false_and]
  have h2' : m.rules.length ≤ 12 := by omega
  simp only [go_sem, h2, decide_true]
  refine CallU.free (con_between m.places.length (lim m.kind 0) (lim m.kind 1)) (by simp only [go_sem]) (by simp only [go_sem]) ?_
  rintro r bx rfl
  cases h3 : betweenB m.places.length (lim m.kind 0) (lim m.kind 1)
  · simp only [go_sem, Bool.false_and]
  simp only [go_sem]
  refine CallU.free (con_between m.letters.length (lim m.kind 2) (lim m.kind 3)) (by simp only [go_sem]) (by simp only [go_sem]) ?_
  rintro r bx rfl
  cases h4 : betweenB m.letters.length (lim m.kind 2) (lim m.kind 3)
  · simp only [go_sem, Bool.false_and]
  simp only [go_sem]
  refine CallU.free (con_between m.levels (lim m.kind 4) (lim m.kind 5)) (by simp only [go_sem]) (by simp only [go_sem]) ?_
  rintro r bx rfl
  cases h5 : betweenB m.levels (lim m.kind 4) (lim m.kind 5)
  · simp only [go_sem, Bool.false_and]
  simp only [go_sem]
  refine CallU.free (con_between m.age (lim m.kind 6) (lim m.kind 7)) (by simp only [go_sem]) (by simp only [go_sem]) ?_
  rintro r bx rfl
  simp only [go_sem, h2', decide_true, Bool.true_and]

/-- ranks -/
def rankedB (m : MD) : Bool := if m.kind = 3 then decide (m.ranks.length = m.letters.length) && m.ranks.all fun r => betweenB r 0 5 else m.ranks.length == 0
set_option maxRecDepth 100000 in
theorem con_ranked1 (x : Int) : Con Tryz.prog 204 [vi x] [] fun r _ => r = .sc (.bool (!betweenB x 0 5)) := by
  refine Con.intro Tryz.func204 rfl Tryz.ntmps204 Tryz.results204 (by kernel_rfl) (by simp) 0 (by simp) ?_
  simp only [go_sem]
  refine CallU.free (con_between x 0 5) (by simp only [go_sem]) (by simp only [go_sem]) ?_
  rintro r bx rfl
  simp only [go_sem]
set_option maxRecDepth 100000 in
theorem con_ranked (m : MD) (h1 : m.ranks.length ≤ 9223372036854775806) : Con Tryz.prog 164 [vM m] [] fun r _ => r = vb (rankedB m) := by
  refine Con.intro Tryz.func164 rfl Tryz.ntmps164 Tryz.results164 (by kernel_rfl) (by simp) 1 (by simp) ?_
  unfold rankedB
  by_cases k3 : m.kind = 3
  case neg =>
    have b3 : (m.kind != 3) = true := bne_iff_ne.2 k3
    rw [if_neg k3]
    simp only [go_sem, b3]
    congr 2
    rw [Bool.eq_iff_iff]; simp
  rw [if_pos k3]
  have b3 : (m.kind != 3) = false := by rw [k3]; rfl
  by_cases hl : m.ranks.length = m.letters.length
  case neg =>
    have hl' : ((m.ranks.length : Int) == (m.letters.length : Int)) = false := beq_eq_false_iff_ne.2 (by omega)
    simp only [go_sem, b3, hl', hl, decide_false, Bool.false_and]
  have hl' : ((m.ranks.length : Int) == (m.letters.length : Int)) = true := beq_iff_eq.2 (by omega)
  simp only [go_sem, b3, hl']
  refine CallU.free (con_containsInt m.ranks 204 [] (fun r => !betweenB r 0 5) rfl (fun x _ => con_ranked1 x) h1) (by simp only [go_sem]) (by simp only [go_sem]) ?_
  rintro r bx rfl
  simp only [go_sem, any_not, hl, decide_true, Bool.true_and]
end Go.AM

/-! ## CmM -/
namespace Go.AM
open Go Go.Proofs Go.RowKit

set_option maxRecDepth 100000 in
theorem con_changes1 (x : Int) : Con Tryz.prog 239 [vi x] [] fun r _ => r = .sc (.bool (betweenB x 0 16)) := by
  refine Con.intro Tryz.func239 rfl Tryz.ntmps239 Tryz.results239 (by kernel_rfl) (by simp) 0 (by simp) ?_
  simp only [go_sem]
  refine CallU.free (con_between x 0 16) (by simp only [go_sem]) (by simp only [go_sem]) ?_
  rintro r bx rfl
  simp only [go_sem]
/-- the lists are not too long -/
structure RD.Len (r : RD) : Prop where
  need : r.need.length ≤ 9223372036854775806
  give : r.give.length ≤ 9223372036854775806
  move : r.move.length ≤ 9223372036854775806
  path : r.path.length ≤ 9223372036854775806
  next : r.next.length ≤ 9223372036854775806
  takes : r.takes.length ≤ 9223372036854775806
  makes : r.makes.length ≤ 9223372036854775806
set_option maxRecDepth 100000 in
set_option maxHeartbeats 1000000 in
theorem con_changes (m : MD) (r : RD) (hl : r.Len) : Con Tryz.prog 210 [vM m, vRule r] [] fun x _ => x = vb (changesB m.places.length r) := by
  refine Con.intro Tryz.func210 rfl Tryz.ntmps210 Tryz.results210 (by kernel_rfl) (by simp) 2 (by simp) ?_
  unfold changesB
  by_cases h1 : r.need.length = m.places.length
  case neg =>
    have h1' : ((r.need.length : Int) == (m.places.length : Int)) = false := beq_eq_false_iff_ne.2 (by omega)
    simp only [go_sem, h1', h1, decide_false, Bool.false_and]
  have h1' : ((r.need.length : Int) == (m.places.length : Int)) = true := beq_iff_eq.2 (by omega)
  by_cases h2 : r.give.length = m.places.length
  case neg =>
    have h2' : ((r.give.length : Int) == (m.places.length : Int)) = false := beq_eq_false_iff_ne.2 (by omega)
    simp only [go_sem, h1', h2', h2, decide_false, Bool.false_and, Bool.and_false]
  have h2' : ((r.give.length : Int) == (m.places.length : Int)) = true := beq_iff_eq.2 (by omega)
  simp only [go_sem, h1', h2']
  refine CallU.free (con_all r.need 239 [] (fun x => betweenB x 0 16) rfl (fun x _ => con_changes1 x) hl.need) (by simp only [go_sem]) (by simp only [go_sem]) ?_
  rintro x bx rfl
  change _ ∧ _
  cases h3 : smallB r.need
  · have h3' : (r.need.all fun x => betweenB x 0 16) = false := h3
    simp only [go_sem, h3', Bool.false_and, Bool.and_false]
  have h3' : (r.need.all fun x => betweenB x 0 16) = true := h3
  simp only [go_sem, h3']
  refine CallU.free (con_all r.give 239 [] (fun x => betweenB x 0 16) rfl (fun x _ => con_changes1 x) hl.give) (by simp only [go_sem]) (by simp only [go_sem]) ?_
  rintro x bx rfl
  simp only [go_sem, h1, h2, decide_true, Bool.true_and]
  rfl
set_option maxRecDepth 100000 in
theorem con_moves1 (x : Int) (n : Nat) (hn : n ≤ 1000000) : Con Tryz.prog 240 [vi x, .fp [vi n] 0] [] fun r _ => r = .sc (.bool (betweenB x (-1) (n - 1))) := by
  refine Con.intro Tryz.func240 rfl Tryz.ntmps240 Tryz.results240 (by kernel_rfl) (by simp) 0 (by simp) ?_
  have hw : IntKind.i64.wrap ((n : Int) - 1) = n - 1 := wrap_in (by omega) (by omega)
  simp only [go_sem, hw]
  refine CallU.free (con_between x (-1) (n - 1)) (by simp only [go_sem]) (by simp only [go_sem]) ?_
  rintro r bx rfl
  simp only [go_sem]
set_option maxRecDepth 100000 in
set_option maxHeartbeats 1000000 in
theorem con_moves (m : MD) (r : RD) (hl : r.Len) (hm : m.places.length ≤ 1000000) : Con Tryz.prog 211 [vM m, vRule r] [] fun x _ => x = vb (movesB m.places.length r) := by
  refine Con.intro Tryz.func211 rfl Tryz.ntmps211 Tryz.results211 (by kernel_rfl) (by simp) 3 (by simp) ?_
  unfold movesB
  by_cases h1 : r.move.length = 0
  · have h1' : ((r.move.length : Int) == 0) = true := beq_iff_eq.2 (by omega)
    simp only [go_sem, h1]
    all_goals simp
  have h1' : ((r.move.length : Int) == 0) = false := beq_eq_false_iff_ne.2 (by omega)
  have h1n : (r.move.length == 0) = false := beq_eq_false_iff_ne.2 h1
  by_cases h2 : r.move.length = m.places.length
  case neg =>
    have h2' : ((r.move.length : Int) == (m.places.length : Int)) = false := beq_eq_false_iff_ne.2 (by omega)
    simp only [go_sem, h1', h2', h1n, h2, decide_false, Bool.false_and, Bool.or_false]
  have h2' : ((r.move.length : Int) == (m.places.length : Int)) = true := beq_iff_eq.2 (by omega)
  simp only [go_sem, h1', h2']
  refine CallU.look (con_all r.move 240 [.fp [vi m.places.length] 0] (fun x => betweenB x (-1) (m.places.length - 1)) (by simp only [go_sem]) (fun x _ => con_moves1 x m.places.length hm) hl.move) (by simp only [go_sem]) (by simp only [go_sem]) ?_
  rintro x bx rfl
  simp only [go_sem]
  rw [h1n, decide_eq_true h2]; simp

/-! ### equal rules -/
theorem getTake {l : List (Int × Int × Int)} {i : Nat} (h : i < l.length) : (l.map vTake)[i]? = some (.ag [.sc (.int .i64 l[i]!.1), .sc (.int .i64 l[i]!.2.1), .sc (.int .i64 l[i]!.2.2)]) := by
  rw [List.getElem?_map, List.getElem?_eq_getElem h, getElem!_pos l i h, Option.map_some]; rfl
theorem eqA_stop {α : Type} [BEq α] [LawfulBEq α] [Inhabited α] {a b : List α} {i : Nat} (h : a[i]! ≠ b[i]!) : (a == b) = false := by
  rw [beq_eq_false_iff_ne]; intro e; rw [e] at h; exact h rfl
theorem eqA_all {α : Type} [BEq α] [LawfulBEq α] [Inhabited α] {a b : List α} (hl : a.length = b.length) (h : ∀ j, j < a.length → a[j]! = b[j]!) : (a == b) = true := by
  rw [beq_iff_eq]
  apply List.ext_getElem hl
  intro i h1 h2
  have := h i h1
  rw [getElem!_pos a i h1, getElem!_pos b i h2] at this; exact this
theorem eqA_len {α : Type} [BEq α] [LawfulBEq α] {a b : List α} (h : a.length ≠ b.length) : (a == b) = false := by
  rw [beq_eq_false_iff_ne]; intro e; rw [e] at h; exact h rfl
@[go_sem] theorem flat_173 : flatF Tryz.prog 173 = some [(0, true), (1, true), (2, true)] := by kernel_rfl
set_option maxRecDepth 100000 in
theorem con_equalTake (a b : List (Int × Int × Int)) (hl : a.length ≤ 9223372036854775806) : Con Tryz.prog 247 [.sl 0 3 (a.map vTake), .sl 0 3 (b.map vTake)] [] fun r _ => r = .sc (.bool (a == b)) := by
  refine Con.intro Tryz.func247 rfl Tryz.ntmps247 Tryz.results247 (by kernel_rfl) (by simp) 0 (by simp) ?_
  by_cases he : a.length = b.length
  case neg =>
    have he' : ((a.length : Int) != (b.length : Int)) = true := bne_iff_ne.2 (by omega)
    simp only [go_sem, he', eqA_len he]
  simp only [go_sem, he]
  refine LoopK.intro (fun i : Nat => ⟨26, [(0, .sl 0 3 (a.map vTake)), (1, .sl 0 3 (b.map vTake)), (12, vi a.length), (13, vi i)], []⟩)
    (fun i => a.length - i) (fun i => i ≤ a.length ∧ ∀ j, j < i → a[j]! = b[j]!) 0 ⟨by omega, fun j hj => by omega⟩ ?_ ?_
  · simp only [go_sem, he]
    all_goals exact leV_refl _
  rintro i ⟨hi, hb⟩
  by_cases h : i < a.length
  · have h2 : i < b.length := by omega
    have g1 := getTake h
    have g2 := getTake h2
    have hw : IntKind.i64.wrap (i + 1) = i + 1 := wrap_in (by omega) (by omega)
    simp only [go_sem, h]
    refine DrawK.walk 9 mixed (by kernel_rfl) ?_
    by_cases hp : a[i]! = b[i]!
    · simp only [go_sem, h, h2, g1, g2, hp, hw]
      refine roundK.intro (i + 1) ⟨by omega, fun j hj => ?_⟩ (by omega) ?_
      · by_cases hji : j = i
        · subst hji; exact hp
        · exact hb j (by omega)
      · simp only [go_sem]
    · have hp' : (a[i]!.fst == b[i]!.fst && (a[i]!.snd.fst == b[i]!.snd.fst && a[i]!.snd.snd == b[i]!.snd.snd)) = false := by
        rw [Bool.eq_false_iff]
        intro hh
        simp only [Bool.and_eq_true, beq_iff_eq] at hh
        exact hp (Prod.ext hh.1 (Prod.ext hh.2.1 hh.2.2))
      simp only [go_sem, h, h2, g1, g2, hp']
      rw [eqA_stop hp]
  · simp only [go_sem, h]
    rw [eqA_all he (fun j hj => hb j (by omega))]
set_option maxRecDepth 100000 in
set_option maxHeartbeats 2000000 in
theorem con_same_self (a : RD) (hl : a.Len) : Con Tryz.prog 217 [vRule a, vRule a] [] fun x _ => x = vb true := by
  refine Con.intro Tryz.func217 rfl Tryz.ntmps217 Tryz.results217 (by kernel_rfl) (by simp) 2 (by simp) ?_
  dsimp only [List.append]
  simp only [go_sem, beq_self_eq_true]
  refine CallU.free (con_equalInt a.need a.need (hl.need)) (by simp only [go_sem]) (by simp only [go_sem]) ?_
  rintro r bx rfl
  simp only [go_sem, beq_self_eq_true]
  refine CallU.free (con_equalInt a.give a.give (hl.give)) (by simp only [go_sem]) (by simp only [go_sem]) ?_
  rintro r bx rfl
  simp only [go_sem, beq_self_eq_true]
  refine CallU.free (con_equalInt a.move a.move (hl.move)) (by simp only [go_sem]) (by simp only [go_sem]) ?_
  rintro r bx rfl
  simp only [go_sem, beq_self_eq_true]
  refine CallU.free (con_equalInt a.path a.path (hl.path)) (by simp only [go_sem]) (by simp only [go_sem]) ?_
  rintro r bx rfl
  simp only [go_sem, beq_self_eq_true]
  refine CallU.free (con_equalInt a.next a.next (hl.next)) (by simp only [go_sem]) (by simp only [go_sem]) ?_
  rintro r bx rfl
  simp only [go_sem, beq_self_eq_true]
  refine CallU.free (con_equalTake a.takes a.takes (hl.takes)) (by simp only [go_sem]) (by simp only [go_sem]) ?_
  rintro r bx rfl
  simp only [go_sem, beq_self_eq_true]
  refine CallU.free (con_equalInt a.makes a.makes (hl.makes)) (by simp only [go_sem]) (by simp only [go_sem]) ?_
  rintro r bx rfl
  simp only [go_sem, beq_self_eq_true]
end Go.AM

/-! ## CmN -/
namespace Go.AM
open Go Go.Proofs Go.RowKit

theorem Con.leA {P : Program} {f : FuncId} {args args' : List AV} {bx : List (List AV)} {post : AV → List (List AV) → Prop} (h : Con P f args bx post) (ha : leC args' args) : Con P f args' bx post :=
  h.args fun _ _ _ hv => leC_pw ha hv
/-- all orders of a drawn region end in a frame that says no more than τ: what follows is walked from τ, once -/
theorem DrawK.meet {P : Program} {ops : Array Oper} {σ : St} {K : St → Prop} (τ : St) (h : DrawK P ops σ fun σ' => σ'.le τ) (hk : K τ) : DrawK P ops σ K :=
  fun G0 w0 G a w id Q t hs hQ => h G0 w0 G a w id Q t hs fun _ G' a' w' hl h' => hQ τ G' a' w' hk (h'.le hl)
theorem andK_mk {p q : Prop} (h1 : p) (h2 : q) : andK p q := ⟨h1, h2⟩
def rightTree : Tr := .front 0 (.front 2 (.front 4 (.alt (.one 1 (.front 6 (.alt (.one 3 (.alt (.one 5 (.one 7 (.front 8 (.one 9 (.front 10 (.one 11 .done)))))) (.one 7 (.front 8 (.alt (.one 5 (.one 9 (.front 10 (.one 11 .done)))) (.one 9 (.one 5 (.front 10 (.one 11 .done))))))))) (.alt (.one 5 (.alt (.one 3 (.one 7 (.front 8 (.one 9 (.front 10 (.one 11 .done)))))) (.one 7 (.one 3 (.front 8 (.one 9 (.front 10 (.one 11 .done)))))))) (.one 7 (.alt (.one 3 (.front 8 (.alt (.one 5 (.one 9 (.front 10 (.one 11 .done)))) (.one 9 (.one 5 (.front 10 (.one 11 .done))))))) (.one 5 (.one 3 (.front 8 (.one 9 (.front 10 (.one 11 .done)))))))))))) (.alt (.one 3 (.alt (.one 1 (.front 6 (.alt (.one 5 (.one 7 (.front 8 (.one 9 (.front 10 (.one 11 .done)))))) (.one 7 (.front 8 (.alt (.one 5 (.one 9 (.front 10 (.one 11 .done)))) (.one 9 (.one 5 (.front 10 (.one 11 .done)))))))))) (.one 5 (.one 1 (.front 6 (.one 7 (.front 8 (.one 9 (.front 10 (.one 11 .done)))))))))) (.one 5 (.alt (.one 1 (.front 6 (.alt (.one 3 (.one 7 (.front 8 (.one 9 (.front 10 (.one 11 .done)))))) (.one 7 (.one 3 (.front 8 (.one 9 (.front 10 (.one 11 .done))))))))) (.one 3 (.one 1 (.front 6 (.one 7 (.front 8 (.one 9 (.front 10 (.one 11 .done))))))))))))))
theorem nil_of {α : Type} {l : List α} (h : (l.length == 0) = true) : l = [] := List.eq_nil_of_length_eq_zero (by simpa using h)
theorem bare_of {r : RD} (h : bareB r = true) : r = ⟨r.name, r.src, r.dst, r.need, r.give, r.move, 0, 0, 0, [], [], [], [], 0⟩ := by
  unfold bareB at h
  simp only [Bool.and_eq_true, beq_iff_eq] at h
  obtain ⟨⟨⟨⟨⟨⟨⟨h1, h2⟩, h3⟩, h4⟩, h5⟩, h6⟩, h7⟩, h8⟩ := h
  obtain ⟨a, b, c, d, e, f, g, h, i, j, k, l, m, n⟩ := r
  simp only at h1 h2 h3 h4 h5 h6 h7 h8
  rw [h1, h2, h3, List.eq_nil_of_length_eq_zero h4, List.eq_nil_of_length_eq_zero h5, List.eq_nil_of_length_eq_zero h6, List.eq_nil_of_length_eq_zero h7, h8]
abbrev bareR (nm : ByteArray) (s d : Int) (nd gv mv : List Int) : RD := ⟨nm, s, d, nd, gv, mv, 0, 0, 0, [], [], [], [], 0⟩
theorem con_same_only (nm : ByteArray) (s d : Int) (nd gv mv : List Int) (hl : (bareR nm s d nd gv mv).Len) : Con Tryz.prog 217 [vRule (bareR nm s d nd gv mv), .ag [vStr nm, vi s, vi d, vs 0 nd, vs 0 gv, vs 0 mv, vi 0, vi 0, vi 0, .nil, .nil, .nil, .nil, vi 0]] [] fun x _ => x = vb true :=
  (con_same_self _ hl).leA ⟨leV_refl _, leV_ag ⟨leV_refl _, leV_refl _, leV_refl _, leV_refl _, leV_refl _, leV_refl _, leV_refl _, leV_refl _, leV_refl _, leV_nil 0 1, leV_nil 0 1, leV_nil 0 3, leV_nil 0 1, leV_refl _, trivial⟩, trivial⟩
set_option maxRecDepth 100000 in
set_option maxHeartbeats 1000000 in
theorem con_right (m : MD) (r : RD) (hk : m.kind = 1) (hs : m.states.length ≤ 1000000) (hp : m.places.length ≤ 1000000) (hl : r.Len) (hr : ruleB m.states.length m.places.length r = true) (hb : bareB r = true) : Con Tryz.prog 168 [vM m, vRule r] [] fun x _ => x = vb true := by
  obtain ⟨nm, s, d, nd, gv, mv, rfl⟩ : ∃ nm s d nd gv mv, r = bareR nm s d nd gv mv := ⟨_, _, _, _, _, _, bare_of hb⟩
  refine Con.intro Tryz.func168 rfl Tryz.ntmps168 Tryz.results168 (by kernel_rfl) (by simp) 3 (by simp) ?_
  unfold ruleB indexB at hr
  simp only [Bool.and_eq_true] at hr
  obtain ⟨⟨⟨h1, h2⟩, h3⟩, h4⟩ := hr
  have h1 : (decide (0 ≤ d) && decide (d < (m.states.length : Int))) = true := by rw [Bool.and_eq_true]; exact h1
  have h2 : (decide (0 ≤ s) && decide (s < (m.states.length : Int))) = true := by rw [Bool.and_eq_true]; exact h2
  simp only [go_sem, List.map_nil]
  refine CallU.free (con_index d m.states.length (by omega) (by omega)) (by simp only [go_sem]) (by simp only [go_sem]) ?_
  rintro x bx rfl
  simp only [go_sem, h1]
  refine CallU.free (con_index s m.states.length (by omega) (by omega)) (by simp only [go_sem]) (by simp only [go_sem]) ?_
  rintro x bx rfl
  simp only [go_sem, h2, hk]
  refine DrawK.meet ⟨142, [(2, .pb 0 0), (3, .pb 1 0), (4, vb false), (6, .pb 2 0)], [cM m, [vStr nm, vi s, vi d, vs 0 nd, vs 0 gv, vs 0 mv, vi 0, vi 0, vi 0, vs 0 [], vs 0 [], .sl 0 3 [], vs 0 [], vi 0], [vStr nm, vi s, vi d, vs 0 nd, vs 0 gv, vs 0 mv, vi 0, vi 0, vi 0, .nil, .nil, .nil, .nil, vi 0]]⟩ ?_ ?_
  · refine DrawK.tree rightTree mixed (by kernel_rfl) ?_
    unfold rightTree
    repeat' (first | with_reducible apply andK_mk | simp only [go_sem, hk, List.map_nil])
  · simp only [go_sem]
    refine CallU.free (con_changes m (bareR nm s d nd gv mv) hl) (by simp only [go_sem]) (by simp only [go_sem, hk, List.map_nil]) ?_
    rintro x bx rfl
    simp only [go_sem, h3]
    refine CallU.free (con_moves m (bareR nm s d nd gv mv) hl hp) (by simp only [go_sem]) (by simp only [go_sem, hk, List.map_nil]) ?_
    rintro x bx rfl
    simp only [go_sem, h4]
    refine CallU.free (con_same_only nm s d nd gv mv hl) (by simp only [go_sem]) (by simp only [go_sem, List.map_nil]) ?_
    rintro x bx rfl
    simp only [go_sem]
set_option maxRecDepth 100000 in
theorem con_check1 (m : MD) (r : RD) (hk : m.kind = 1) (hs : m.states.length ≤ 1000000) (hp : m.places.length ≤ 1000000) (hl : r.Len) (hr : ruleB m.states.length m.places.length r = true) (hb : bareB r = true) : Con Tryz.prog 167 [vRule r, .fp (cM m) 0] [] fun x _ => x = .sc (.bool false) := by
  refine Con.intro Tryz.func167 rfl Tryz.ntmps167 Tryz.results167 (by kernel_rfl) (by simp) 1 (by simp) ?_
  simp only [go_sem]
  refine CallU.free (con_right m r hk hs hp hl hr hb) (by simp only [go_sem]) (by simp only [go_sem]) ?_
  rintro x bx rfl
  simp only [go_sem]
end Go.AM

/-! ## CmO -/
namespace Go.AM
open Go Go.Proofs Go.RowKit

/-- a type without parts: its kind, its size -/
def vPT (p : Int × Int) : AV := .ag [vi p.1, vi p.2, .nil, .nil]
/-- a tuple of a label and numbers -/
def partsP (ns np : Nat) : List (Int × Int) := (2, (ns : Int)) :: List.replicate np (1, 0)
def flatT (t : Nat) (ps : List (Int × Int)) : AV := .ag [vi 3, vi 0, .nil, .sl t 4 (ps.map vPT)]
attribute [go_sem] vPT flatT
theorem parts_len (ns np : Nat) : (partsP ns np).length = np + 1 := by simp [partsP]
theorem parts_succ (ns i : Nat) : partsP ns (i + 1) = partsP ns i ++ [(1, 0)] := by unfold partsP; rw [List.replicate_succ']; rfl
theorem getPT {l : List (Int × Int)} {i : Nat} (h : i < l.length) : (l.map vPT)[i]? = some (.ag [.sc (.int .i64 l[i]!.1), .sc (.int .i64 l[i]!.2), .nil, .nil]) := by
  rw [List.getElem?_map, List.getElem?_eq_getElem h, getElem!_pos l i h, Option.map_some]; rfl
set_option maxRecDepth 100000 in
theorem con_label (n : Nat) : Con Tryz.prog 197 [vi n] [] fun r _ => r = vPT (2, n) := by
  refine Con.intro Tryz.func197 rfl Tryz.ntmps197 Tryz.results197 (by kernel_rfl) (by simp) 0 (by simp) ?_
  simp only [go_sem]
set_option maxRecDepth 100000 in
set_option maxHeartbeats 1000000 in
theorem con_typed (m : MD) (hk : m.kind = 1) (hp : m.places.length ≤ 1000000) : Con Tryz.prog 157 [vM m] [] fun r _ => r = flatT 2 (partsP m.states.length m.places.length) := by
  refine Con.intro Tryz.func157 rfl Tryz.ntmps157 Tryz.results157 (by kernel_rfl) (by simp) 0 (by simp) ?_
  simp only [go_sem, hk]
  refine CallU.free (con_label m.states.length) (by simp only [go_sem]) (by simp only [go_sem]) ?_
  rintro r bx rfl
  simp only [go_sem]
  refine LoopK.intro (fun i : Nat => ⟨70, [(1, .pb 0 0), (2, .pb 1 0), (3, .sl 640 4 ((partsP m.states.length i).map vPT)), (14, vi m.places.length), (15, vi i)], cM m :: [.any, .any, .any, .any] :: Rk 4 i⟩)
    (fun i => m.places.length - i) (fun i => i ≤ m.places.length) 0 (by omega) ?_ ?_
  · simp only [go_sem, hk, partsP, List.replicate_zero, List.map_cons, List.map_nil]
    exact leB_self _
  rintro i hi
  by_cases h : i < m.places.length
  · have hw : IntKind.i64.wrap (i + 1) = i + 1 := wrap_in (by omega) (by omega)
    have hB := Rk_len 4 i
    have n0 := fun L : List (List AV) => app_at0 (L := L) hB
    have s0 := fun (L : List (List AV)) z => app_set0 (L := L) (z := z) hB
    have e := parts_succ m.states.length i
    simp only [go_sem, h, hk, hw, hB, n0, s0]
    refine ⟨by simp only [roomFor, parts_len]; omega, ?_⟩
    refine roundK.intro (i + 1) (by omega) (by omega) ?_
    simp only [go_sem, Rk_succ, e, List.map_append, List.map_cons, List.map_nil]
    exact leB_RkA ⟨leC_any _ 4 rfl, trivial⟩
  · obtain rfl : i = m.places.length := by omega
    simp only [go_sem, h]

/-! ### right types -/
def TellsP (f : FuncId) (caps : List AV) (l : List (Int × Int)) (p : Int × Int → Bool) : Prop := ∀ x ∈ l, Con Tryz.prog f ([vPT x] ++ caps) [] fun r _ => r = .sc (.bool (p x))
set_option maxRecDepth 100000 in
theorem con_indexPT (l : List (Int × Int)) (f : FuncId) (caps : List AV) (p : Int × Int → Bool) (hc : mapTops (viewV []) caps = caps) (hf : TellsP f caps l p) (hl : l.length ≤ 9223372036854775806) : Con Tryz.prog 263 [.sl 0 4 (l.map vPT), .fn f caps] [] fun r _ => r = vi (findI p l) := by
  refine Con.intro Tryz.func263 rfl Tryz.ntmps263 Tryz.results263 (by kernel_rfl) (by simp) 0 (by simp) ?_
  simp only [go_sem]
  refine LoopK.intro (fun i : Nat => ⟨19, [(0, .sl 0 4 (l.map vPT)), (1, .fn f caps), (7, vi l.length), (8, vi i)], []⟩)
    (fun i => l.length - i) (fun i => i ≤ l.length ∧ ∀ j, j < i → p l[j]! = false) 0 ⟨by omega, fun j hj => by omega⟩ ?_ ?_
  · simp only [go_sem]
    all_goals exact leV_refl _
  · rintro i ⟨hi, hb⟩
    by_cases h : i < l.length
    · have hg := getPT h
      have hw : IntKind.i64.wrap (i + 1) = i + 1 := wrap_in (by omega) (by omega)
      simp only [go_sem, h, hg]
      refine CallU.look (hf l[i]! (mem_bangI h)) (by simp only [go_sem]) (by simp only [go_sem, hc]) ?_
      rintro r bx rfl
      cases hp : p l[i]!
      · simp only [go_sem, hw]
        refine roundK.intro (i + 1) ⟨by omega, fun j hj => ?_⟩ (by omega) ?_
        · by_cases hji : j = i
          · subst hji; exact hp
          · exact hb j (by omega)
        · simp only [go_sem]
      · simp only [go_sem]
        rw [findI_stop h hb hp]
    · simp only [go_sem, h]
      rw [findI_none (fun j hj => hb j (by omega))]
set_option maxRecDepth 100000 in
theorem con_containsPT (l : List (Int × Int)) (f : FuncId) (caps : List AV) (p : Int × Int → Bool) (hc : mapTops (viewV []) caps = caps) (hf : TellsP f caps l p) (hl : l.length ≤ 9223372036854775806) : Con Tryz.prog 249 [.sl 0 4 (l.map vPT), .fn f caps] [] fun r _ => r = .sc (.bool (l.any p)) := by
  refine Con.intro Tryz.func249 rfl Tryz.ntmps249 Tryz.results249 (by kernel_rfl) (by simp) 0 (by simp) ?_
  simp only [go_sem]
  refine CallU.look (con_indexPT l f caps p hc hf hl) (by simp only [go_sem]) (by simp only [go_sem]) ?_
  rintro r bx rfl
  simp only [go_sem, findI_ge]
/-- a type of numbers, or of 1 to 16 labels -/
def LeafP (p : Int × Int) : Prop := p = (1, 0) ∨ p.1 = 2 ∧ 1 ≤ p.2 ∧ p.2 ≤ 16
set_option maxRecDepth 100000 in
theorem con_rightLeaf (p : Int × Int) (d : Int) (hd : d ≠ 0) (hp : LeafP p) : Con Tryz.prog 224 [vPT p, vi d] [] fun r _ => r = vb true := by
  refine Con.intro Tryz.func224 rfl Tryz.ntmps224 Tryz.results224 (by kernel_rfl) (by simp) 2 (by simp) ?_
  have hd' : (d == 0) = false := beq_eq_false_iff_ne.2 hd
  obtain ⟨k, s⟩ := p
  rcases hp with hp | ⟨rfl, h1, h2⟩
  · cases hp
    simp only [go_sem, hd']
  · simp only at h1 h2
    simp only [go_sem, hd', h1, h2]
set_option maxRecDepth 100000 in
theorem con_right1 (p : Int × Int) (hp : LeafP p) : Con Tryz.prog 250 [vPT p, .fp [vi 8] 0] [] fun r _ => r = .sc (.bool false) := by
  refine Con.intro Tryz.func250 rfl Tryz.ntmps250 Tryz.results250 (by kernel_rfl) (by simp) 1 (by simp) ?_
  have hw : IntKind.i64.wrap 7 = 7 := wrap_in (by omega) (by omega)
  simp only [go_sem, hw]
  refine CallU.free (con_rightLeaf p 7 (by omega) hp) (by simp only [go_sem]) (by simp only [go_sem]) ?_
  rintro r bx rfl
  simp only [go_sem]
theorem any_false {α : Type} (l : List α) : (l.any fun _ => false) = false := by simp
set_option maxRecDepth 100000 in
theorem con_rightFlat (ps : List (Int × Int)) (h1 : 1 ≤ ps.length) (h2 : ps.length ≤ 8) (hp : ∀ p ∈ ps, LeafP p) : Con Tryz.prog 224 [flatT 0 ps, vi 8] [] fun r _ => r = vb true := by
  refine Con.intro Tryz.func224 rfl Tryz.ntmps224 Tryz.results224 (by kernel_rfl) (by simp) 2 (by simp) ?_
  have a1 : ((ps.length : Int) == 0) = false := beq_eq_false_iff_ne.2 (by omega)
  have a2 : ¬ ((8 : Int) < ps.length) := by omega
  simp only [go_sem, a1, a2]
  refine CallU.look (con_containsPT ps 250 [.fp [vi 8] 0] (fun _ => false) (by simp only [go_sem]) (fun x hx => con_right1 x (hp x hx)) (by omega)) (by simp only [go_sem]) (by simp only [go_sem]) ?_
  rintro r bx rfl
  simp only [go_sem, any_false]
set_option maxRecDepth 100000 in
theorem con_ocheck (ps : List (Int × Int)) (h1 : 1 ≤ ps.length) (h2 : ps.length ≤ 8) (hp : ∀ p ∈ ps, LeafP p) : Con Tryz.prog 194 [flatT 0 ps] [] fun r _ => r = vi 0 := by
  refine Con.intro Tryz.func194 rfl Tryz.ntmps194 Tryz.results194 (by kernel_rfl) (by simp) 1 (by simp) ?_
  simp only [go_sem]
  refine CallU.free (con_rightFlat ps h1 h2 hp) (by simp only [go_sem]) (by simp only [go_sem]) ?_
  rintro r bx rfl
  simp only [go_sem]
end Go.AM

/-! ## CmP -/
namespace Go.AM
open Go Go.Proofs Go.RowKit

mutual
/-- the number of nodes, or more than 'most' -/
def countV : CV → Int → Int
  | .mk _ kids, most => countVs kids most 1
def countVs : List CV → Int → Int → Int
  | [], _, n => n
  | k :: l, most, n => if most < n then n else countVs l most (n + countV k (most - n))
end
mutual
theorem countV_bnd : ∀ (v : CV) (most : Int), 0 ≤ most → 1 ≤ countV v most ∧ countV v most ≤ most + 1
  | .mk _ kids, most, h => by
    have := countVs_bnd kids most 1 h (by omega) (by omega)
    rw [countV]; exact this
theorem countVs_bnd : ∀ (l : List CV) (most n : Int), 0 ≤ most → 1 ≤ n → n ≤ most + 1 → 1 ≤ countVs l most n ∧ countVs l most n ≤ most + 1
  | [], most, n, h, h1, h2 => by rw [countVs]; exact ⟨h1, h2⟩
  | k :: l, most, n, h, h1, h2 => by
    rw [countVs]
    by_cases hm : most < n
    · rw [if_pos hm]; exact ⟨h1, h2⟩
    · rw [if_neg hm]
      have := countV_bnd k (most - n) (by omega)
      exact countVs_bnd l most _ h (by omega) (by omega)
end
theorem drop_kid {l : List CV} {i : Nat} (h : i < l.length) : l.drop i = l[i]! :: l.drop (i + 1) := by
  rw [List.drop_eq_getElem_cons h, getElem!_pos l i h]
set_option maxRecDepth 100000 in
theorem con_count (v : CV) (most : Int) (h1 : 0 ≤ most) (h2 : most ≤ 128) (hv : v.Ok) : Con Tryz.prog 225 [vV v, vi most] [] fun r _ => r = vi (countV v most) := by
  have key : ∀ (s : Nat) (v : CV) (most : Int), SizeOf.sizeOf v ≤ s → 0 ≤ most → most ≤ 128 → v.Ok → Con Tryz.prog 225 [vV v, vi most] [] fun r _ => r = vi (countV v most) := by
    intro s
    induction s with
    | zero => intro v _ hs; cases v; rw [CV.mk.sizeOf_spec] at hs; omega
    | succ s ih =>
      intro v most hs h1 h2 hv
      have hlen := hv.len
      have e0 : countV v most = countVs v.kids most 1 := by cases v; rw [countV]; rfl
      rw [vV_eq, e0]
      refine Con.intro Tryz.func225 rfl Tryz.ntmps225 Tryz.results225 (by kernel_rfl) (by simp) 1 (by simp) ?_
      simp only [go_sem]
      refine LoopK.intro (fun q : Nat × Int => ⟨27, [(1, vi most), (2, .pb 0 0), (5, vi q.2), (9, .sl 0 2 (v.kids.map vV)), (10, vi v.kids.length), (11, vi q.1)], [vi v.n, .sl 0 2 (v.kids.map vV)] :: Rk 2 q.1⟩)
        (fun q => v.kids.length - q.1) (fun q => q.1 ≤ v.kids.length ∧ 1 ≤ q.2 ∧ q.2 ≤ most + 1 ∧ countVs (v.kids.drop q.1) most q.2 = countVs v.kids most 1) (0, 1) ⟨by simp, by simp, by show (1 : Int) ≤ most + 1; omega, rfl⟩ ?_ ?_
      · simp only [go_sem]
        exact leB_self _
      rintro ⟨i, n⟩ ⟨hi, hn1, hn2, he⟩
      simp only at hi hn1 hn2 he
      by_cases h : i < v.kids.length
      · have hg := getvV h
        have hw : IntKind.i64.wrap (i + 1) = i + 1 := wrap_in (by omega) (by omega)
        have hB := Rk_len 2 i
        have n0 := fun L : List (List AV) => app_at0 (L := L) hB
        have s0 := fun (L : List (List AV)) z => app_set0 (L := L) (z := z) hB
        rw [drop_kid h, countVs] at he
        by_cases hm : most < n
        · rw [if_pos hm] at he
          simp only [go_sem, h, hg, hB, n0, s0, hm]
          rw [he]
        · rw [if_neg hm] at he
          have hmem : v.kids[i]! ∈ v.kids := mem_bangI h
          have hk := countV_bnd v.kids[i]! (most - n) (by omega)
          have hw2 : IntKind.i64.wrap (most - n) = most - n := wrap_in (by omega) (by omega)
          have hw3 : IntKind.i64.wrap (n + countV v.kids[i]! (most - n)) = n + countV v.kids[i]! (most - n) := wrap_in (by omega) (by omega)
          simp only [go_sem, h, hg, hB, n0, s0, hm, hw2]
          refine CallU.free (ih v.kids[i]! (most - n) (by have := kid_size hmem; omega) (by omega) (by omega) (hv.kid hmem)) (by simp only [go_sem]) (by simp only [go_sem, vV_eq]) ?_
          rintro r bx rfl
          simp only [go_sem, hw, hw3]
          refine roundK.intro (i + 1, n + countV v.kids[i]! (most - n)) ⟨by show i + 1 ≤ _; omega, by show 1 ≤ n + _; omega, by show n + _ ≤ most + 1; omega, he⟩ (by show v.kids.length - (i + 1) < v.kids.length - i; omega) ?_
          simp only [go_sem, Rk_succ]
          exact leB_RkA ⟨leC_any _ 2 rfl, trivial⟩
      · obtain rfl : i = v.kids.length := by omega
        rw [List.drop_length, countVs] at he
        simp only [go_sem, h, he]
  exact key _ v most (Nat.le_refl _) h1 h2 hv
set_option maxRecDepth 100000 in
theorem con_size (v : CV) (hv : v.Ok) : Con Tryz.prog 195 [vV v] [] fun r _ => r = vi (countV v 128) := by
  rw [vV_eq]
  refine Con.intro Tryz.func195 rfl Tryz.ntmps195 Tryz.results195 (by kernel_rfl) (by simp) 1 (by simp) ?_
  simp only [go_sem]
  refine CallU.free (con_count v 128 (by omega) (by omega) hv) (by simp only [go_sem]) (by simp only [go_sem, vV_eq]) ?_
  rintro r bx rfl
  have hb := countV_bnd v 128 (by omega)
  have e : min (countV v 128) 129 = countV v 128 := by omega
  simp only [go_sem, e]
/-- a value of a type without parts -/
def leafOk (p : Int × Int) (v : CV) : Bool := if p.1 = 1 then decide (0 ≤ v.n) && decide (v.n ≤ 1048576) && v.kids.length == 0 else decide (0 ≤ v.n) && decide (v.n < p.2) && v.kids.length == 0
theorem zero_len {α : Type} (l : List α) : ((l.length : Int) == 0) = (l.length == 0) := by rw [Bool.eq_iff_iff]; simp
set_option maxRecDepth 100000 in
theorem con_olabel (v : CV) (s : Int) : Con Tryz.prog 226 [vV v, vi s] [] fun r _ => r = vb (decide (0 ≤ v.n) && decide (v.n < s) && v.kids.length == 0) := by
  rw [vV_eq]
  refine Con.intro Tryz.func226 rfl Tryz.ntmps226 Tryz.results226 (by kernel_rfl) (by simp) 1 (by simp) ?_
  by_cases h1 : 0 ≤ v.n
  · by_cases h2 : v.n < s
    · simp only [go_sem, h1, h2, zero_len, decide_true, Bool.true_and]
    · simp only [go_sem, h1, h2, decide_false, Bool.false_and, Bool.and_false]
  · simp only [go_sem, h1, decide_false, Bool.false_and]
set_option maxRecDepth 100000 in
theorem con_oneLeaf (p : Int × Int) (v : CV) (hp : LeafP p) : Con Tryz.prog 196 [vPT p, vV v] [] fun r _ => r = vb (leafOk p v) := by
  rw [vV_eq]
  refine Con.intro Tryz.func196 rfl Tryz.ntmps196 Tryz.results196 (by kernel_rfl) (by simp) 2 (by simp) ?_
  obtain ⟨k, s⟩ := p
  rcases hp with hp | ⟨rfl, h1, h2⟩
  · cases hp
    have e : leafOk (1, 0) v = (decide (0 ≤ v.n) && decide (v.n ≤ 1048576) && v.kids.length == 0) := by unfold leafOk; rw [if_pos rfl]
    rw [e]
    by_cases h1 : 0 ≤ v.n
    · by_cases h2 : v.n ≤ 1048576
      · simp only [go_sem, h1, h2, zero_len, decide_true, Bool.true_and]
      · simp only [go_sem, h1, h2, decide_false, Bool.false_and, Bool.and_false]
    · simp only [go_sem, h1, decide_false, Bool.false_and]
  · have e : leafOk (2, s) v = (decide (0 ≤ v.n) && decide (v.n < s) && v.kids.length == 0) := by unfold leafOk; rw [if_neg (by simp)]
    rw [e]
    simp only [go_sem]
    refine CallU.free (con_olabel v s) (by simp only [go_sem]) (by simp only [go_sem, vV_eq]) ?_
    rintro r bx rfl
    simp only [go_sem]
/-- a value of a tuple's type -/
def flatOk (ps : List (Int × Int)) (v : CV) : Bool := v.n == 0 && decide (v.kids.length = ps.length) && (List.range ps.length).all fun i => leafOk ps[i]! v.kids[i]!
theorem flat_bad {ps : List (Int × Int)} {v : CV} {i : Nat} (h : i < ps.length) (hb : leafOk ps[i]! v.kids[i]! = false) : flatOk ps v = false := by
  unfold flatOk
  have : ((List.range ps.length).all fun i => leafOk ps[i]! v.kids[i]!) = false := by
    rw [List.all_eq_false]; exact ⟨i, List.mem_range.2 h, by rw [hb]; simp⟩
  rw [this, Bool.and_false]
theorem flat_good {ps : List (Int × Int)} {v : CV} (h0 : v.n = 0) (hl : v.kids.length = ps.length) (h : ∀ i, i < ps.length → leafOk ps[i]! v.kids[i]! = true) : flatOk ps v = true := by
  unfold flatOk
  have : ((List.range ps.length).all fun i => leafOk ps[i]! v.kids[i]!) = true := by
    rw [List.all_eq_true]; exact fun i hi => h i (List.mem_range.1 hi)
  rw [this, h0, decide_eq_true hl]; rfl
set_option maxRecDepth 100000 in
theorem con_oneFlat (ps : List (Int × Int)) (v : CV) (hp : ∀ p ∈ ps, LeafP p) (hl : v.kids.length ≤ 9223372036854775806) : Con Tryz.prog 196 [flatT 0 ps, vV v] [] fun r _ => r = vb (flatOk ps v) := by
  rw [vV_eq]
  refine Con.intro Tryz.func196 rfl Tryz.ntmps196 Tryz.results196 (by kernel_rfl) (by simp) 2 (by simp) ?_
  by_cases h0 : v.n = 0
  case neg =>
    have h0' : (v.n != 0) = true := bne_iff_ne.2 h0
    have e : flatOk ps v = false := by unfold flatOk; rw [beq_eq_false_iff_ne.2 h0]; rfl
    simp only [go_sem, h0', e]
  have h0' : (v.n != 0) = false := by rw [h0]; rfl
  by_cases hn : v.kids.length = ps.length
  case neg =>
    have hn' : ((v.kids.length : Int) != (ps.length : Int)) = true := bne_iff_ne.2 (by omega)
    have e : flatOk ps v = false := by unfold flatOk; rw [decide_eq_false hn, Bool.and_false]; rfl
    simp only [go_sem, h0', hn', e]
  have hn' : ((v.kids.length : Int) != (ps.length : Int)) = false := by rw [hn]; simp
  simp only [go_sem, h0', hn']
  refine LoopK.intro (fun i : Nat => ⟨110, [(2, .pb 0 0), (3, .pb 1 0), (46, .sl 0 2 (v.kids.map vV)), (47, vi v.kids.length), (48, vi i)], [vi 3, vi 0, .nil, .sl 0 4 (ps.map vPT)] :: [vi v.n, .sl 0 2 (v.kids.map vV)] :: Rk 2 i⟩)
    (fun i => v.kids.length - i) (fun i => i ≤ v.kids.length ∧ ∀ j, j < i → leafOk ps[j]! v.kids[j]! = true) 0 ⟨by omega, fun j hj => by omega⟩ ?_ ?_
  · simp only [go_sem]
    exact leB_self _
  rintro i ⟨hi, hb⟩
  by_cases h : i < v.kids.length
  · have h2 : i < ps.length := by omega
    have hg := getvV h
    have hg2 := getPT h2
    have hw : IntKind.i64.wrap (i + 1) = i + 1 := wrap_in (by omega) (by omega)
    have hB := Rk_len 2 i
    have n0 := fun L : List (List AV) => app_at0 (L := L) hB
    have s0 := fun (L : List (List AV)) z => app_set0 (L := L) (z := z) hB
    simp only [go_sem, h, hg, hB, n0, s0]
    refine DrawK.walk 8 mixed (by kernel_rfl) ?_
    simp only [go_sem, h2, hg2, n0]
    refine CallY.mk (con_oneLeaf ps[i]! v.kids[i]! (hp _ (mem_bangI h2))) (by simp only [go_sem, vV_eq]) (by simp only [go_sem]) (.inl (by simp only [go_sem])) ?_
    cases hq : leafOk ps[i]! v.kids[i]!
    · simp only [go_sem]
      rw [flat_bad h2 hq]
    · simp only [go_sem, hw]
      refine roundK.intro (i + 1) ⟨by omega, fun j hj => ?_⟩ (by omega) ?_
      · by_cases hji : j = i
        · subst hji; exact hq
        · exact hb j (by omega)
      · simp only [go_sem, Rk_succ]
        exact leB_RkA ⟨leC_any _ 2 rfl, trivial⟩
  · simp only [go_sem, h]
    rw [flat_good h0 hn (fun j hj => hb j (by omega))]
end Go.AM

/-! ## CmQ -/
namespace Go.AM
open Go Go.Proofs Go.RowKit

theorem conf_flat (ns np : Nat) (c : CV) : flatOk (partsP ns np) c = confB ns np c := by
  obtain ⟨n, kids⟩ := c
  rw [Bool.eq_iff_iff]
  unfold flatOk
  rw [parts_len]
  simp only [CV.n, CV.kids, Bool.and_eq_true, beq_iff_eq, List.all_eq_true, List.mem_range]
  have hz : (partsP ns np)[0]! = (2, (ns : Int)) := rfl
  have hs : ∀ i, i < np → (partsP ns np)[i + 1]! = (1, 0) := fun i hi => by
    unfold partsP
    rw [List.getElem!_cons_succ, getElem!_pos _ i (by simpa using hi), List.getElem_replicate]
  have l0 : ∀ x : CV, leafOk (2, (ns : Int)) x = true ↔ 0 ≤ x.n ∧ x.n < ns ∧ x.kids.length = 0 := fun x => by
    unfold leafOk; rw [if_neg (by simp)]
    simp only [Bool.and_eq_true, decide_eq_true_eq, beq_iff_eq, and_assoc]
  have l1 : ∀ x : CV, leafOk (1, 0) x = true ↔ 0 ≤ x.n ∧ x.n ≤ 1048576 ∧ x.kids.length = 0 := fun x => by
    unfold leafOk; rw [if_pos rfl]
    simp only [Bool.and_eq_true, decide_eq_true_eq, beq_iff_eq, and_assoc]
  cases kids with
  | nil => simp [confB]
  | cons x l =>
    unfold confB
    simp only [Bool.and_eq_true, beq_iff_eq, decide_eq_true_eq, List.all_eq_true, List.length_cons]
    constructor
    · rintro ⟨⟨h0, hl⟩, h⟩
      have hl := of_decide_eq_true hl
      have hx := (l0 x).1 (by have := h 0 (by omega); rw [hz] at this; exact this)
      refine ⟨⟨⟨⟨⟨h0, hx.1⟩, hx.2.1⟩, hx.2.2⟩, by omega⟩, fun k hk => ?_⟩
      obtain ⟨j, hj⟩ := List.getElem?_of_mem hk
      have hjl := (List.getElem?_eq_some_iff.1 hj).1
      have hj2 := h (j + 1) (by omega)
      rw [hs j (by omega), List.getElem!_cons_succ, getElem!_pos l j hjl, (List.getElem?_eq_some_iff.1 hj).2] at hj2
      have := (l1 k).1 hj2
      exact ⟨⟨this.1, this.2.1⟩, this.2.2⟩
    · rintro ⟨⟨⟨⟨⟨h0, h1⟩, h2⟩, h3⟩, hl⟩, h⟩
      refine ⟨⟨h0, decide_eq_true (by omega)⟩, fun i hi => ?_⟩
      cases i with
      | zero => rw [hz]; exact (l0 x).2 ⟨h1, h2, h3⟩
      | succ i =>
        rw [hs i (by omega), List.getElem!_cons_succ]
        have hm : l[i]! ∈ l := mem_bangI (by omega)
        have := h _ hm
        exact (l1 _).2 ⟨this.1.1, this.1.2, this.2⟩
theorem count_leaf {k : CV} (h : k.kids.length = 0) (most : Int) : countV k most = 1 := by
  obtain ⟨n, kids⟩ := k
  have : kids = [] := List.eq_nil_of_length_eq_zero h
  subst this
  rw [countV, countVs]
theorem count_leafs : ∀ (l : List CV) (most n : Int), (∀ k ∈ l, k.kids.length = 0) → n + l.length ≤ most + 1 → countVs l most n = n + l.length
  | [], most, n, _, _ => by rw [countVs]; simp
  | k :: l, most, n, h, hb => by
    simp only [List.length_cons] at hb ⊢
    rw [countVs, if_neg (by omega), count_leaf (h k (List.mem_cons_self ..)), count_leafs l most (n + 1) (fun x hx => h x (List.mem_cons_of_mem _ hx)) (by omega)]
    omega
theorem conf_count {ns np : Nat} {c : CV} (hp : np ≤ 100) (h : confB ns np c = true) : countV c 128 ≤ 128 := by
  obtain ⟨n, kids⟩ := c
  cases kids with
  | nil => simp [confB] at h
  | cons x l =>
    unfold confB at h
    simp only [Bool.and_eq_true, beq_iff_eq, decide_eq_true_eq, List.all_eq_true] at h
    obtain ⟨⟨⟨⟨⟨h0, h1⟩, h2⟩, h3⟩, hl⟩, h⟩ := h
    rw [countV, count_leafs (x :: l) 128 1 (fun k hk => ?_) (by simp only [List.length_cons]; omega)]
    · simp only [List.length_cons]; omega
    · rcases List.mem_cons.1 hk with rfl | hk
      · exact h3
      · exact (h k hk).2
theorem parts_leaf {ns np : Nat} (h1 : 1 ≤ ns) (h2 : ns ≤ 16) : ∀ p ∈ partsP ns np, LeafP p := fun p hp => by
  unfold partsP at hp
  rcases List.mem_cons.1 hp with rfl | hp
  · exact .inr ⟨rfl, by show (1 : Int) ≤ ns; omega, by show (ns : Int) ≤ 16; omega⟩
  · exact .inl (List.mem_replicate.1 hp).2
set_option maxRecDepth 100000 in
theorem con_ovalid (ns np : Nat) (v : CV) (h1 : 1 ≤ ns) (h2 : ns ≤ 16) (h3 : np ≤ 7) (hv : v.Ok) (hl : v.kids.length ≤ 9223372036854775806) : Con Tryz.prog 156 [flatT 0 (partsP ns np), vV v] [] fun r _ => r = vb (confB ns np v) := by
  have e0 := vV_eq v
  rw [e0]
  refine Con.intro Tryz.func156 rfl Tryz.ntmps156 Tryz.results156 (by kernel_rfl) (by simp) 2 (by simp) ?_
  simp only [go_sem]
  refine CallU.free (con_ocheck (partsP ns np) (by rw [parts_len]; omega) (by rw [parts_len]; omega) (parts_leaf h1 h2)) (by simp only [go_sem]) (by simp only [go_sem]) ?_
  rintro r bx rfl
  simp only [go_sem]
  refine CallU.free (con_size v hv) (by simp only [go_sem]) (by simp only [go_sem, vV_eq]) ?_
  rintro r bx rfl
  by_cases hc : countV v 128 ≤ 128
  · simp only [go_sem, hc]
    refine CallU.free (con_oneFlat (partsP ns np) v (parts_leaf h1 h2) hl) (by simp only [go_sem]) (by simp only [go_sem, vV_eq]) ?_
    rintro r bx rfl
    simp only [go_sem, conf_flat]
  · have e : confB ns np v = false := by
      cases hb : confB ns np v
      · rfl
      · exact absurd (conf_count (by omega) hb) hc
    simp only [go_sem, hc, e]

/-! ### valid counter models -/
theorem rule_len {ns np : Nat} {r : RD} (hp : np ≤ 1000000) (hr : ruleB ns np r = true) (hb : bareB r = true) : r.Len := by
  unfold ruleB changesB movesB at hr
  unfold bareB at hb
  simp only [Bool.and_eq_true, Bool.or_eq_true, decide_eq_true_eq, beq_iff_eq] at hr hb
  refine ⟨by omega, by omega, ?_, by omega, by omega, by omega, by omega⟩
  rcases hr.2 with h | h <;> omega
theorem conf_ok {ns np : Nat} {c : CV} (hp : np ≤ 1000000) (h : confB ns np c = true) : c.Ok ∧ c.kids.length = np + 1 := by
  obtain ⟨n, kids⟩ := c
  cases kids with
  | nil => simp [confB] at h
  | cons x l =>
    unfold confB at h
    simp only [Bool.and_eq_true, beq_iff_eq, decide_eq_true_eq, List.all_eq_true] at h
    obtain ⟨⟨⟨⟨⟨h0, h1⟩, h2⟩, h3⟩, hl⟩, h⟩ := h
    have leaf : ∀ k : CV, k.kids.length = 0 → k.Ok := fun k hk => by
      obtain ⟨m, ks⟩ := k
      have : ks = [] := List.eq_nil_of_length_eq_zero hk
      subst this
      exact .mk m [] (by simp) (fun _ hx => by simp at hx)
    refine ⟨.mk n _ (by simp only [List.length_cons]; omega) fun k hk => ?_, by simp only [CV.kids, List.length_cons]; omega⟩
    rcases List.mem_cons.1 hk with rfl | hk
    · exact leaf _ h3
    · exact leaf _ (h k hk).2
theorem names_size {l : List ByteArray} (h : namesB l = true) : ∀ s ∈ l, s.size ≤ 9223372036854775806 := fun s hs => by
  unfold namesB at h
  rw [List.all_eq_true] at h
  obtain ⟨i, hi⟩ := List.getElem?_of_mem hs
  have hil := (List.getElem?_eq_some_iff.1 hi).1
  have := h i (List.mem_range.2 hil)
  unfold okN wordB at this
  rw [getElem!_pos l i hil, (List.getElem?_eq_some_iff.1 hi).2] at this
  simp only [Bool.and_eq_true, decide_eq_true_eq] at this
  omega
theorem good_sized {m : MD} (h : GoodM m) : sizedB m = true := by
  have e : limF m.kind = [1, 6, 0, 0, 0, 0, 0, 0] := by rw [h.kind]; rfl
  have h1 := h.states
  have h2 := h.places
  have h3 := h.few
  unfold sizedB lim betweenB
  rw [e, h.letters, h.levels, h.age]
  simp only [List.getD_cons_zero, List.getD_cons_succ, Bool.and_eq_true, decide_eq_true_eq, List.length_nil]
  refine ⟨⟨⟨⟨⟨⟨?_, ?_⟩, ?_⟩, ?_, ?_⟩, ?_⟩, ?_⟩, ?_⟩ <;> first | omega | simp
theorem good_ranked {m : MD} (h : GoodM m) : rankedB m = true := by
  unfold rankedB
  rw [h.kind, h.ranks]; rfl
theorem good_named {m : MD} (h : GoodM m) : (namesOf m).length ≤ 1000000 := by
  have h1 := h.states
  have h2 := h.places
  have h3 := h.few
  unfold namesOf
  simp only [List.length_append, List.length_map, h.letters, List.length_nil]
  omega
set_option maxRecDepth 100000 in
set_option maxHeartbeats 1000000 in
theorem con_begins (m : MD) (h : GoodM m) : Con Tryz.prog 169 [vM m] [] fun r _ => r = vb true := by
  refine Con.intro Tryz.func169 rfl Tryz.ntmps169 Tryz.results169 (by kernel_rfl) (by simp) 1 (by simp) ?_
  have h1 := h.states
  have h2 := h.places
  have hk := h.kind
  have hc := conf_ok (by omega) h.start
  simp only [go_sem, hk]
  refine DrawK.walk 6 mixed (by kernel_rfl) ?_
  simp only [go_sem]
  refine CallY.mk (con_typed m hk (by omega)) (by simp only [go_sem, hk]) (by simp only [go_sem]) (.inl (by simp only [go_sem])) ?_
  simp only [go_sem]
  refine CallY.mk (con_ovalid m.states.length m.places.length m.start (by omega) (by omega) (by omega) hc.1 (by omega)) (by simp only [go_sem, vV_eq]) (by simp only [go_sem]) (.inr (by simp only [go_sem])) ?_
  simp only [go_sem, h.start]
set_option maxRecDepth 100000 in
set_option maxHeartbeats 1000000 in
theorem con_check (m : MD) (h : GoodM m) : Con Tryz.prog 121 [vM m] [] fun r _ => r = vi 0 := by
  refine Con.intro Tryz.func121 rfl Tryz.ntmps121 Tryz.results121 (by kernel_rfl) (by simp) 1 (by simp) ?_
  have h1 := h.states
  have h2 := h.places
  have h3 := h.few
  have hk := h.kind
  have hr0 : m.ranks.length ≤ 9223372036854775806 := by rw [h.ranks]; simp
  simp only [go_sem, hk]
  refine CallU.free (con_between 1 1 6) (by simp only [go_sem]) (by simp only [go_sem]) ?_
  rintro r bx rfl
  have e1 : betweenB 1 1 6 = true := by decide
  simp only [go_sem, e1]
  refine CallU.free (con_sized m) (by simp only [go_sem]) (by simp only [go_sem, hk]) ?_
  rintro r bx rfl
  simp only [go_sem, good_sized h]
  refine CallU.free (con_ranked m hr0) (by simp only [go_sem]) (by simp only [go_sem, hk]) ?_
  rintro r bx rfl
  simp only [go_sem, good_ranked h]
  refine CallU.free (con_named m h1.1 (good_named h) (names_size h.names)) (by simp only [go_sem]) (by simp only [go_sem, hk]) ?_
  rintro r bx rfl
  simp only [go_sem, h.names]
  refine CallU.look (con_containsRule m.rules 167 [.fp (cM m) 0] (fun _ => false) (by simp only [go_sem]) (fun r hr => con_check1 m r hk (by omega) (by omega) (rule_len (by omega) (h.rules r hr).1 (h.rules r hr).2) (h.rules r hr).1 (h.rules r hr).2) (by omega)) (by simp only [go_sem]) (by simp only [go_sem, hk]) ?_
  rintro r bx rfl
  simp only [go_sem, any_false]
  refine CallU.free (con_begins m h) (by simp only [go_sem]) (by simp only [go_sem, hk]) ?_
  rintro r bx rfl
  simp only [go_sem]
set_option maxRecDepth 100000 in
set_option maxHeartbeats 1000000 in
theorem con_mvalid (m : MD) (c : CV) (h : GoodM m) (hc : c.Ok) (hl : c.kids.length ≤ 9223372036854775806) : Con Tryz.prog 94 [vM m, vV c] [] fun r _ => r = vb (confB m.states.length m.places.length c) := by
  have e0 := vV_eq c
  rw [e0]
  refine Con.intro Tryz.func94 rfl Tryz.ntmps94 Tryz.results94 (by kernel_rfl) (by simp) 2 (by simp) ?_
  have h1 := h.states
  have h2 := h.places
  have hk := h.kind
  simp only [go_sem, hk]
  refine DrawK.walk 10 mixed (by kernel_rfl) ?_
  simp only [go_sem]
  refine CallY.mk (con_check m h) (by simp only [go_sem, hk]) (by simp only [go_sem]) (.inl (by simp only [go_sem])) ?_
  simp only [go_sem]
  refine CallY.mk (con_typed m hk (by omega)) (by simp only [go_sem, hk]) (by simp only [go_sem]) (.inl (by simp only [go_sem])) ?_
  simp only [go_sem]
  refine CallY.mk (con_ovalid m.states.length m.places.length c (by omega) (by omega) (by omega) hc hl) (by simp only [go_sem, vV_eq]) (by simp only [go_sem]) (.inr (by simp only [go_sem])) ?_
  simp only [go_sem]
def stillB (r : RD) : Bool := r.move.length == 0
set_option maxRecDepth 100000 in
theorem con_plain1 (r : RD) : Con Tryz.prog 190 [vRule r] [] fun x _ => x = .sc (.bool (!stillB r)) := by
  refine Con.intro Tryz.func190 rfl Tryz.ntmps190 Tryz.results190 (by kernel_rfl) (by simp) 1 (by simp) ?_
  unfold stillB
  simp only [go_sem]
  cases r.move <;> simp
set_option maxRecDepth 100000 in
theorem con_plain (m : MD) (hk : m.kind = 1) (hl : m.rules.length ≤ 9223372036854775806) : Con Tryz.prog 144 [vM m] [] fun x _ => x = vb (m.rules.all stillB) := by
  refine Con.intro Tryz.func144 rfl Tryz.ntmps144 Tryz.results144 (by kernel_rfl) (by simp) 1 (by simp) ?_
  simp only [go_sem, hk]
  refine CallU.free (con_containsRule m.rules 190 [] (fun r => !stillB r) rfl (fun r _ => con_plain1 r) hl) (by simp only [go_sem]) (by simp only [go_sem]) ?_
  rintro r bx rfl
  simp only [go_sem, any_not]
set_option maxRecDepth 100000 in
theorem con_counts (m : MD) (h : GoodM m) (hs : m.rules.all stillB = true) : Con Tryz.prog 82 [vM m] [] fun r _ => r = vi 0 := by
  refine Con.intro Tryz.func82 rfl Tryz.ntmps82 Tryz.results82 (by kernel_rfl) (by simp) 1 (by simp) ?_
  have h3 := h.few
  simp only [go_sem]
  refine CallU.free (con_check m h) (by simp only [go_sem]) (by simp only [go_sem]) ?_
  rintro r bx rfl
  simp only [go_sem]
  refine CallU.free (con_plain m h.kind (by omega)) (by simp only [go_sem]) (by simp only [go_sem]) ?_
  rintro r bx rfl
  simp only [go_sem, hs]
end Go.AM

/-! ## CmR -/
namespace Go.AM
open Go Go.Proofs Go.RowKit

def badC (c : Int) : Bool := decide (c < -4) || decide (4 < c)
set_option maxRecDepth 100000 in
theorem con_fits1 (c : Int) : Con Tryz.prog 158 [vi c] [] fun r _ => r = .sc (.bool (badC c)) := by
  refine Con.intro Tryz.func158 rfl Tryz.ntmps158 Tryz.results158 (by kernel_rfl) (by simp) 0 (by simp) ?_
  unfold badC
  by_cases h1 : c < -4
  · simp only [go_sem, h1, decide_true, Bool.true_or]
  · simp only [go_sem, h1, decide_false, Bool.false_or]
theorem small_fits {c : List Int} (h : SmallI 4 c) : c.any badC = false := by
  rw [List.any_eq_false]
  intro x hx
  have := h x hx
  unfold badC
  rw [decide_eq_false (by omega), decide_eq_false (by omega)]; simp
set_option maxRecDepth 100000 in
theorem con_fits (c : List Int) (h : SmallI 4 c) (hl : c.length ≤ 9223372036854775806) : Con Tryz.prog 96 [vs 0 c] [] fun r _ => r = vb true := by
  refine Con.intro Tryz.func96 rfl Tryz.ntmps96 Tryz.results96 (by kernel_rfl) (by simp) 0 (by simp) ?_
  simp only [go_sem]
  refine CallU.free (con_containsInt c 158 [] badC rfl (fun x _ => con_fits1 x) hl) (by simp only [go_sem]) (by simp only [go_sem]) ?_
  rintro r bx rfl
  simp only [go_sem, small_fits h]
def ModOk (m : Int) : Prop := m = 0 ∨ 2 ≤ m ∧ m ≤ 8
set_option maxRecDepth 100000 in
theorem con_modulus (m : Int) (h : ModOk m) : Con Tryz.prog 97 [vi m] [] fun r _ => r = vb true := by
  refine Con.intro Tryz.func97 rfl Tryz.ntmps97 Tryz.results97 (by kernel_rfl) (by simp) 0 (by simp) ?_
  rcases h with rfl | ⟨h1, h2⟩
  · simp only [go_sem]
  · have h0 : (m == 0) = false := beq_eq_false_iff_ne.2 (by omega)
    simp only [go_sem, h0, h1, h2]
def badV (low high v : Int) : Bool := (v != 1099511627776) && (decide (v < low) || decide (high < v))
set_option maxRecDepth 100000 in
theorem con_acheck1 (v low high : Int) : Con Tryz.prog 115 [vi v, .fp [vi low] 0, .fp [vi high] 0] [] fun r _ => r = .sc (.bool (badV low high v)) := by
  refine Con.intro Tryz.func115 rfl Tryz.ntmps115 Tryz.results115 (by kernel_rfl) (by simp) 0 (by simp) ?_
  unfold badV
  cases h0 : (v != 1099511627776)
  · simp only [go_sem, h0, Bool.false_and]
  · by_cases h1 : v < low
    · simp only [go_sem, h0, h1, decide_true, Bool.true_or, Bool.true_and]
    · simp only [go_sem, h0, h1, decide_false, Bool.false_or, Bool.true_and]
def lowF (mod : Int) : Int := if 0 < mod then 0 else -1099511627776
def highF (mod : Int) : Int := if 0 < mod then mod - 1 else 1099511627775
/-- the values are right for a modulus -/
def valuesB (mod : Int) (l : List Int) : Bool := !l.any (badV (lowF mod) (highF mod))
def acheckF (a : AtomD) : Int := if valuesB a.mod a.values then 0 else 44
/-- the parts of an atom that are not the values are right -/
structure FormA (m : MD) (a : AtomD) : Prop where
  coefs : a.coefs.length = m.places.length
  small : SmallI 4 a.coefs
  mod : ModOk a.mod
  values : a.values.length = m.states.length
def acheckTree : Tr := .front 0 (.alt (.one 1 (.alt (.one 2 (.one 3 (.one 4 .done))) (.one 3 (.one 2 (.one 4 .done))))) (.one 3 (.one 1 (.one 2 (.one 4 .done)))))
set_option maxRecDepth 100000 in
set_option maxHeartbeats 2000000 in
theorem con_acheck (m : MD) (a : AtomD) (h : GoodM m) (hs : m.rules.all stillB = true) (ha : FormA m a) : Con Tryz.prog 53 [vM m, vAtom a] [] fun r _ => r = vi (acheckF a) := by
  refine Con.intro Tryz.func53 rfl Tryz.ntmps53 Tryz.results53 (by kernel_rfl) (by simp) 2 (by simp) ?_
  have h1 := h.states
  have h2 := h.places
  have c1 : ((a.coefs.length : Int) != (m.places.length : Int)) = false := by rw [ha.coefs]; simp
  have c2 : ((a.values.length : Int) != (m.states.length : Int)) = false := by rw [ha.values]; simp
  have l1 := ha.coefs
  have l2 := ha.values
  simp only [go_sem]
  refine CallU.free (con_counts m h hs) (by simp only [go_sem]) (by simp only [go_sem]) ?_
  rintro r bx rfl
  simp only [go_sem, c1]
  refine CallU.free (con_fits a.coefs ha.small (by omega)) (by simp only [go_sem]) (by simp only [go_sem]) ?_
  rintro r bx rfl
  simp only [go_sem]
  refine CallU.free (con_modulus a.mod ha.mod) (by simp only [go_sem]) (by simp only [go_sem]) ?_
  rintro r bx rfl
  have fin : ∀ (low high : Int), low = lowF a.mod → high = highF a.mod → Con Tryz.prog 78 [vs 0 a.values, .fn 115 [.fp [vi low] 0, .fp [vi high] 0]] [] fun r _ => r = .sc (.bool (!valuesB a.mod a.values)) := by
    rintro _ _ rfl rfl
    have := con_containsInt a.values 115 [.fp [vi (lowF a.mod)] 0, .fp [vi (highF a.mod)] 0] (badV (lowF a.mod) (highF a.mod)) (by simp only [go_sem]) (fun x _ => con_acheck1 x _ _) (by omega)
    unfold valuesB
    rw [Bool.not_not]; exact this
  unfold acheckF
  by_cases hp : 0 < a.mod
  · have hw : IntKind.i64.wrap (a.mod - 1) = a.mod - 1 := by have := ha.mod; unfold ModOk at this; exact wrap_in (by omega) (by omega)
    simp only [go_sem, c2, hp]
    refine DrawK.meet ⟨51, [(2, .pb 0 0), (3, .pb 1 0), (4, vi 0), (6, .pb 2 0), (7, .pb 3 0)], [cM m, [vs 0 a.coefs, vi a.mod, vs 0 a.values], [vi 0], [vi (a.mod - 1)]]⟩ ?_ ?_
    · refine DrawK.tree acheckTree mixed (by kernel_rfl) ?_
      unfold acheckTree
      repeat' (first | with_reducible apply andK_mk | simp only [go_sem, hw])
    · simp only [go_sem]
      refine CallU.look (fin 0 (a.mod - 1) (by unfold lowF; rw [if_pos hp]) (by unfold highF; rw [if_pos hp])) (by simp only [go_sem]) (by simp only [go_sem]) ?_
      rintro r bx rfl
      cases valuesB a.mod a.values
      · simp only [go_sem]
        all_goals rfl
      · simp only [go_sem]
        all_goals rfl
  · simp only [go_sem, c2, hp]
    refine CallU.look (fin (-1099511627776) 1099511627775 (by unfold lowF; rw [if_neg hp]) (by unfold highF; rw [if_neg hp])) (by simp only [go_sem]) (by simp only [go_sem]) ?_
    rintro r bx rfl
    cases valuesB a.mod a.values
    · simp only [go_sem]
      all_goals rfl
    · simp only [go_sem]
      all_goals rfl
end Go.AM
