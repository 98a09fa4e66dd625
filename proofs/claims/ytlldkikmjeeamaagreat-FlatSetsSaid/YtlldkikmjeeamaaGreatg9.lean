/-
  The abstract machine: a region that draws its order, among whose operations are new variables: for each a place is kept ahead.
  Walks: numbers of the dice; configurations of the dice.
  Configurations and models as they are built: what is empty is nil.
  Walks: loops of counter models: how often they can be done, where they lead.
  Walks: where cycles of counter models lead: flat.Times, After, Reaches.
  Walks: where cycles of counter models lead: flat.After, Times, Reaches.
  Walks: where cycles of counter models lead: flat.Reaches.
  Walks: the reference of models: numbers and names.
  Walks: the reference of models: keywords, all names, rules.
  Walks: the reference of models: rules, the type of configurations.
  Walks: the reference of models: the type of configurations, valid types.
  Walks: the reference of models: right configurations, right models.
  Walks: the reference of chapter 32: what it computes with.
  Plain laws: all short cycles of a counter model.
  Walks: the reference's short cycles of counter models.
-/
import Derived.Test.YtlldkikmjeeamaaGreatg7
import Derived.Test.YtlldkikmjeeamaaGreatg8
/-! ## Am5 -/
namespace Go.AM
open Go.RowKit

/-! ### places that are kept -/
/-- no pointer to variable N -/
def noPb (N : Nat) : AV → Bool
  | .pb i _ => decide (i ≠ N)
  | .cl _ caps => caps.all fun c => match c with
    | .pb i _ => decide (i ≠ N)
    | _ => true
  | _ => true
def noPbT (N : Nat) : List (Nat × AV) → Bool
  | [] => true
  | (_, v) :: r => v.allLeaf (noPb N) && noPbT N r
def noPbB (N : Nat) : List (List AV) → Bool
  | [] => true
  | cs :: r => allLeafs (noPb N) cs && noPbB N r
theorem noPbT_look {N : Nat} : ∀ {l : List (Nat × AV)}, noPbT N l = true → ∀ s, (lookT l s).allLeaf (noPb N) = true
  | [], _, s => by simp [lookT, AV.allLeaf, noPb]
  | (k, v) :: r, h, s => by
    simp only [noPbT, Bool.and_eq_true] at h
    simp only [lookT]
    split
    · exact h.1
    · exact noPbT_look h.2 s
theorem noPbB_mem {N : Nat} : ∀ {l : List (List AV)}, noPbB N l = true → ∀ (i : Nat) cs, l[i]? = some cs → ∀ x ∈ cs, x.allLeaf (noPb N) = true
  | [], _, i, cs, h, _, _ => by simp at h
  | y :: r, h, i, cs, hi, x, hx => by
    simp only [noPbB, Bool.and_eq_true] at h
    cases i with
    | zero => simp at hi; subst hi; exact allLeafs_mem h.1 x hx
    | succ i => exact noPbB_mem h.2 i cs (by simpa using hi) x hx
theorem noPbT_put {N : Nat} {x : AV} (hx : x.allLeaf (noPb N) = true) : ∀ {l : List (Nat × AV)} {s : Nat}, noPbT N l = true → noPbT N (putT l s x) = true
  | [], s, _ => by simp [putT, noPbT, hx]
  | (s', v) :: r, s, h => by
    simp only [noPbT, Bool.and_eq_true] at h
    unfold putT
    split
    · simp [noPbT, hx, h.2]
    · simp [noPbT, h.1, noPbT_put hx h.2]
theorem noPbB_set {N : Nat} : ∀ (bx : List (List AV)) (k : Nat) (c' : List AV), noPbB N bx = true → allLeafs (noPb N) c' = true → noPbB N (bx.set k c') = true
  | [], _, _, _, _ => rfl
  | b :: bx, 0, c', h1, h2 => by simp only [List.set_cons_zero, noPbB, Bool.and_eq_true] at h1 ⊢; exact ⟨h2, h1.2⟩
  | b :: bx, k + 1, c', h1, h2 => by simp only [List.set_cons_succ, noPbB, Bool.and_eq_true] at h1 ⊢; exact ⟨h1.1, noPbB_set bx k c' h1.2 h2⟩
def unboxG (N : Nat) (G : Nat → Status) (b : Nat) : Status := if G b = .box N then .junk else G b
theorem unboxG_stable {N : Nat} {G : Nat → Status} {b : Nat} : Stable (unboxG N G) b ↔ Stable G b := by
  unfold Stable unboxG
  split
  · rename_i h; rw [h]; simp
  · exact Iff.rfl
theorem unboxG_tag {N t : Nat} {G : Nat → Status} {b : Nat} : unboxG N G b = .tag t ↔ G b = .tag t := by
  unfold unboxG
  split
  · rename_i h; rw [h]; simp
  · exact Iff.rfl
theorem unboxG_box {N i : Nat} {G : Nat → Status} {b : Nat} : unboxG N G b = .box i ↔ G b = .box i ∧ i ≠ N := by
  unfold unboxG
  split
  · rename_i h; rw [h]; simp; exact fun e => e.symm
  · rename_i h
    exact ⟨fun h' => ⟨h', fun e => h (by rw [h', e])⟩, fun h' => h'.1⟩
theorem VRel.unbox {N : Nat} {G : Nat → Status} {w : World} {x : AV} {v : Value} (h : VRel G w x v) (hq : x.allLeaf (noPb N) = true) : VRel (unboxG N G) w x v := by
  have hF : ∀ {x v}, FRel (Stable G) w x v → FRel (Stable (unboxG N G)) w x v := fun hr => hr.mono (fun b => unboxG_stable.2) (fun _ _ => rfl)
  have hsl : ∀ {t es xs v}, VRel G w (.sl t es xs) v → VRel (unboxG N G) w (.sl t es xs) v := by
    intro t es xs v h
    cases h with
    | froz h => exact .froz (hF h)
    | own _ _ _ _ e vals h1 h2 h3 h4 h0 h5 => exact .own t es xs v e vals h1 h2 (fun b hb => unboxG_tag.2 (h3 b hb)) h4 h0 (h5.mono fun x y _ hr => hF hr)
  have hso : ∀ {t xs v}, VRel G w (.so t xs) v → VRel (unboxG N G) w (.so t xs) v := by
    intro t xs v h
    have := h.so_map (f := id) (G' := unboxG N G) (w' := w) h.so_two (fun x u hx hr => ⟨hx, by
      cases hr with
      | froz hr => exact .froz (hF hr)
      | own t' es ys _ e vals h1 hrt h2 h3 h4 h0 h5 => exact .own t' es ys _ e vals h1 hrt h2 (fun b hb => unboxG_tag.2 (h3 b hb)) h4 h0 (h5.mono fun x y _ hr => hF hr)⟩)
      (fun b hb => ⟨unboxG_tag.2 hb, rfl⟩)
    simpa using this
  refine h.keepQ (fun x v hx hq h => ?_) hq
  cases x with
  | so t xs => exact hso h
  | po t xs i =>
    obtain ⟨b, off, c, h1, h2, rfl⟩ := h.po_inv
    exact (hso h1).po_of rfl h2
  | sl t es xs => exact hsl h
  | pe t es xs i o =>
    obtain ⟨b, off, c, h1, h2, rfl⟩ := h.pe_inv
    exact .pe _ _ _ _ _ _ _ _ (hsl h1) h2
  | pb i o =>
    obtain ⟨b, hb, rfl⟩ := h.pb_inv
    simp only [noPb, decide_eq_true_eq] at hq
    exact .pb _ _ _ (unboxG_box.2 ⟨hb, hq⟩)
  | ag cs => simp [AV.leafy] at hx
  | tup cs => simp [AV.leafy] at hx
  | any => exact .froz (.any _)
  | nil => rw [h.nil_inv]; exact .froz .nil
  | ub => obtain ⟨b, rfl⟩ := h.ub_inv; exact .froz (.ub b)
  | sc u => rw [h.sc_inv]; exact .froz (.sc _)
  | fn g caps => cases h with | froz h => exact .froz (hF h)
  | mp t P k e D => exact h.mpMono (fun b hb => unboxG_tag.2 hb) (fun _ _ _ _ _ => rfl)
  | cl g caps =>
    obtain ⟨vs, rfl, hp⟩ := h.cl_inv
    simp only [noPb, List.all_eq_true] at hq
    refine .cl _ _ _ (hp.mono fun x u hx hr => ?_)
    rcases hr with ⟨i, o, b, rfl, hb, rfl⟩ | hr
    · have := hq _ hx
      simp only [decide_eq_true_eq] at this
      exact .inl ⟨i, o, b, rfl, unboxG_box.2 ⟨hb, this⟩, rfl⟩
    · exact .inr (hF hr)
  | tl t es xs i =>
    obtain ⟨b, off, off', c, h1, h2, h3, _, rfl⟩ := h.tl_inv
    exact .tl _ _ _ _ _ _ _ _ (hsl h1) h2 h3
  | fp cs o => cases h with | froz h => exact .froz (hF h)
/-- a place of which the frame knows nothing: there is no variable there -/
theorem SRel.unbox {G0 w0 σ G a w} (h : SRel G0 w0 σ G a w) {N k : Nat} (hg : G0.gh N = none) (h0 : ∀ b, b < w0.heap.size → G0 b ≠ .box N) (ht : noPbT N σ.tmps = true) (hb : noPbB N σ.boxes = true) (hc : σ.boxes[N]? = some (List.replicate k .any)) :
    SRel G0 w0 σ (unboxG N G) a w ∧ ∀ b, unboxG N G b ≠ .box N := by
  have hn : ∀ b, unboxG N G b ≠ .box N := fun b hb => (unboxG_box.1 hb).2 rfl
  refine ⟨{ h with good := ?_, slots := fun s => (h.slots s).unbox (noPbT_look ht s), boxes := ⟨h.boxes.low, fun i cs hi => ?_⟩, blt := fun b i hb => h.blt b i (unboxG_box.1 hb).1, stat := fun b hbl hnt => ?_ }, hn⟩
  · refine ⟨fun b hb => h.good.lt b fun h' => hb (by unfold unboxG; rw [h']; simp), fun b b' t h1 h2 => h.good.tags b b' t (unboxG_tag.1 h1) (unboxG_tag.1 h2), fun b b' i h1 h2 => h.good.boxes b b' i (unboxG_box.1 h1).1 (unboxG_box.1 h2).1⟩
  · by_cases hiN : i = N
    · subst hiN
      rw [hc] at hi; cases hi
      exact .inr (.inr ⟨hg, hn, fun x hx v => by rw [(List.mem_replicate.1 hx).2]; exact .froz (.any _)⟩)
    · refine (h.boxes.cell i cs hi).turn rfl (fun j x y v h1 h2 hr => ?_) (fun b hb => ⟨unboxG_box.2 ⟨hb, hiN⟩, rfl⟩) fun h0 b hb => h0 b (unboxG_box.1 hb).1
      rw [h1] at h2; cases h2
      exact hr.unbox (noPbB_mem hb i cs hi x (List.mem_of_getElem? h1))
  · have h1 := h.stat b hbl hnt
    unfold unboxG
    rw [if_neg (fun h' => h0 b hbl (by rw [← h1, h'])), h1]
/-- .. and now there is one -/
theorem SRel.realize {G0 w0 σ G a w} (h : SRel G0 w0 σ G a w) {N d : Nat} {z : Value} {T : TypeId} (hg : G0.gh N = none) (hn : ∀ b, G b ≠ .box N) (hc : σ.boxes[N]? = some (List.replicate z.cells.size .any)) (hz : One z.cells.toList) (hd : d < σ.n) :
    SRel G0 w0 (σ.put (some d) (.pb N 0)) (updG G w.heap.size (.box N)) (a.put (some d) (.pointer (some ⟨w.heap.size, 0, none⟩))) (w.alloc (.cells z.cells T)) := by
  have hE : Ext G w (updG G w.heap.size (.box N)) (w.alloc (.cells z.cells T)) := .alloc _ _
  have hG : Good (updG G w.heap.size (.box N)) (w.alloc (.cells z.cells T)) := h.good.upd _ _ (Nat.le_refl _) (by simp) (by simp) (fun t ht => by cases ht) (fun i hi b hb => by cases hi; exact hn b hb)
  have hbx : ∀ b i, updG G w.heap.size (.box N) b = .box i → (b = w.heap.size ∧ i = N) ∨ G b = .box i := fun b i hb => by
    unfold updG at hb
    split at hb
    · rename_i e; cases hb; exact .inl ⟨e, rfl⟩
    · exact .inr hb
  have hNl : N < σ.boxes.length := (List.getElem?_eq_some_iff.1 hc).1
  refine { good := hG, slots := slots_put (fun s => (h.slots s).ext h.good hE) h.size (by simpa [dstOk] using hd) (.pb _ _ _ (by simp [updG])), boxes := ⟨fun i vs hv => by rw [put_boxes]; exact h.boxes.low i vs hv, fun i cs hi => ?_⟩, blt := fun b i hb => ?_, size := by rw [put_size, put_n]; exact h.size, defs := by rw [put_defers]; exact h.defs, os := hE.os.trans h.os, tape := hE.tape.trans h.tape, output := hE.output.trans h.output, hsize := Nat.le_trans h.hsize hE.size, stat := fun b hb ht => (hE.stat b (Nat.lt_of_lt_of_le hb h.hsize)).trans (h.stat b hb ht), keep := fun b hb hn' ht => (hE.keep b (Nat.lt_of_lt_of_le hb h.hsize)).trans (h.keep b hb hn' ht) }
  · rw [put_boxes] at hi
    by_cases hiN : i = N
    · subst hiN
      rw [hc] at hi; cases hi
      refine .inl ⟨hg, w.heap.size, z.cells, T, by simp [updG], heap_alloc_new w _, hz, by simp, fun j x u hx _ => ?_⟩
      rw [List.getElem?_replicate] at hx
      split at hx
      · cases hx; exact .froz (.any _)
      · cases hx
    · refine (h.boxes.cell i cs hi).same (fun x v hr => hr.ext h.good hE) (fun b hb => ?_) fun h0 b hb => ?_
      · have hbs := h.good.lt b (by rw [hb]; simp)
        exact ⟨by rw [hE.stat b hbs]; exact hb, hE.keep b hbs⟩
      · rcases hbx b i hb with ⟨_, e⟩ | h1
        · exact hiN e
        · exact h0 b h1
  · rw [put_boxes]
    rcases hbx b i hb with ⟨_, rfl⟩ | h1
    · exact hNl
    · exact h.blt b i h1

def lookA : List (Nat × Nat) → Nat → Option Nat
  | [], _ => none
  | (i, N) :: r, k => if i = k then some N else lookA r k
/-- a new variable, at the place that was kept for it -/
def AllocP (P : Program) (bx : List (List AV)) (o : Oper) (N : Nat) (y : AV) : Prop :=
  o.guard = none ∧ y = .pb N 0 ∧ ∃ T q z, o.op = .alloc T ∧ tinfo P T = some q ∧ q.2.2 = some z ∧ zeroOk q.1 z = true ∧ bx[N]? = some (List.replicate q.1 .any)

section
variable {P : Program} {ops : Array Oper} {m : Nat} {vs : List (Nat × AV)} {E : List Nat} {A : List (Nat × Nat)} {C : Nat → List AV} {i0 : Nat} {σ : St} {K : St → Prop} {G0 : Orig} {w0 : World} {Q : Exit → Act → World → Prop}

theorem head_runP {LF : List Nat} {tr : Tr} {sg : Option (Nat × Tr)} (hp : PlanL ops m E LF tr sg) (hE : PlanE ops m E) (h0 : True) (hN : ∀ e a w, e ≠ .normal → ¬ Q e a w) (hQ : ∀ σ' G' a' w', K σ' → SRel G0 w0 σ' G' a' w' → Q .normal a' w') (hvl : vs.length = m) (hap : Apart vs) (hC : ∀ j, (C j).length = (C 0).length)
    (hK : treeA P ops tr (puts { σ with boxes := σ.boxes.set i0 (C E.length) } vs) K) (hK2 : sgA P ops sg (puts { σ with boxes := σ.boxes.set i0 (C E.length) } vs) K)
    (hst : ∀ i o, i < m → ops[i]? = some o → ∃ d y, vs[i]? = some (d, y) ∧ o.dst = some d ∧ d < σ.n ∧
      if i ∈ E then EffC P σ i0 o d (puts σ (vs.take i)).ev (C (E.filter fun e => decide (e < i)).length) y (C ((E.filter fun e => decide (e < i)).length + 1)) else if i ∈ LF then FrontC P o (puts σ (vs.take i)).ev y else match lookA A i with | some N => AllocP P σ.boxes o N y | none => StepG P ops o d (puts σ (vs.take i)) (σ.boxes.set i0 (blankC E (C 0))) y)
    (hA : ∀ i N, i < m → lookA A i = some N → N ≠ i0 ∧ G0.gh N = none ∧ (∀ b, b < w0.heap.size → G0 b ≠ .box N) ∧ (∀ j d y, j ≠ i → vs[j]? = some (d, y) → y.allLeaf (noPb N) = true) ∧ ∀ j, allLeafs (noPb N) (C j) = true)
    (hfr : ∀ i o d, ops[i]? = some o → i < m → o.dst = some d → creates o.op = true → (∀ j d' y, j ≠ i → vs[j]? = some (d', y) → y.allLeaf (freeLeaf d) = true ∨ reach ops j j i = true) ∧ ∀ j, allLeafs (freeLeaf d) (C j) = true) :
    ∀ (fuel : Nat) (listed : Array Bool) (U : List Nat) (τ : St) (G : Nat → Status) (a : Act) (w : World), Left ops listed U → U.length = fuel → (∀ i, m ≤ i → listed.getD i false = false) →
      Closed ops (fun k => listed.getD k false) → AtE vs E C i0 (fun i => listed.getD i false) σ τ → SRel G0 w0 τ G a w →
      (∀ i o d, ops[i]? = some o → i < m → o.dst = some d → creates o.op = true → listed.getD i false = false → τ.free d = true) →
      (∀ i N, i < m → lookA A i = some N → i ∉ E → i ∉ LF → listed.getD i false = false → noPbT N τ.tmps = true ∧ noPbB N τ.boxes = true) → wpAny P .any ops Q fuel listed a w := by
  have posAll : ∀ {L : Nat → Bool}, (∀ i, i < m → L i = true) → posE E L = E.length := fun {L} h => by
    unfold posE
    rw [List.filter_eq_self.2 fun e he => h e (hE.lt e he)]
  have done : ∀ {τ G a w} {L : Nat → Bool}, AtE vs E C i0 L σ τ → (∀ i, i < m → L i = true) → SRel G0 w0 τ G a w → SRel G0 w0 (puts { σ with boxes := σ.boxes.set i0 (C E.length) } vs) G a w := by
    intro τ G a w L hat hall h
    have hpa := puts_at m vs { σ with boxes := σ.boxes.set i0 (C E.length) } hap
    rw [List.take_of_length_le (by omega)] at hpa
    refine h.slotsEq (by rw [hpa.n, hat.n]) (by rw [hpa.boxes, hat.boxes, posAll hall]) fun s => ?_
    by_cases hs : ∀ (i d : Nat) (y : AV), vs[i]? = some (d, y) → d ≠ s
    · rw [hpa.rest s hs, hat.rest s hs]; rfl
    · have : ∃ (i : Nat) (y : AV), vs[i]? = some (s, y) := by
        apply Classical.byContradiction
        intro hcon
        exact hs fun i d y hi hds => hcon ⟨i, y, by rw [← hds]; exact hi⟩
      obtain ⟨i, y, hi⟩ := this
      have hil : i < m := by rw [← hvl]; exact (List.getElem?_eq_some_iff.1 hi).1
      rw [hpa.dst i s y hi, hat.dst i s y hi]
      simp [hil, hall i hil]
  have done2 : ∀ {τ G a w} {L : Nat → Bool} {x dx : Nat} {yx : AV}, AtE vs E C i0 L σ τ → x ∉ E → vs[x]? = some (dx, yx) → (∀ i, i < m → i ≠ x → L i = true) → SRel G0 w0 τ G a w → SRel G0 w0 ((puts { σ with boxes := σ.boxes.set i0 (C E.length) } vs).put (some dx) .any) G a w := by
    intro τ G a w L x dx yx hat hxE hx hall h
    have hpa := puts_at m vs { σ with boxes := σ.boxes.set i0 (C E.length) } hap
    rw [List.take_of_length_le (by omega)] at hpa
    have hpos : posE E L = E.length := by
      unfold posE
      rw [List.filter_eq_self.2 fun e he => hall e (hE.lt e he) fun h' => hxE (h' ▸ he)]
    have h2 := h.reput (d := dx) (x := .any) (.froz (.any _))
    refine h2.slotsEq (by rw [put_n, put_n, hpa.n, hat.n]) (by rw [put_boxes, put_boxes, hpa.boxes, hat.boxes, hpos]) fun s => ?_
    rw [get_put, get_put]
    by_cases hds : dx = s
    · rw [if_pos hds, if_pos hds]
    rw [if_neg hds, if_neg hds]
    by_cases hs : ∀ (i d : Nat) (y : AV), vs[i]? = some (d, y) → d ≠ s
    · rw [hpa.rest s hs, hat.rest s hs]; rfl
    · have : ∃ (i : Nat) (y : AV), vs[i]? = some (s, y) := by
        apply Classical.byContradiction
        intro hcon
        exact hs fun i d y hi hds => hcon ⟨i, y, by rw [← hds]; exact hi⟩
      obtain ⟨i, y, hi⟩ := this
      have hil : i < m := by rw [← hvl]; exact (List.getElem?_eq_some_iff.1 hi).1
      have hix : i ≠ x := fun h' => by subst h'; rw [hx] at hi; cases hi; exact hds rfl
      rw [hpa.dst i s y hi, hat.dst i s y hi]
      simp [hil, hall i hil hix]
  intro fuel
  induction fuel with
  | zero =>
    intro listed U τ G a w hl hU hm hc hat h _ _
    have hUn : U = [] := List.eq_nil_of_length_eq_zero hU
    subst hUn
    have hall : ∀ i, i < ops.size → listed.getD i false = true := fun i hi => by
      cases hb : listed.getD i false
      · have := (hl.mem i).2 ⟨hi, hb⟩; simp at this
      · rfl
    have hms : m = ops.size := by
      apply Classical.byContradiction
      intro hne
      have := hp.le
      have h1 := hall m (by omega)
      rw [hm m (Nat.le_refl m)] at h1; cases h1
    exact (tree_run (P := P) h0 hp.lt hN hQ tr true (List.range m) listed [] _ G a w hp.tr hl hc (fun i hi => by rw [hall i hi]; simp; omega) hK (done hat (fun i hi => hall i (by have := hp.le; omega)) h)).1 rfl
  | succ fuel ih =>
    intro listed U τ G a w hl hU hm hc hat h hfree hph
    have hUn : U ≠ [] := by intro h; rw [h] at hU; simp at hU
    by_cases hdone : ∀ i, i < m → listed.getD i false = true
    · have := (tree_run (P := P) h0 hp.lt hN hQ tr true (List.range m) listed U _ G a w hp.tr hl hc (fun i hi => by
        simp only [List.contains_iff_mem, List.mem_range]
        refine ⟨fun hb => ?_, fun hlt => hdone i hlt⟩
        apply Classical.byContradiction
        intro hge
        rw [hm i (by omega)] at hb; cases hb) hK (done hat hdone h)).1 rfl
      rw [hU] at this; exact this
    by_cases hsg : ∃ x t, sg = some (x, t) ∧ ∀ i, i < m → i ≠ x → listed.getD i false = true
    · obtain ⟨x, t, rfl, hall⟩ := hsg
      obtain ⟨hxm, hxE, hxL, _, ht⟩ := hp.sg x t rfl
      obtain ⟨o, ho⟩ : ∃ p, ops[x]? = some p := ⟨ops[x]'(by have := hp.le; omega), by have := hp.le; simp [show x < ops.size by omega]⟩
      obtain ⟨dx, yx, hv, hd, _, _⟩ := hst x o hxm ho
      have hxf : listed.getD x false = false := by
        cases hb : listed.getD x false
        · rfl
        · exact absurd (fun i hi => by by_cases hix : i = x; · rw [hix]; exact hb
                                       · exact hall i hi hix) hdone
      simp only [sgA, ho] at hK2
      obtain ⟨d', hd', hK2⟩ := hK2
      rw [hd] at hd'; cases hd'
      have := (tree_run (P := P) h0 hp.lt hN hQ t true _ listed U _ G a w ht hl hc (fun i hi => by
        simp only [List.contains_iff_mem, List.mem_filter, List.mem_range, Bool.not_eq_true', beq_eq_false_iff_ne, ne_eq]
        refine ⟨fun hb => ⟨?_, fun hix => by rw [hix, hxf] at hb; cases hb⟩, fun ⟨h1, h2⟩ => hall i h1 h2⟩
        apply Classical.byContradiction
        intro hge
        rw [hm i (by omega)] at hb; cases hb) hK2 (done2 hat hxE hv hall h)).1 rfl
      rw [hU] at this; exact this
    · suffices key : ∀ i, i ∈ Region.ready .any ops listed → i < m → (i ∈ LF → wpAny P .any ops Q (fuel + 1) listed a w) ∧ (i ∉ LF → Go.wpOp P ops Q i (wpAny P .any ops Q fuel (listed.setIfInBounds i true)) a w) by
        by_cases hLF : ∃ j, j ∈ LF ∧ j ∈ Region.ready .any ops listed
        · obtain ⟨j, h1, h2⟩ := hLF
          exact (key j h2 (hp.fr j h1).1).1 h1
        · refine ⟨fun hr => absurd hr (some_ready hl hp.lt hUn), fun i hi => (key i hi ?_).2 fun hiL => hLF ⟨i, hiL, hi⟩⟩
          obtain ⟨o, ho, h1, h2⟩ := (ready_iff hl.size).1 hi
          apply Classical.byContradiction
          intro hge
          have hall : ∀ j, j < m → sgIs sg j = false → listed.getD j false = true := fun j => by
            refine Nat.strongRecOn (motive := fun j => j < m → sgIs sg j = false → listed.getD j false = true) j ?_
            intro j ihj hjm hjs
            by_cases hjL : j ∈ LF
            · obtain ⟨p, hpj⟩ : ∃ p, ops[j]? = some p := ⟨ops[j]'(by have := hp.le; omega), by have := hp.le; simp [show j < ops.size by omega]⟩
              cases hb : listed.getD j false
              · exact absurd ⟨j, hjL, (ready_iff hl.size).2 ⟨p, hpj, hb, fun k hk => by
                  have := hp.lt j p hpj k hk
                  refine ihj k this (by omega) ?_
                  cases hsg' : sg with
                  | none => rfl
                  | some q =>
                    obtain ⟨x, t⟩ := q
                    have := (hp.sg x t hsg').2.2.2.1 j hjL p hpj
                    simp only [sgIs, beq_eq_false_iff_ne, ne_eq]
                    exact fun hkx => this (hkx ▸ hk)⟩⟩ hLF
              · rfl
            · exact reach_listed hc ops.size i j o ho h2 (hp.tail i o ho (by omega) j hjm hjL hjs)
          cases hsg' : sg with
          | none => exact hdone fun j hj => hall j hj (by rw [hsg']; rfl)
          | some q =>
            obtain ⟨x, t⟩ := q
            exact hsg ⟨x, t, hsg', fun j hj hjx => hall j hj (by rw [hsg']; simpa [sgIs] using hjx)⟩
      intro i hi him
      obtain ⟨o, ho, h1, h2⟩ := (ready_iff hl.size).1 hi
      have hlt := (Array.getElem?_eq_some_iff.1 ho).1
      obtain ⟨d, y, hv, hd, hdn, hstep⟩ := hst i o him ho
      obtain ⟨d', hd', hself, hpair⟩ := hp.head i o ho him
      rw [hd] at hd'; cases hd'
      have hmem : i ∈ U := (hl.mem i).2 ⟨hlt, h1⟩
      obtain ⟨l1, l2⟩ := hl.step hmem
      have hsz : i < listed.size := by rw [hl.size]; exact hlt
      have hsame : ∀ s ∈ slotsG ops o, (puts σ (vs.take i)).get s = τ.get s := by
        intro s hsm
        have hpa := puts_at i vs σ hap
        by_cases hs : ∀ (i d : Nat) (y : AV), vs[i]? = some (d, y) → d ≠ s
        · rw [hpa.rest s hs, hat.rest s hs]
        · have : ∃ (j : Nat) (y : AV), vs[j]? = some (s, y) := by
            apply Classical.byContradiction
            intro hcon
            exact hs fun i d y hi hds => hcon ⟨i, y, by rw [← hds]; exact hi⟩
          obtain ⟨j, y', hj⟩ := this
          have hjl : j < m := by rw [← hvl]; exact (List.getElem?_eq_some_iff.1 hj).1
          obtain ⟨p, hpj⟩ : ∃ p, ops[j]? = some p := ⟨ops[j]'(by have := hp.le; omega), by have := hp.le; simp [show j < ops.size by omega]⟩
          obtain ⟨d'', y'', hv'', hds'', _⟩ := hst j p hjl hpj
          rw [hj] at hv''; cases hv''
          have hji : j ≠ i := fun hji => by subst hji; rw [hv] at hj; cases hj; exact hself hsm
          have hre := (hpair j p s hjl hji hpj hds'').2 hsm
          rw [hpa.dst j s y' hj, hat.dst j s y' hj]
          by_cases hjlt : j < i
          · rw [if_pos hjlt] at hre
            have := reach_listed hc ops.size i j o ho h2 hre
            simp [hjlt, this]
          · rw [if_neg hjlt] at hre
            have hjf : listed.getD j false = false := by
              cases hb : listed.getD j false
              · rfl
              · have := reach_listed hc ops.size j i p hpj (fun k hk => hc j p hpj hb k hk) hre
                rw [h1] at this; cases this
            simp [hjlt, hjf]
      have hevs : ∀ x ∈ o.op.operands, (puts σ (vs.take i)).ev x = τ.ev x := by
        intro x hx
        cases x with
        | tmp s =>
          simp only [St.ev]
          refine hsame s (List.mem_append.2 (.inr ?_))
          unfold slotsOf
          exact List.mem_filterMap.2 ⟨.tmp s, by simpa using hx, rfl⟩
        | const v => rfl
        | func f => rfl
        | global g => rfl
      -- the frame behind the step
      have hLi : (listed.setIfInBounds i true).getD i false = true := by rw [set_getD hsz]; simp
      have hLj : ∀ j, j ≠ i → (listed.setIfInBounds i true).getD j false = listed.getD j false := fun j hj => by rw [set_getD hsz, if_neg (Ne.symm hj)]
      have hpos := posE_step (L := fun k => listed.getD k false) (L' := fun k => (listed.setIfInBounds i true).getD k false) hE.nodup hLj h1 hLi
      have hgo : ∀ {τ' G' a' w'}, τ'.n = τ.n → τ'.tmps = putT τ.tmps d y → τ'.boxes = σ.boxes.set i0 (C (posE E fun k => (listed.setIfInBounds i true).getD k false)) → SRel G0 w0 τ' G' a' w' → wpAny P .any ops Q fuel (listed.setIfInBounds i true) a' w' := by
        intro τ' G' a' w' e1 e2 e3 hs'
        have hget : ∀ s, τ'.get s = if d = s then y else τ.get s := fun s => by unfold St.get; rw [e2, lookT_put]
        refine ih _ _ τ' G' _ _ l1 (by omega) (fun j hj => ?_) (hc.step hsz ho h2) ⟨by rw [e1, hat.n], e3, fun j d' y' hj => ?_, fun s hs => ?_⟩ hs' (fun j oj dj hoj hjm hdj hcr hjf => ?_) (fun j N hjm hjA hjE hjL hjf => ?_)
        · rw [set_getD hsz, if_neg (by omega)]; exact hm j hj
        · rw [hget]
          by_cases hij : j = i
          · subst hij; rw [hv] at hj; cases hj; simp [hLi]
          · rw [if_neg (hap i j d y d' y' hv hj (Ne.symm hij)), hat.dst j d' y' hj, hLj j hij]
        · rw [hget, if_neg (hs i d y hv), hat.rest s hs]
        · by_cases hij : j = i
          · subst hij; rw [hLi] at hjf; cases hjf
          · rw [hLj j hij] at hjf
            have hf := hfree j oj dj hoj hjm hdj hcr hjf
            obtain ⟨f1, f2⟩ := hfr j oj dj hoj hjm hdj hcr
            have f1 : y.allLeaf (freeLeaf dj) = true := (f1 i d y (Ne.symm hij) hv).elim id fun f1 => by
              have := reach_listed hc i i j o ho h2 f1
              rw [hjf] at this; cases this
            simp only [St.free, Bool.and_eq_true, decide_eq_true_eq] at hf ⊢
            refine ⟨hf.1, by rw [e2]; exact freeT_put f1 hf.2.1, ?_⟩
            rw [e3]
            have hfb := hf.2.2
            rw [hat.boxes] at hfb
            have hset : ∀ (bx : List (List AV)) (k : Nat) (c c' : List AV), freeB dj (bx.set k c) = true → allLeafs (freeLeaf dj) c' = true → freeB dj (bx.set k c') = true := by
              intro bx
              induction bx with
              | nil => intro k c c' _ _; rfl
              | cons b bx ihb =>
                intro k c c' h1 h2
                cases k with
                | zero => simp only [List.set_cons_zero, freeB, Bool.and_eq_true] at h1 ⊢; exact ⟨h2, h1.2⟩
                | succ k => simp only [List.set_cons_succ, freeB, Bool.and_eq_true] at h1 ⊢; exact ⟨h1.1, ihb k c c' h1.2 h2⟩
            exact hset _ _ _ _ hfb (f2 _)
        · by_cases hij : j = i
          · subst hij; rw [hLi] at hjf; cases hjf
          · rw [hLj j hij] at hjf
            obtain ⟨q1, q2⟩ := hph j N hjm hjA hjE hjL hjf
            obtain ⟨_, _, _, f1, f2⟩ := hA j N hjm hjA
            refine ⟨by rw [e2]; exact noPbT_put (f1 i d y (Ne.symm hij) hv) q1, ?_⟩
            rw [e3]
            rw [hat.boxes] at q2
            have := noPbB_set _ i0 _ q2 (f2 (posE E fun k => (listed.setIfInBounds i true).getD k false))
            rw [List.set_set] at this
            exact this
      refine ⟨fun hiL => ?_, fun hnL => ?_⟩
      · obtain ⟨_, hiE, hfr'⟩ := hp.fr i hiL
        obtain ⟨d', hfront⟩ := hfr' o ho
        obtain rfl : d = d' := by have := hfront.dst; rw [hd] at this; simpa using this
        rw [if_neg hiE, if_pos hiL] at hstep
        rw [if_neg hiE, Nat.add_zero] at hpos
        obtain ⟨v, hv', hex⟩ := hstep G a w h.good (fun x hx => by rw [hevs x hx]; exact h.ev x)
        have hs' := h.add (.refl G w) h.good (fun _ _ h => h) (d := some d) (x := y) (v := v) (by simp [dstOk, hat.n, hdn]) hv'
        exact front_run hN hfront fuel listed a w v hl.size hc hi hex (hgo (τ' := τ.put (some d) y) rfl rfl (by rw [put_boxes, hat.boxes, hpos]) hs')
      by_cases hiE : i ∈ E
      case neg =>
        rw [if_neg hiE, if_neg hnL] at hstep
        rw [if_neg hiE, Nat.add_zero] at hpos
        cases hlA : lookA A i with
        | some N =>
          rw [hlA] at hstep
          obtain ⟨hgd, rfl, T, q, z, hop, hq, hz, hzo, hbN⟩ := hstep
          obtain ⟨a1, a2, a3, _, _⟩ := hA i N him hlA
          obtain ⟨p1, p2⟩ := hph i N him hlA hiE hnL h1
          have hbN' : τ.boxes[N]? = some (List.replicate q.1 .any) := by rw [hat.boxes, List.getElem?_set_ne (Ne.symm a1)]; exact hbN
          obtain ⟨hu, hun⟩ := h.unbox a2 a3 p1 p2 hbN'
          simp only [zeroOk, Bool.and_eq_true, decide_eq_true_eq] at hzo
          obtain ⟨_, hone⟩ := ofConst_cells (S := fun _ => False) (w := w) z hzo.2
          have hr := hu.realize (d := d) (z := z) (T := T) a2 hun (by rw [hzo.1]; exact hbN') hone (by rw [hat.n]; exact hdn)
          obtain ⟨sz, by_, zz⟩ := q
          simp only at hz
          subst hz
          obtain ⟨ti, hti, _, _, hzz⟩ := tinfo_some hq
          have hrun : (execOp a.eval o).run P w = .ok (.value (.pointer (some ⟨w.heap.size, 0, none⟩))) (w.alloc (.cells z.cells T)) := by
            simp [execOp, hop, Instr.alloc, newVar, newRow, zeroValue, typeInfo, hti, hzz]
          simp only [Go.wpOp, ho]
          rw [if_pos (by simp [Region.wanted, hgd])]
          refine .inl ?_
          simp only [Oper.wp, hrun, Oper.upon, hd]
          exact hgo (τ' := τ.put (some d) (.pb N 0)) rfl rfl (by rw [put_boxes, hat.boxes, hpos]) hr
        | none =>
        rw [hlA] at hstep
        have hops : ∀ x ∈ o.op.operands, ∀ {G}, SRel G0 w0 τ G a w → VRel G w ((puts σ (vs.take i)).ev x) (a.eval x) := fun x hx G h => by rw [hevs x hx]; exact h.ev x
        have hgo2 : ∀ {G' a' w'}, SRel G0 w0 (τ.put (some d) y) G' a' w' → wpAny P .any ops Q fuel (listed.setIfInBounds i true) a' w' := fun hs' =>
          hgo (τ' := τ.put (some d) y) rfl rfl (by rw [put_boxes, hat.boxes, hpos]) hs'
        have hrun : StepOk P o d (puts σ (vs.take i)).ev (σ.boxes.set i0 (blankC E (C 0))) y → o.wp P a w (wpAny P .any ops Q fuel (listed.setIfInBounds i true)) Q := by
          intro hstep
          have key : ∀ {G}, SRel G0 w0 τ G a w → (creates o.op = true → Fresh d G) → o.wp P a w (wpAny P .any ops Q fuel (listed.setIfInBounds i true)) Q := fun {G} h hfr' =>
            hstep _ G a w h.good ((show BRel _ G w (σ.boxes.set i0 (C (posE E fun k => listed.getD k false))) from by rw [← hat.boxes]; exact h.boxes).blank (hC _) fun hE0 => by rw [hE0]; rfl) hfr' (fun x hx => hops x hx h) _ _ fun v w' G' g1 g2 g3 g4 =>
              hgo2 (by rw [hd]; exact h.add g2 g3 g4.boxes (by simp [dstOk, hat.n, hdn]) g1)
          by_cases hcr : creates o.op = true
          · obtain ⟨hs, hf⟩ := h.fresh (hfree i o d ho him hd hcr h1) h0
            exact key hs fun _ => hf
          · exact key h fun hc' => absurd hc' hcr
        simp only [Go.wpOp, ho]
        rcases hstep with ⟨hg, hstep⟩ | ⟨j, want, g, c, hg, hgs, hgv, hc2⟩ | ⟨j, want, g, vs', hg, hgs, hgv, rfl⟩
        · rw [if_pos (by simp [Region.wanted, hg])]
          exact .inl (hrun hstep)
        · have hgm : g ∈ slotsG ops o := by simp [slotsG, guardS, hg, hgs]
          have hv2 := h.slots g
          rw [← hsame g hgm, hgv] at hv2
          have hy := yielded_bool hgs hv2.sc_inv
          rcases hc2 with ⟨rfl, hstep⟩ | ⟨hne, rfl⟩
          · rw [if_pos (by simp [Region.wanted, hg, hy])]
            exact .inl (hrun hstep)
          · rw [if_neg (by simp [Region.wanted, hg, hy, hne])]
            have hs' := h.add (.refl G w) h.good (fun _ _ h => h) (d := o.dst) (x := .sc undef) (v := undef) (by rw [hd]; simp [dstOk, hat.n, hdn]) (.froz (.sc _))
            exact hgo2 (G' := G) (by rw [hd] at hs' ⊢; exact hs')
        · have hgm : g ∈ slotsG ops o := by simp [slotsG, guardS, hg, hgs]
          have hv2 := h.slots g
          rw [← hsame g hgm, hgv] at hv2
          have hy := yielded_none hgs hv2.sc_inv
          rw [if_neg (by simp [Region.wanted, hg, hy])]
          have hs' := h.add (.refl G w) h.good (fun _ _ h => h) (d := o.dst) (x := .sc undef) (v := undef) (by rw [hd]; simp [dstOk, hat.n, hdn]) (.froz (.sc _))
          exact hgo2 (G' := G) (by rw [hd] at hs' ⊢; exact hs')
      case pos =>
        rw [if_pos hiE] at hstep
        rw [if_pos hiE] at hpos
        obtain ⟨hg, fid, args, As, r, c1, hop, hpb, hnt, hnt0, hcon, hr1, hr2, hye, hce⟩ := hstep
        -- all effects ahead of it are listed, none behind it is
        have hposi : posE E (fun k => listed.getD k false) = (E.filter fun e => decide (e < i)).length := by
          unfold posE
          congr 1
          refine List.filter_congr fun e he => ?_
          rcases Nat.lt_trichotomy e i with hlt' | heq | hgt
          · have := reach_listed hc ops.size i e o ho h2 (hE.chain e he i hiE hlt')
            simp [hlt', this]
          · subst heq; simp [h1]
          · have hnl : listed.getD e false = false := by
              cases hb : listed.getD e false
              · rfl
              · have hel := hE.lt e he
                obtain ⟨p, hpe⟩ : ∃ p, ops[e]? = some p := ⟨ops[e]'(by have := hp.le; omega), by have := hp.le; simp [show e < ops.size by omega]⟩
                have := reach_listed hc ops.size e i p hpe (fun k hk => hc e p hpe hb k hk) (hE.chain i hiE e he hgt)
                rw [h1] at this; cases this
            simp [hnl]; omega
        have hargs : args.toList.map (puts σ (vs.take i)).ev = args.toList.map τ.ev := by
          refine List.map_congr_left fun x hx => hevs x ?_
          simp [hop, Op.operands, Call.operands]
          exact .inr (by simpa using hx)
        rw [hargs] at hpb hnt hcon
        have hcr : creates o.op = true := by simp [creates, hop]
        have hfd := hfree i o d ho him hd hcr h1
        -- the variable is there
        have hva : ∀ G, SRel G0 w0 τ G a w → PW (VRel G w) (args.toList.map τ.ev) (args.map a.eval).toList := fun G hs => by
          rw [Array.toList_map]
          refine ⟨by simp, fun j x u hx hu => ?_⟩
          simp only [List.getElem?_map] at hx hu
          cases hj : args.toList[j]? with
          | none => simp [hj] at hx
          | some c => simp [hj] at hx hu; subst hx; subst hu; exact hs.ev c
        have hi0 : i0 < σ.boxes.length := by
          obtain ⟨b, hb⟩ := pbss_real (i := i0) _ _ (hva G h) (dedup_mem _ (by rw [hpb]; simp))
          have := h.blt b i0 hb
          rw [hat.boxes] at this; simpa using this
        have hbx : getAll τ.boxes [i0] = some [C (posE E fun k => listed.getD k false)] := by
          simp only [getAll, hat.boxes, List.getElem?_set, if_true, hi0]
        have hlen : τ.boxes.length = σ.boxes.length := by rw [hat.boxes]; simp
        rw [← hposi] at hcon hnt0 hce
        have hcall : CallB P fid (args.toList.map τ.ev) [i0] d τ fun σ' => σ'.n = τ.n ∧ σ'.tmps = putT τ.tmps d y ∧ σ'.boxes = σ.boxes.set i0 (C (posE E (fun k => listed.getD k false) + 1)) := by
          refine ⟨hfd, by rw [hat.n]; exact hdn, hnt, rfl, _, hbx, hnt0, hcon.mono ?_⟩
          rintro r' bx ⟨rfl, rfl⟩
          refine ⟨hr1, hr2, rfl, by rw [hlen, ← hye]; rfl, ?_⟩
          rw [put_boxes]
          have hce' : mapB (outLeaf (64 * (d + 1)) [i0] σ.boxes.length) [c1] = [C (posE E (fun k => listed.getD k false) + 1)] := hce.symm
          simp only [List.length_singleton, List.take_succ_cons, List.take_zero, List.drop_succ_cons, List.drop_nil, hlen, hce', mapB, setAll, List.append_nil]
          rw [hat.boxes, List.set_set]
        obtain ⟨⟨fn, hfn, hname, hbody⟩, hcalls⟩ := CallB.sound hcall h h0 hva (fun G hs j hj => by
          simp at hj; subst hj
          exact pbss_real _ _ (hva G hs) (dedup_mem _ (by rw [hpb]; simp)))
        have hrun : (execOp a.eval o).run P w = .ok (.enter fid (args.map a.eval)) w := by
          have hname' : ¬ fn.name = "runtime.NumGoroutine" := by simpa using hname
          have hbody' : ¬ fn.body = none := by intro h; rw [h] at hbody; simp at hbody
          have hfe : a.eval (.func fid) = .func (.func fid) #[] #[] := rfl
          simp [execOp, hop, resolve, hfe, Deferred.ofValue, invoke, callFunc, hfn, hname', hbody']
        simp only [Go.wpOp, ho]
        rw [if_pos (by simp [Region.wanted, hg])]
        refine .inl ?_
        unfold Oper.wp
        rw [hrun, Oper.upon_enter]
        refine hcalls.mono ?_
        rintro e w' ⟨v, σ', G', rfl, ⟨e1, e2, e3⟩, hs'⟩
        exact hgo e1 e2 (by rw [e3, hpos]) (by rw [hd]; exact hs')
end

/-- no pointers to variables, no closures -/
def noVar : AV → Bool
  | .pb _ _ => false
  | .cl _ _ => false
  | _ => true
theorem noVar_noPb {N : Nat} : ∀ x : AV, noVar x = true → noPb N x = true := fun x h => by cases x <;> simp_all [noVar, noPb]
/-- a new variable, as the walk meets it -/
def AllocK (P : Program) (o : Oper) (N : Nat) (σ : St) (K : St → Prop) : Prop :=
  ∃ d, o.dst = some d ∧ d < σ.n ∧ AllocP P σ.boxes o N (.pb N 0) ∧ K (σ.put (some d) (.pb N 0))
def headF (P : Program) (ops : Array Oper) (n0 i0 : Nat) (E LF : List Nat) (A : List (Nat × Nat)) : Nat → List Oper → St → List AV → (St → List AV → Prop) → Prop
  | _, [], σ, c, K => K σ c
  | k, o :: r, σ, c, K => if E.contains k = true then EffK P n0 i0 o σ c fun σ' c' => allLeafs noVar c' = true ∧ headF P ops n0 i0 E LF A (k + 1) r σ' c' K else if LF.contains k = true then frB P o σ fun σ' => headF P ops n0 i0 E LF A (k + 1) r σ' c K else match lookA A k with
    | some N => AllocK P o N σ fun σ' => headF P ops n0 i0 E LF A (k + 1) r σ' c K
    | none => headG P ops o σ fun σ' => headF P ops n0 i0 E LF A (k + 1) r σ' c K

section
variable {P : Program} {ops : Array Oper} {n0 i0 : Nat} {E LF : List Nat} {A : List (Nat × Nat)}

theorem headF_vals (hn : E.Nodup) : ∀ (l : List Oper) (k : Nat) (σ : St) (c : List AV) (K : St → List AV → Prop), headF P ops n0 i0 E LF A k l σ c K → allLeafs noTag c = true → allLeafs noVar c = true → ∃ (vs : List (Nat × AV)) (C : Nat → List AV), vs.length = l.length ∧ (∀ j, j ≤ cntE E k → C j = c) ∧ (∀ j, (C j).length = c.length ∧ allLeafs noTag (C j) = true ∧ allLeafs noVar (C j) = true) ∧ K (puts σ vs) (C (cntE E (k + l.length))) ∧
    ∀ i o, l[i]? = some o → ∃ d y, vs[i]? = some (d, y) ∧ o.dst = some d ∧ d < σ.n ∧
      if k + i ∈ E then EffC P ⟨0, [], List.replicate n0 []⟩ i0 o d (puts σ (vs.take i)).ev (C (cntE E (k + i))) y (C (cntE E (k + i) + 1)) else if k + i ∈ LF then FrontC P o (puts σ (vs.take i)).ev y else match lookA A (k + i) with | some N => AllocP P σ.boxes o N y | none => StepG P ops o d (puts σ (vs.take i)) σ.boxes y
  | [], k, σ, c, K, h, hc, hn0 => ⟨[], fun _ => c, rfl, fun _ _ => rfl, fun _ => ⟨rfl, hc, hn0⟩, h, fun i o hi => by simp at hi⟩
  | o :: l, k, σ, c, K, h, hc, hn0 => by
    unfold headF at h
    have hcs := cntE_succ hn k
    by_cases hk : k ∈ E
    · rw [if_pos (by simpa using hk)] at h
      rw [if_pos hk] at hcs
      obtain ⟨d, y, c', h1, h2, h3, h4, h5, h7, h6⟩ := h
      obtain ⟨vs, C, g1, g2, g3, g4, g5⟩ := headF_vals hn l (k + 1) _ c' K h6 h5 h7
      refine ⟨(d, y) :: vs, fun j => if j ≤ cntE E k then c else C j, by simp [g1], fun j hj => if_pos hj, fun j => ?_, ?_, fun i o' hi => ?_⟩
      · simp only
        split
        · exact ⟨rfl, hc, hn0⟩
        · exact ⟨(g3 j).1.trans h4, (g3 j).2⟩
      · simp only [puts, List.length_cons]
        rw [show k + (l.length + 1) = k + 1 + l.length by omega]
        have : ¬ cntE E (k + 1 + l.length) ≤ cntE E k := by
          have : ∀ t, cntE E (k + 1) ≤ cntE E (k + 1 + t) := fun t => by
            induction t with
            | zero => exact Nat.le_refl _
            | succ t ih => have := cntE_succ hn (k + 1 + t); rw [show k + 1 + (t + 1) = k + 1 + t + 1 by omega]; omega
          have := this l.length; omega
        rw [if_neg this]; exact g4
      · cases i with
        | zero =>
          simp at hi; subst hi
          refine ⟨d, y, rfl, h1, h2, ?_⟩
          rw [Nat.add_zero, if_pos hk]
          dsimp only
          rw [if_pos (Nat.le_refl _), if_neg (by omega), ← hcs, g2 _ (Nat.le_refl _)]
          exact h3
        | succ i =>
          obtain ⟨d', y', k1, k2, k3, k4⟩ := g5 i o' (by simpa using hi)
          rw [put_n] at k3
          refine ⟨d', y', by simpa using k1, k2, k3, ?_⟩
          rw [show k + (i + 1) = k + 1 + i by omega]
          have hge : ∀ t, cntE E (k + 1) ≤ cntE E (k + 1 + t) := fun t => by
            induction t with
            | zero => exact Nat.le_refl _
            | succ t ih => have := cntE_succ hn (k + 1 + t); rw [show k + 1 + (t + 1) = k + 1 + t + 1 by omega]; omega
          have := hge i
          dsimp only
          rw [if_neg (show ¬ cntE E (k + 1 + i) ≤ cntE E k by omega), if_neg (show ¬ cntE E (k + 1 + i) + 1 ≤ cntE E k by omega)]
          rw [put_boxes] at k4
          exact k4
    · rw [if_neg (by simpa using hk)] at h
      rw [if_neg hk, Nat.add_zero] at hcs
      obtain ⟨d, y, h1, h2, h3, h4⟩ : ∃ d y, o.dst = some d ∧ d < σ.n ∧ headF P ops n0 i0 E LF A (k + 1) l (σ.put (some d) y) c K ∧ if k ∈ LF then FrontC P o σ.ev y else match lookA A k with | some N => AllocP P σ.boxes o N y | none => StepG P ops o d σ σ.boxes y := by
        by_cases hkL : k ∈ LF
        · rw [if_pos (by simpa using hkL)] at h
          obtain ⟨d, y, h1, h2, h3, h4⟩ := frB_sound h
          exact ⟨d, y, h1, h2, h3, by rw [if_pos hkL]; exact h4⟩
        · rw [if_neg (by simpa using hkL)] at h
          cases hlA : lookA A k with
          | some N =>
            rw [hlA] at h
            obtain ⟨d, h1, h2, h4, h3⟩ := h
            exact ⟨d, _, h1, h2, h3, by rw [if_neg hkL]; exact h4⟩
          | none =>
            rw [hlA] at h
            obtain ⟨d, y, h1, h2, h3, h4⟩ := headG_sound h
            exact ⟨d, y, h1, h2, h3, by rw [if_neg hkL]; exact h4⟩
      obtain ⟨vs, C, g1, g2, g3, g4, g5⟩ := headF_vals hn l (k + 1) _ c K h3 hc hn0
      refine ⟨(d, y) :: vs, C, by simp [g1], fun j hj => g2 j (by omega), g3, ?_, fun i o' hi => ?_⟩
      · simp only [puts, List.length_cons]
        rw [show k + (l.length + 1) = k + 1 + l.length by omega]; exact g4
      · cases i with
        | zero =>
          simp at hi; subst hi
          refine ⟨d, y, rfl, h1, h2, ?_⟩
          rw [Nat.add_zero, if_neg hk]; exact h4
        | succ i =>
          obtain ⟨d', y', k1, k2, k3, k4⟩ := g5 i o' (by simpa using hi)
          rw [put_n] at k3
          rw [put_boxes] at k4
          refine ⟨d', y', by simpa using k1, k2, k3, ?_⟩
          rw [show k + (i + 1) = k + 1 + i by omega]; exact k4

/-- no other slot points to the variable at a kept place -/
def pbBut (N d : Nat) : List (Nat × AV) → Bool
  | [] => true
  | (s, v) :: r => (s == d || v.allLeaf (noPb N)) && pbBut N d r
theorem pbBut_look {N d : Nat} : ∀ {l : List (Nat × AV)}, pbBut N d l = true → ∀ s, s ≠ d → (lookT l s).allLeaf (noPb N) = true
  | [], _, _, _ => rfl
  | (s', v) :: r, h, s, hs => by
    simp only [pbBut, Bool.and_eq_true, Bool.or_eq_true, beq_iff_eq] at h
    unfold lookT
    split
    · rename_i he
      rcases h.1 with h1 | h1
      · exact absurd (he.symm.trans h1) (by intro e; exact hs e)
      · exact h1
    · exact pbBut_look h.2 s hs
/-- of all kept places: the slots of their variables -/
def keptOk (ops : Array Oper) (l : List (Nat × AV)) : List (Nat × Nat) → Bool
  | [] => true
  | (i, N) :: r => (match (ops[i]?).bind (·.dst) with
    | some d => pbBut N d l
    | none => false) && keptOk ops l r
/-- .. and ahead of the region nothing points to them -/
def keptFree (σ : St) : List (Nat × Nat) → Bool
  | [] => true
  | (_, N) :: r => (decide (σ.boxes.length ≤ N) && (noPbT N σ.tmps && noPbB N σ.boxes)) && keptFree σ r
theorem keptOk_mem {l : List (Nat × AV)} : ∀ {A : List (Nat × Nat)}, keptOk ops l A = true → ∀ i N, lookA A i = some N → ∃ d, (ops[i]?).bind (·.dst) = some d ∧ pbBut N d l = true
  | [], _, i, N, h => by simp [lookA] at h
  | (k, M) :: r, h, i, N, hi => by
    simp only [keptOk, Bool.and_eq_true] at h
    simp only [lookA] at hi
    split at hi
    · rename_i e; subst e; cases hi
      have h1 := h.1
      split at h1
      · rename_i d hd; exact ⟨d, hd, h1⟩
      · cases h1
    · exact keptOk_mem h.2 i N hi
theorem keptFree_mem {σ : St} : ∀ {A : List (Nat × Nat)}, keptFree σ A = true → ∀ i N, lookA A i = some N → σ.boxes.length ≤ N ∧ noPbT N σ.tmps = true ∧ noPbB N σ.boxes = true
  | [], _, i, N, h => by simp [lookA] at h
  | (k, M) :: r, h, i, N, hi => by
    simp only [keptFree, Bool.and_eq_true, decide_eq_true_eq] at h
    simp only [lookA] at hi
    split at hi
    · cases hi; exact h.1
    · exact keptFree_mem h.2 i N hi
def anyB (ph : List Nat) : List (List AV) := ph.map fun k => List.replicate k .any
theorem noPbB_any {N : Nat} : ∀ ph : List Nat, noPbB N (anyB ph) = true
  | [] => rfl
  | k :: r => by
    show (allLeafs (noPb N) (List.replicate k .any) && noPbB N (anyB r)) = true
    rw [noPbB_any r, Bool.and_true]
    induction k with
    | zero => rfl
    | succ k ih => rw [List.replicate_succ]; simp only [allLeafs, ih, Bool.and_true]; rfl
theorem noPbB_app {N : Nat} : ∀ (x y : List (List AV)), noPbB N (x ++ y) = (noPbB N x && noPbB N y)
  | [], y => by simp [noPbB]
  | c :: x, y => by rw [List.cons_append, noPbB, noPbB, noPbB_app x y, Bool.and_assoc]
/-- places kept -/
theorem SRel.kept {G0 w0 σ G a w} (h : SRel G0 w0 σ G a w) (ph : List Nat) : SRel G0 w0 { σ with boxes := σ.boxes ++ anyB ph } G a w :=
  { h with
    boxes := ⟨fun i vs hv => by have := h.boxes.low i vs hv; simp only [List.length_append]; omega, fun i cs hi => by
      simp only at hi
      by_cases hlt : i < σ.boxes.length
      · rw [List.getElem?_append_left hlt] at hi; exact h.boxes.cell i cs hi
      · rw [List.getElem?_append_right (by omega)] at hi
        refine .inr (.inr ⟨by cases hgh : G0.gh i with | none => rfl | some vs => have := h.boxes.low _ vs hgh; omega, fun b hb => by have := h.blt b i hb; omega, fun x hx v => ?_⟩)
        unfold anyB at hi
        rw [List.getElem?_map] at hi
        cases hp : ph[i - σ.boxes.length]? with
        | none => simp [hp] at hi
        | some k => simp [hp] at hi; subst hi; rw [(List.mem_replicate.1 hx).2]; exact .froz (.any _)⟩
    blt := fun b i hb => by have := h.blt b i hb; simp only [List.length_append]; omega }

theorem freeB_kept {d : Nat} : ∀ ph : List Nat, freeB d (anyB ph) = true
  | [] => rfl
  | k :: r => by
    show (allLeafs (freeLeaf d) (List.replicate k .any) && freeB d (anyB r)) = true
    rw [freeB_kept r, Bool.and_true]
    induction k with
    | zero => rfl
    | succ k ih => rw [List.replicate_succ]; simp only [allLeafs, ih, Bool.and_true]; rfl
theorem freeB_two {d : Nat} : ∀ (x y : List (List AV)), freeB d (x ++ y) = (freeB d x && freeB d y)
  | [], y => by simp [freeB]
  | c :: x, y => by rw [List.cons_append, freeB, freeB, freeB_two x y, Bool.and_assoc]
theorem freeAll_kept {σ : St} (ph : List Nat) : ∀ {ds : List Nat}, freeAll σ ds = true → freeAll { σ with boxes := σ.boxes ++ anyB ph } ds = true
  | [], _ => rfl
  | d :: r, h => by
    simp only [freeAll, Bool.and_eq_true] at h ⊢
    refine ⟨?_, freeAll_kept ph h.2⟩
    have h1 := h.1
    simp only [St.free, Bool.and_eq_true] at h1 ⊢
    exact ⟨h1.1, h1.2.1, by rw [freeB_two, h1.2.2, freeB_kept]; rfl⟩
def hasD (d s : Nat) : List (Nat × Nat) → Bool
  | [] => false
  | (a, b) :: r => (a == d && b == s) || hasD d s r
/-- no other slot bears these tags, but those that D names: they are filled later in every order -/
def freeButD (D : List (Nat × Nat)) (d : Nat) : List (Nat × AV) → Bool
  | [] => true
  | (s, v) :: r => (s == d || (hasD d s D || v.allLeaf (freeLeaf d))) && freeButD D d r
def freeOthersD (D : List (Nat × Nat)) (l : List (Nat × AV)) : List Nat → Bool
  | [] => true
  | d :: r => freeButD D d l && freeOthersD D l r
theorem freeButD_look {D : List (Nat × Nat)} {d : Nat} : ∀ {l : List (Nat × AV)}, freeButD D d l = true → ∀ s, s ≠ d → hasD d s D = true ∨ (lookT l s).allLeaf (freeLeaf d) = true
  | [], _, _, _ => .inr rfl
  | (s', v) :: r, h, s, hs => by
    simp only [freeButD, Bool.and_eq_true, Bool.or_eq_true, beq_iff_eq] at h
    unfold lookT
    split
    · rename_i he
      rcases h.1 with h1 | h1 | h1
      · exact absurd (he.symm.trans h1) (by intro e; exact hs e)
      · rw [← he]; exact .inl h1
      · exact .inr h1
    · exact freeButD_look h.2 s hs
theorem freeOthersD_mem {D : List (Nat × Nat)} {l : List (Nat × AV)} : ∀ {ds : List Nat}, freeOthersD D l ds = true → ∀ d ∈ ds, freeButD D d l = true
  | d' :: r, h, d, hd => by
    simp only [freeOthersD, Bool.and_eq_true] at h
    rcases List.mem_cons.1 hd with rfl | hd
    · exact h.1
    · exact freeOthersD_mem h.2 d hd
def lateP (ops : Array Oper) (m d s : Nat) : Bool := (List.range m).all fun i => match ops[i]? with
  | some o => (o.dst != some s) || (List.range m).all fun j => match ops[j]? with
    | some o' => (o'.dst != some d) || reach ops i i j
    | none => true
  | none => true
/-- for each pair (d, s) the slot s is filled after d in every order -/
def lateD (ops : Array Oper) (m : Nat) : List (Nat × Nat) → Bool
  | [] => true
  | (d, s) :: r => lateP ops m d s && lateD ops m r
theorem lateD_has {ops : Array Oper} {m d s : Nat} : ∀ {D : List (Nat × Nat)}, lateD ops m D = true → hasD d s D = true → lateP ops m d s = true
  | (a, b) :: r, h, hd => by
    simp only [lateD, Bool.and_eq_true] at h
    simp only [hasD, Bool.or_eq_true, Bool.and_eq_true, beq_iff_eq] at hd
    rcases hd with ⟨rfl, rfl⟩ | hd
    · exact h.1
    · exact lateD_has h.2 hd
theorem lateP_spec {ops : Array Oper} {m d s i j : Nat} {o o' : Oper} (h : lateP ops m d s = true) (hi : ops[i]? = some o) (him : i < m) (hd : o.dst = some s) (hj : ops[j]? = some o') (hjm : j < m) (hd' : o'.dst = some d) : reach ops i i j = true := by
  unfold lateP at h
  have h1 := List.all_eq_true.1 h i (List.mem_range.2 him)
  rw [hi] at h1
  simp only [hd, bne_self_eq_false, Bool.false_or] at h1
  have h2 := List.all_eq_true.1 h1 j (List.mem_range.2 hjm)
  rw [hj] at h2
  simpa only [hd', bne_self_eq_false, Bool.false_or] using h2
/-- A DRAWN REGION with effects and new variables: A: each one's operation, and the place kept for it behind the boxes; ph: the kept places' sizes. -/
theorem DrawN.effP {σ0 : St} {K : St → Prop} (A : List (Nat × Nat)) (ph : List Nat) (D : List (Nat × Nat)) (i0 : Nat) (E LF : List Nat) (m : Nat) (tr : Tr) (sg : Option (Nat × Tr)) (c : List AV) (hok : lateOk ops m E LF tr sg = true) (hE : effOk ops m E = true) (hD : lateD ops m D = true) (hc : (σ0.boxes ++ anyB ph)[i0]? = some c) (hi0 : i0 < σ0.boxes.length) (hnt : allLeafs noTag c = true) (hnv : allLeafs noVar c = true) (hfree : freeAll σ0 (creators ops m) = true) (hkf : keptFree σ0 A = true)
    (h : headF P ops (σ0.boxes ++ anyB ph).length i0 E LF A 0 (ops.toList.take m) { σ0 with boxes := (σ0.boxes ++ anyB ph).set i0 (blankC E c) } c fun σ' c' => (freeOthersD D σ'.tmps (creators ops m) = true ∧ keptOk ops σ'.tmps A = true) ∧ treeA P ops tr { σ' with boxes := σ'.boxes.set i0 c' } K ∧ sgA P ops sg { σ' with boxes := σ'.boxes.set i0 c' } K) : DrawN P ops σ0 K := by
  intro G0 w0 G a w Q h0 hs0 hN hQ
  have hs := hs0.kept ph
  have hkf := fun i N => keptFree_mem hkf i N
  have hfree : freeAll { σ0 with boxes := σ0.boxes ++ anyB ph } (creators ops m) = true := freeAll_kept ph hfree
  have hall : ∀ N, noPbB N σ0.boxes = true → noPbB N (σ0.boxes ++ anyB ph) = true := fun N hN => by rw [noPbB_app, hN, noPbB_any]; rfl
  obtain ⟨σ, hσ⟩ : ∃ σ : St, σ = { σ0 with boxes := σ0.boxes ++ anyB ph } := ⟨_, rfl⟩
  have hσb : σ.boxes = σ0.boxes ++ anyB ph := by rw [hσ]
  have hσt : σ.tmps = σ0.tmps := by rw [hσ]
  have hσn : σ.n = σ0.n := by rw [hσ]
  rw [← hσ] at hs hfree
  have h : headF P ops σ.boxes.length i0 E LF A 0 (ops.toList.take m) { σ with boxes := σ.boxes.set i0 (blankC E c) } c fun σ' c' => (freeOthersD D σ'.tmps (creators ops m) = true ∧ keptOk ops σ'.tmps A = true) ∧ treeA P ops tr { σ' with boxes := σ'.boxes.set i0 c' } K ∧ sgA P ops sg { σ' with boxes := σ'.boxes.set i0 c' } K := by
    rw [hσ]; exact h
  rw [← hσb] at hc
  have hp := lateOk_plan hok
  simp only [effOk, Bool.and_eq_true, List.all_eq_true, decide_eq_true_eq, Bool.or_eq_true, Bool.not_eq_true', decide_eq_false_iff_not] at hE
  have hpE : PlanE ops m E := ⟨nodupE_spec hE.1.1, hE.1.2, fun e he e' he' hlt => (hE.2 e he e' he').resolve_left (fun hn => hn hlt)⟩
  obtain ⟨vs, C, hvl, hC0, hC, ⟨⟨hoth, hkp⟩, hK, hK2⟩, hst⟩ := headF_vals hpE.nodup _ _ _ _ _ h hnt hnv
  have hlen : (ops.toList.take m).length = m := by have := hp.le; simp; omega
  rw [hlen] at hvl
  have hcm : cntE E (0 + (ops.toList.take m).length) = E.length := by
    rw [hlen, Nat.zero_add]
    unfold cntE posE
    rw [List.filter_eq_self.2 fun e he => by simpa using hpE.lt e he]
  rw [hcm] at hK hK2
  have hst' : ∀ i o, i < m → ops[i]? = some o → ∃ d y, vs[i]? = some (d, y) ∧ o.dst = some d ∧ d < σ.n ∧
      if i ∈ E then EffC P σ i0 o d (puts σ (vs.take i)).ev (C (E.filter fun e => decide (e < i)).length) y (C ((E.filter fun e => decide (e < i)).length + 1)) else if i ∈ LF then FrontC P o (puts σ (vs.take i)).ev y else match lookA A i with | some N => AllocP P σ.boxes o N y | none => StepG P ops o d (puts σ (vs.take i)) (σ.boxes.set i0 (blankC E (C 0))) y := fun i o hi ho => by
    obtain ⟨d, y, k1, k2, k3, k4⟩ := hst i o (by rw [List.getElem?_take, if_pos hi]; simpa using ho)
    refine ⟨d, y, k1, k2, k3, ?_⟩
    rw [Nat.zero_add] at k4
    split
    · rename_i hiE
      rw [if_pos hiE, puts_ev] at k4
      unfold EffC at k4 ⊢
      simp only [List.length_replicate] at k4
      exact k4
    · rename_i hiE
      rw [if_neg hiE] at k4
      rw [hC0 0 (Nat.zero_le _)]
      split
      · rename_i hiL
        rw [if_pos hiL, puts_ev] at k4
        exact k4
      rename_i hiL
      rw [if_neg hiL] at k4
      cases hlA : lookA A i with
      | some N =>
        rw [hlA] at k4
        have hNi : i0 ≠ N := fun e => by have := (hkf i N hlA).1; omega
        obtain ⟨q1, q2, T, q, z, q3, q4, q5, q6, q7⟩ := k4
        simp only [List.getElem?_set_ne hNi] at q7
        exact ⟨q1, q2, T, q, z, q3, q4, q5, q6, q7⟩
      | none =>
      rw [hlA] at k4
      unfold StepG at k4 ⊢
      rw [puts_ev] at k4
      simp only [puts_get] at k4
      exact k4
  have hap : Apart vs := by
    intro i j d y d' y' h1 h2 hij
    have hil : i < m := by have := (List.getElem?_eq_some_iff.1 h1).1; omega
    have hjl : j < m := by have := (List.getElem?_eq_some_iff.1 h2).1; omega
    have hle := hp.le
    obtain ⟨oi, hoi⟩ : ∃ p, ops[i]? = some p := ⟨ops[i]'(by omega), by simp [show i < ops.size by omega]⟩
    obtain ⟨oj, hoj⟩ : ∃ p, ops[j]? = some p := ⟨ops[j]'(by omega), by simp [show j < ops.size by omega]⟩
    obtain ⟨_, _, k1, k2, _⟩ := hst' i oi hil hoi
    obtain ⟨_, _, k3, k4, _⟩ := hst' j oj hjl hoj
    rw [h1] at k1; cases k1
    rw [h2] at k3; cases k3
    obtain ⟨d1, e1, _, e2⟩ := hp.head j oj hoj hjl
    rw [k4] at e1; cases e1
    exact (e2 i oi d hil hij hoi k2).1
  have hs' := hs
  have hgd : ∀ i, (Array.replicate ops.size false).getD i false = false := fun i => by
    by_cases hi : i < ops.size <;> simp [hi]
  have hcrm : ∀ i o d, ops[i]? = some o → i < m → o.dst = some d → creates o.op = true → d ∈ creators ops m := fun i o d ho hi hd hcr => by
    unfold creators
    refine List.mem_filterMap.2 ⟨o, ?_, by rw [if_pos hcr]; exact hd⟩
    refine List.mem_of_getElem? (i := i) ?_
    rw [List.getElem?_take, if_pos hi]; simpa using ho
  have hset : ∀ c', (puts { σ with boxes := σ.boxes.set i0 (blankC E c) } vs).boxes.set i0 c' = σ.boxes.set i0 c' := fun c' => by rw [puts_boxes, List.set_set]
  refine head_runP (P := P) (A := A) hp hpE h0 hN hQ hvl hap (fun j => by rw [(hC j).1, (hC 0).1]) ?_ ?_ hst' (fun i N hi hlA => ⟨fun e => by have := (hkf i N hlA).1; omega, ?_, fun b hb e => ?_, fun j d' y hji hj => ?_, fun j => allLeafs_mono noVar_noPb _ (hC j).2.2⟩) (fun i o d ho hi hd hcr => ⟨fun j d' y hji hj => ?_, fun j => allLeafs_mono noTag_free _ (hC j).2.1⟩) ops.size (Array.replicate ops.size false) (List.range ops.size) σ G a _ ⟨by simp, List.nodup_range, fun i => ?_⟩ (by simp) (fun i _ => hgd i)
    (fun i o _ hi => absurd (show (Array.replicate ops.size false).getD i false = true from hi) (by rw [hgd]; simp)) ⟨rfl, ?_, fun i d y _ => by simp only [hgd]; simp, fun _ _ => rfl⟩ hs' (fun i o d ho hi hd hcr _ => freeAll_mem hfree d (hcrm i o d ho hi hd hcr)) (fun i N hi hlA _ _ _ => ⟨by rw [hσt]; exact (hkf i N hlA).2.1, by rw [hσb]; exact hall N (hkf i N hlA).2.2⟩)
  · rw [hset] at hK
    rw [puts_eq] at hK ⊢
    exact hK
  · rw [hset] at hK2
    rw [puts_eq] at hK2 ⊢
    exact hK2
  · have := (hkf i N hlA).1
    cases hgh : G0.gh N with
    | none => rfl
    | some vs => have := hs0.boxes.low _ vs hgh; omega
  · have h1 := hs0.stat b hb (fun t ht => by rw [e] at ht; cases ht)
    rw [e] at h1
    have := hs0.blt b N h1
    have := (hkf i N hlA).1
    omega
  · obtain ⟨di, hdi, hbut⟩ := keptOk_mem hkp i N hlA
    obtain ⟨oi, hoi⟩ : ∃ p, ops[i]? = some p := ⟨ops[i]'(by have := hp.le; omega), by have := hp.le; simp [show i < ops.size by omega]⟩
    rw [hoi, Option.bind_some] at hdi
    obtain ⟨_, yi, k1, k2, _⟩ := hst' i oi hi hoi
    rw [hdi] at k2; cases k2
    have hne := hap i j di yi d' y k1 hj (Ne.symm hji)
    have hpa := puts_at m vs { σ with boxes := σ.boxes.set i0 (blankC E c) } hap
    rw [List.take_of_length_le (by omega)] at hpa
    have hjm : j < m := by have := (List.getElem?_eq_some_iff.1 hj).1; omega
    have hg := hpa.dst j d' y hj
    simp only [hjm, decide_true, if_true] at hg
    rw [← hg]
    exact pbBut_look hbut d' (Ne.symm hne)
  · have hb := freeOthersD_mem hoth d (hcrm i o d ho hi hd hcr)
    obtain ⟨oi, yi, k1, k2, _⟩ := hst' i o hi ho
    rw [hd] at k2; cases k2
    have hne := hap i j d yi d' y k1 hj (Ne.symm hji)
    have hpa := puts_at m vs { σ with boxes := σ.boxes.set i0 (blankC E c) } hap
    rw [List.take_of_length_le (by omega)] at hpa
    have hjm : j < m := by have := (List.getElem?_eq_some_iff.1 hj).1; omega
    have hg := hpa.dst j d' y hj
    simp only [hjm, decide_true, if_true] at hg
    rw [← hg]
    rcases freeButD_look hb d' (Ne.symm hne) with h1 | h1
    · obtain ⟨oj, hoj⟩ : ∃ p, ops[j]? = some p := ⟨ops[j]'(by have := hp.le; omega), by have := hp.le; simp [show j < ops.size by omega]⟩
      obtain ⟨_, yj, q1, q2, _⟩ := hst' j oj hjm hoj
      rw [hj] at q1; cases q1
      exact .inr (lateP_spec (lateD_has hD h1) hoj hjm q2 ho hi hd)
    · exact .inl h1
  · rw [List.mem_range, hgd]; simp
  · have : posE E (fun i => (Array.replicate ops.size false).getD i false) = 0 := by
      unfold posE
      rw [List.filter_eq_nil_iff.2 fun e _ => by rw [hgd]; simp]; rfl
    rw [this, hC0 0 (Nat.zero_le _)]
    have hi := (List.getElem?_eq_some_iff.1 hc).1
    rw [← (List.getElem?_eq_some_iff.1 hc).2, List.set_getElem_self]
end

/-! ### as rules -/
def headZ (P : Program) (ops : Array Oper) (_n0 i0 : Nat) (_E _LF : List Nat) (A : List (Nat × Nat)) (D : List (Nat × Nat)) (ds : List Nat) (tr : Tr) (sg : Option (Nat × Tr)) (σ : St) (c : List AV) (K : St → Prop) : Prop :=
  (freeOthersD D σ.tmps ds = true ∧ keptOk ops σ.tmps A = true) ∧ treeA P ops tr { σ with boxes := σ.boxes.set i0 c } K ∧ sgA P ops sg { σ with boxes := σ.boxes.set i0 c } K
def headY (P : Program) (ops : Array Oper) (n0 i0 : Nat) (E LF : List Nat) (A : List (Nat × Nat)) (D : List (Nat × Nat)) (ds : List Nat) (tr : Tr) (sg : Option (Nat × Tr)) : Nat → Nat → List Oper → St → List AV → (St → Prop) → Prop
  | _, 0, _, σ, c, K => headZ P ops n0 i0 E LF A D ds tr sg σ c K
  | _, _ + 1, [], σ, c, K => headZ P ops n0 i0 E LF A D ds tr sg σ c K
  | k, m + 1, o :: r, σ, c, K => if E.contains k = true then EffK P n0 i0 o σ c fun σ' c' => allLeafs noVar c' = true ∧ headY P ops n0 i0 E LF A D ds tr sg (k + 1) m r σ' c' K else if LF.contains k = true then frB P o σ fun σ' => headY P ops n0 i0 E LF A D ds tr sg (k + 1) m r σ' c K else match lookA A k with
    | some N => AllocK P o N σ fun σ' => headY P ops n0 i0 E LF A D ds tr sg (k + 1) m r σ' c K
    | none => headG P ops o σ fun σ' => headY P ops n0 i0 E LF A D ds tr sg (k + 1) m r σ' c K
theorem headY_eq {P : Program} {ops : Array Oper} {n0 i0 : Nat} {E LF : List Nat} {A D : List (Nat × Nat)} {ds : List Nat} {tr : Tr} {sg : Option (Nat × Tr)} {K : St → Prop} : ∀ (m k : Nat) (l : List Oper) (σ : St) (c : List AV), headY P ops n0 i0 E LF A D ds tr sg k m l σ c K =
    headF P ops n0 i0 E LF A k (l.take m) σ c fun σ' c' => headZ P ops n0 i0 E LF A D ds tr sg σ' c' K
  | 0, k, l, σ, c => by cases l <;> rfl
  | m + 1, k, [], σ, c => rfl
  | m + 1, k, o :: l, σ, c => by
    have ih : ∀ σ' c', headY P ops n0 i0 E LF A D ds tr sg (k + 1) m l σ' c' K = headF P ops n0 i0 E LF A (k + 1) (l.take m) σ' c' fun σ' c' => headZ P ops n0 i0 E LF A D ds tr sg σ' c' K := fun σ' c' => headY_eq m (k + 1) l σ' c'
    simp only [headY, List.take_succ_cons, headF, ih]
/-- A DRAWN REGION with effects and new variables, its operations put into the row π -/
theorem DrawK.news {P : Program} {l l' : List Oper} {σ : St} {K : St → Prop} (π : List Nat) (A : List (Nat × Nat)) (ph : List Nat) (D : List (Nat × Nat)) (i0 : Nat) (E LF : List Nat) (m : Nat) (tr : Tr) (sg : Option (Nat × Tr)) (c : List AV) (hm : P.follows .mixedOrders = true) (hπ : permOk l π = true) (hl : permG π l π = l') (hok : lateOk l'.toArray m E LF tr sg = true) (hE : effOk l'.toArray m E = true) (hD : lateD l'.toArray m D = true) (hc : (σ.boxes ++ anyB ph)[i0]? = some c) (hi0 : i0 < σ.boxes.length) (hnt : allLeafs noTag c = true ∧ allLeafs noVar c = true)
    (hfree : freeAll σ (crs (l'.take m)) = true ∧ keptFree σ A = true)
    (h : headY P l'.toArray (σ.boxes ++ anyB ph).length i0 E LF A D (crs (l'.take m)) tr sg 0 m l' ⟨σ.n, σ.tmps, (σ.boxes ++ anyB ph).set i0 (blankC E c)⟩ c K) : DrawK P l.toArray σ K :=
  DrawK.ofN hm (DrawN.perm π hπ hl (DrawN.effP A ph D i0 E LF m tr sg c hok hE hD hc hi0 hnt.1 hnt.2 (by rw [crs_creators]; exact hfree.1) hfree.2 (by rw [crs_creators]; rw [headY_eq] at h; exact h)))
/-- .. in the text's row -/
theorem DrawK.news0 {P : Program} {l : List Oper} {σ : St} {K : St → Prop} (A : List (Nat × Nat)) (ph : List Nat) (D : List (Nat × Nat)) (i0 : Nat) (E LF : List Nat) (m : Nat) (tr : Tr) (sg : Option (Nat × Tr)) (c : List AV) (hm : P.follows .mixedOrders = true) (hok : lateOk l.toArray m E LF tr sg = true) (hE : effOk l.toArray m E = true) (hD : lateD l.toArray m D = true) (hc : (σ.boxes ++ anyB ph)[i0]? = some c) (hi0 : i0 < σ.boxes.length) (hnt : allLeafs noTag c = true ∧ allLeafs noVar c = true)
    (hfree : freeAll σ (crs (l.take m)) = true ∧ keptFree σ A = true)
    (h : headY P l.toArray (σ.boxes ++ anyB ph).length i0 E LF A D (crs (l.take m)) tr sg 0 m l ⟨σ.n, σ.tmps, (σ.boxes ++ anyB ph).set i0 (blankC E c)⟩ c K) : DrawK P l.toArray σ K :=
  DrawK.ofN hm (DrawN.effP A ph D i0 E LF m tr sg c hok hE hD hc hi0 hnt.1 hnt.2 (by rw [crs_creators]; exact hfree.1) hfree.2 (by rw [crs_creators]; rw [headY_eq] at h; exact h))

section
variable {P : Program} {n : Nat} {t : List (Nat × AV)} {b : List (List AV)} {ops : Array Oper} {n0 i0 k m : Nat} {E LF ds : List Nat} {A D : List (Nat × Nat)} {tr : Tr} {sg : Option (Nat × Tr)} {l : List Oper} {c : List AV} {K : St → Prop}
variable {d : Nat} {T : TypeId} {pos : String} {af : Array Edge} {g : Option (Nat × Bool)}
@[congr] theorem headY_congr {n0' k' : Nat} {σ σ' : St} {c' : List AV} (h0 : n0 = n0') (h1 : k = k') (h : mkd σ = σ') (h2 : c = c') : headY P ops n0 i0 E LF A D ds tr sg k m l σ c K = headY P ops n0' i0 E LF A D ds tr sg k' m l σ' c' K := by subst_vars; rfl
def selN (o : Option Nat) (f : Nat → Prop) (p : Prop) : Prop := match o with
  | some N => f N
  | none => p
@[congr] theorem selN_congr {o o' : Option Nat} {f : Nat → Prop} {p : Prop} (h : o = o') : selN o f p = selN o' f p := by subst_vars; rfl
@[go_sem] theorem selN_some {N : Nat} {f : Nat → Prop} {p : Prop} : selN (some N) f p = f N := rfl
@[go_sem] theorem selN_none {f : Nat → Prop} {p : Prop} : selN none f p = p := rfl
@[go_sem] theorem headY_zero : headY P ops n0 i0 E LF A D ds tr sg k 0 l ⟨n, t, b⟩ c K = andK (freeOthersD D t ds = true) (andK (keptOk ops t A = true) (andK (treeA P ops tr ⟨n, t, b.set i0 c⟩ K) (sgA P ops sg ⟨n, t, b.set i0 c⟩ K))) := by
  cases l <;> (simp only [headY, headZ, andK]; exact propext and_assoc)
@[go_sem] theorem headY_nil : headY P ops n0 i0 E LF A D ds tr sg k (m + 1) [] ⟨n, t, b⟩ c K = andK (freeOthersD D t ds = true) (andK (keptOk ops t A = true) (andK (treeA P ops tr ⟨n, t, b.set i0 c⟩ K) (sgA P ops sg ⟨n, t, b.set i0 c⟩ K))) := by
  simp only [headY, headZ, andK]; exact propext and_assoc
@[go_sem] theorem headY_succ {dst : Option Tmp} {op : Op} : headY P ops n0 i0 E LF A D ds tr sg k (m + 1) (⟨dst, op, T, pos, af, none⟩ :: l) ⟨n, t, b⟩ c K = selK (E.contains k) (EffK P n0 i0 ⟨dst, op, T, pos, af, none⟩ ⟨n, t, b⟩ c fun σ' c' => andK (allLeafs noVar c' = true) (headY P ops n0 i0 E LF A D ds tr sg (k + 1) m l σ' c' K))
    (selK (LF.contains k) (frB P ⟨dst, op, T, pos, af, none⟩ ⟨n, t, b⟩ fun σ' => headY P ops n0 i0 E LF A D ds tr sg (k + 1) m l σ' c K) (selN (lookA A k) (fun N => AllocK P ⟨dst, op, T, pos, af, none⟩ N ⟨n, t, b⟩ fun σ' => headY P ops n0 i0 E LF A D ds tr sg (k + 1) m l σ' c K) (headOp P ⟨dst, op, T, pos, af, none⟩ ⟨n, t, b⟩ fun σ' => headY P ops n0 i0 E LF A D ds tr sg (k + 1) m l σ' c K))) := by
  rw [selK_ite, selK_ite]
  show (if E.contains k = true then _ else if LF.contains k = true then _ else _) = _
  cases lookA A k <;> rfl
@[congr] theorem AllocK_congr {o : Oper} {N : Nat} {σ σ' : St} {K : St → Prop} (h : mkd σ = σ') : AllocK P o N σ K = AllocK P o N σ' K := by subst_vars; rfl
@[go_sem] theorem AllocK_eq {N : Nat} : AllocK P ⟨some d, .alloc T, k, pos, af, none⟩ N ⟨n, t, b⟩ K = andK (d < n) (caseO (tinfo P T) fun q => caseO q.2.2 fun z => andK (zeroOk q.1 z = true) (caseO b[N]? fun cs => andK (cs = List.replicate q.1 .any) (K (St.put ⟨n, t, b⟩ (some d) (.pb N 0))))) := by
  unfold AllocK AllocP andK caseO
  apply propext
  constructor
  · rintro ⟨d', hd, h1, ⟨_, _, T', q, z, h3, h4, h5, h6, h7⟩, h8⟩
    cases hd; cases h3
    exact ⟨h1, q, h4, z, h5, h6, _, h7, rfl, h8⟩
  · rintro ⟨h1, q, h4, z, h5, h6, cs, h7, rfl, h8⟩
    exact ⟨d, rfl, h1, ⟨rfl, rfl, T, q, z, rfl, h4, h5, h6, h7⟩, h8⟩
attribute [go_sem] freeOthersD freeButD hasD lookA keptOk pbBut keptFree noPbT noPbB noPb noVar anyB
end
end Go.AM

/-! ## CmZ -/
namespace Go.AM
open Go Go.Proofs Go.RowKit

/-! ### the numbers that the dice give, one after the other -/
def rollA (l : List Int) (at_ : Nat) : Nat → Nat
  | 0 => at_
  | n + 1 => pickA l (rollA l at_ n)
def rollV (l : List Int) (at_ : Nat) (most : Int) : Nat → List Int
  | 0 => []
  | n + 1 => rollV l at_ most n ++ [pickV l (rollA l at_ n) (most + 1)]
theorem rollA_le {l : List Int} {at_ : Nat} (h : at_ ≤ l.length) : ∀ n, rollA l at_ n ≤ l.length
  | 0 => h
  | n + 1 => pickA_le (rollA_le h n)
theorem rollV_len {l : List Int} {at_ : Nat} {most : Int} : ∀ n, (rollV l at_ most n).length = n
  | 0 => rfl
  | n + 1 => by rw [rollV, List.length_append, rollV_len n]; rfl
theorem rollV_low {l : List Int} {at_ : Nat} {most : Int} (h : 0 ≤ most) : ∀ n, ∀ x ∈ rollV l at_ most n, 0 ≤ x ∧ x ≤ most
  | 0 => fun x hx => by cases hx
  | n + 1 => fun x hx => by
    rw [rollV, List.mem_append] at hx
    rcases hx with hx | hx
    · exact rollV_low h n x hx
    · simp only [List.mem_cons, List.not_mem_nil, or_false] at hx
      have := pickV_lt (l := l) (at_ := rollA l at_ n) (n := most + 1) (by omega)
      subst hx; omega

/-- what a callee hands back, and its variables, never written again -/
theorem Con.freezeB {P : Program} {f : FuncId} {args : List AV} {bx : List (List AV)} {post : AV → List (List AV) → Prop} (p : Nat → Bool) (h : Con P f args bx post) : Con P f args bx fun r' b' => ∃ r b, post r b ∧ r' = r.freeze p ∧ b' = b.map fun cs => cs.map (AV.freeze p) :=
  ⟨h.1, fun G w vs h1 h2 h3 h4 h5 => (h.2 G w vs h1 h2 h3 h4 h5).mono fun e w' ⟨v, r, bx', G', he, hq, hr, hg, hbx, hlt, e1, e2, e3, e4, e5, e6⟩ => by
    have hbox : ∀ k i, freezeG p G' k = .box i ↔ G' k = .box i := fun k i => by
      unfold freezeG; split
      · rename_i t ht; split <;> simp [ht]
      · exact Iff.rfl
    refine ⟨v, _, bx'.map (fun cs => cs.map (AV.freeze p)), freezeG p G', he, ⟨r, bx', hq, rfl, rfl⟩, hr.freeze, hg.freeze, ⟨fun i vs hv => by simp [noGh] at hv, fun i cs hi => ?_⟩, fun k i hk => by simpa using hlt k i ((hbox k i).1 hk), e1, e2, e3, e4, fun k hk => ?_, e6⟩
    · rw [List.getElem?_map] at hi
      cases hc : bx'[i]? with
      | none => simp [hc] at hi
      | some cs' =>
        simp [hc] at hi; subst hi
        exact (hbx.cell i cs' hc).map (fun x v hr => hr.freeze) (fun k hk => ⟨(hbox k i).2 hk, rfl⟩) fun h0 k hk => h0 k ((hbox k i).1 hk)
    · have := e5 k hk
      unfold freezeG
      split
      · rename_i t ht; rw [this] at ht; exact absurd ht (h2 k t)
      · exact this⟩

set_option maxRecDepth 100000 in
theorem con_ints (l : List Int) (at_ : Nat) (n : Nat) (most : Int) (hs : Seeds l) (ha : at_ ≤ l.length) (hn : n ≤ 6) (hm : 0 ≤ most ∧ most ≤ 100) : Con Tryz.prog 63 [.pb 0 0, vi n, vi most] [diceA l at_]
    fun r b => r = vs 2 (rollV l at_ most n) ∧ b = [diceA l (rollA l at_ n)] := by
  refine Con.intro Tryz.func63 rfl Tryz.ntmps63 Tryz.results63 (by kernel_rfl) (by simp) 1 (by simp) ?_
  simp only [go_sem]
  refine LoopK.intro (fun i : Nat => ⟨22, [(0, .pb 0 0), (1, vi n), (2, vi most), (7, vs 1344 (rollV l at_ most i)), (8, vi i)], [diceA l (rollA l at_ i)]⟩)
    (fun i => n - i) (fun i => i ≤ n) 0 (by omega) ?_ ?_
  · simp only [go_sem, rollV, rollA, List.map_nil]
  rintro i hi
  by_cases h : i < n
  · have hw : IntKind.i64.wrap (i + 1) = i + 1 := wrap_in (by omega) (by omega)
    have hw2 : IntKind.i64.wrap (most + 1) = most + 1 := wrap_in (by omega) (by omega)
    simp only [go_sem, h, hw2]
    refine CallU.boxes (i := 0) (is := []) (bx0 := [diceA l (rollA l at_ i)]) (con_pickF l (rollA l at_ i) (most + 1) hs (rollA_le ha i) (by omega)) (by simp only [go_sem]) (by simp only [go_sem]) (by simp only [go_sem]) (by simp only [go_sem]) (by simp only [go_sem]) ?_
    rintro r b ⟨rfl, rfl⟩
    have hr : roomFor ((rollV l at_ most i).length + 1) 8 := by rw [rollV_len]; simp only [roomFor]; omega
    simp only [go_sem, hr, hw]
    refine roundK.intro (i + 1) (by omega) (by omega) ?_
    simp only [go_sem, rollV, rollA, List.map_append, List.map_cons, List.map_nil]
  · have e : i = n := by omega
    subst e
    simp only [go_sem, h]
theorem con_intsF (l : List Int) (at_ : Nat) (n : Nat) (most : Int) (hs : Seeds l) (ha : at_ ≤ l.length) (hn : n ≤ 6) (hm : 0 ≤ most ∧ most ≤ 100) : Con Tryz.prog 63 [.pb 0 0, vi n, vi most] [diceA l at_]
    fun r b => r = vs 0 (rollV l at_ most n) ∧ b = [diceA l (rollA l at_ n)] :=
  ((con_ints l at_ n most hs ha hn hm).freezeB fun _ => true).mono fun r b ⟨r1, b1, ⟨h1, h2⟩, h3, h4⟩ => by
    subst h1; subst h2; subst h3; subst h4
    refine ⟨?_, ?_⟩
    · rfl
    · rfl

/-! ### configurations as they are built: what is empty is nil -/
def kidN (n : Int) : AV := .ag [vi n, .nil]
def cfgN (t s : Nat) (v : List Int) : AV := .ag [vi 0, .sl t 2 (((s : Int) :: v).map kidN)]
attribute [go_sem] kidN cfgN

set_option maxRecDepth 100000 in
theorem con_config28 (s : Nat) (v : List Int) (hv : v.length ≤ 100) : Con Tryz.prog 21 [vi s, vs 0 v] [] fun r _ => r = cfgN 2 s v := by
  refine Con.intro Tryz.func21 rfl Tryz.ntmps21 Tryz.results21 (by kernel_rfl) (by simp) 0 (by simp) ?_
  simp only [go_sem]
  refine LoopK.intro (fun i : Nat => ⟨28, [(0, vi s), (1, vs 0 v), (4, .pb 0 0), (5, .pb 1 0), (6, vi i)], [[.any, .any], [vi 0, .sl 640 2 (((s : Int) :: v.take i).map kidN)]]⟩)
    (fun i => v.length - i) (fun i => i ≤ v.length) 0 (by omega) ?_ ?_
  · simp only [go_sem, List.take_zero, List.map_cons, List.map_nil]
  rintro i hi
  by_cases h : i < v.length
  · have hw : IntKind.i64.wrap (i + 1) = i + 1 := wrap_in (by omega) (by omega)
    have hg := getv h
    have e : v.take (i + 1) = v.take i ++ [v[i]!] := by rw [List.take_add_one, List.getElem?_eq_getElem h, getElem!_pos v i h]; rfl
    simp only [go_sem, h, List.map_cons]
    refine DrawK.walk 8 mixed (by kernel_rfl) ?_
    simp only [go_sem, h, hw, hg, List.map_cons]
    refine ⟨by simp only [roomFor, List.length_take]; omega, roundK.intro (i + 1) (by omega) (by omega) ?_⟩
    simp only [go_sem, e, List.map_append, List.map_cons, List.map_nil]
  · have e : i = v.length := by omega
    subst e
    simp only [go_sem, h, List.take_length, List.map_cons]

/-- a configuration of the dice -/
def rollS (l : List Int) (at_ ns : Nat) : Nat := (pickV l at_ ns).toNat
theorem rollS_lt {l : List Int} {at_ ns : Nat} (h : 1 ≤ ns) : rollS l at_ ns < ns ∧ pickV l at_ ns = rollS l at_ ns := by
  have := pickV_lt (l := l) (at_ := at_) (n := ns) (by omega)
  unfold rollS; omega
set_option maxRecDepth 100000 in
theorem con_Config (l : List Int) (at_ : Nat) (m : MD) (hs : Seeds l) (ha : at_ ≤ l.length) (hk : m.kind = 1) (h1 : 1 ≤ m.states.length ∧ m.states.length ≤ 8) (h2 : 1 ≤ m.places.length ∧ m.places.length ≤ 6) :
    Con Tryz.prog 38 [.pb 0 0, vM m] [diceA l at_]
    fun r b => r = cfgN 2 (rollS l at_ m.states.length) (rollV l (pickA l at_) 3 m.places.length) ∧ b = [diceA l (rollA l (pickA l at_) m.places.length)] := by
  refine Con.intro Tryz.func38 rfl Tryz.ntmps38 Tryz.results38 (by kernel_rfl) (by simp) 1 (by simp) ?_
  have hN := rollS_lt (l := l) (at_ := at_) h1.1
  have ei := con_intsF l (pickA l at_) m.places.length 3 hs (pickA_le ha) h2.2 (by omega)
  unfold vM cM
  rw [hk]
  simp only [go_sem, vss]
  refine DrawK.effs0 0 [4, 9] [] 10 (.one 10 (.one 11 .done)) none (diceA l at_) mixed (by kernel_rfl) (by kernel_rfl) (by simp only [go_sem]) (by simp only [go_sem]) ?_
  simp only [go_sem, List.length_map]
  refine EffK.mk (con_pickF l at_ m.states.length hs ha (by omega)) (by simp only [go_sem]) (by simp only [go_sem]) (by simp only [go_sem]) (by simp only [go_sem]) ?_
  simp only [go_sem, List.length_map]
  refine EffK.mk ei (by simp only [go_sem]) (by simp only [go_sem]) (by simp only [go_sem]) (by simp only [go_sem]) ?_
  simp only [go_sem, hN.2]
  refine ⟨CallU.free (con_config28 (rollS l at_ m.states.length) (rollV l (pickA l at_) 3 m.places.length) (by rw [rollV_len]; omega)) (by simp only [go_sem]) (by simp only [go_sem]) ?_, ?_⟩
  · rintro r bx rfl
    simp only [go_sem]
  · exact trivial
end Go.AM

/-! ## CmX0 -/
namespace Go.AM
open Go Go.Proofs Go.RowKit

/-! ### configurations and models as they are built: what is empty is nil -/
theorem flat_cons (x : AV) (l : List AV) : flat (x :: l) = x.cells ++ flat l := by simp [flat]
theorem kids_pw : ∀ l : List Int, PW Sub (flat (l.map kidN)) (flat ((l.map fun n => CV.mk n []).map vV))
  | [] => PW.nil _
  | n :: l => by
    rw [List.map_cons, List.map_cons, List.map_cons, flat_cons, flat_cons, vV_eq]
    exact PW.append (PW.cons (Sub.refl _) (PW.cons (Sub.nil 2) (PW.nil _))) (kids_pw l)
theorem cfg_le (s : Nat) (v : List Int) : leV (cfgN 0 s v) (vV (cfgC s v)) := by
  rw [vV_eq]
  refine leV_ag ⟨leV_refl _, ?_, trivial⟩
  show leV (.sl 0 2 (((s : Int) :: v).map kidN)) (.sl 0 2 ((((s : Int) :: v).map fun n => CV.mk n []).map vV))
  exact leV_slE (by simp) (fun y hy => by
    obtain ⟨x, _, rfl⟩ := List.mem_map.1 hy
    rw [vV_eq]; rfl) (kids_pw _)
/-- a counter model's rule without moves -/
def ruleN (r : RD) : AV := .ag [vStr r.name, vi r.src, vi r.dst, vs 0 r.need, vs 0 r.give, .nil, vi 0, vi 0, vi 0, .nil, .nil, .nil, .nil, vi 0]
attribute [go_sem] ruleN
def ThinR (r : RD) : Prop := r = bareR r.name r.src r.dst r.need r.give []
theorem rules_pw : ∀ l : List RD, (∀ r ∈ l, ThinR r) → PW Sub (flat (l.map ruleN)) (flat (l.map vRule))
  | [], _ => PW.nil _
  | r :: l, h => by
    rw [List.map_cons, List.map_cons, flat_cons, flat_cons]
    refine PW.append ?_ (rules_pw l fun x hx => h x (List.mem_cons_of_mem _ hx))
    rw [h r (List.mem_cons_self ..)]
    have e1 : Sub .nil (vs 0 []) := Sub.nil 1
    have e3 : Sub .nil (.sl 0 3 (([] : List (Int × Int × Int)).map vTake)) := Sub.nil 3
    exact PW.cons (Sub.refl _) (PW.cons (Sub.refl _) (PW.cons (Sub.refl _) (PW.cons (Sub.refl _) (PW.cons (Sub.refl _) (PW.cons e1 (PW.cons (Sub.refl _) (PW.cons (Sub.refl _) (PW.cons (Sub.refl _) (PW.cons e1 (PW.cons e1 (PW.cons e3 (PW.cons e1 (PW.cons (Sub.refl _) (PW.nil _))))))))))))))
/-- a counter model without moves, as it is built -/
def modelN (m : MD) (t s0 : Nat) (v0 : List Int) : AV := .ag [vi 1, vss m.states, vss m.places, .nil, .nil, vi 0, vi 0, .sl t 14 (m.rules.map ruleN), vi 0, .sl t 2 (((s0 : Int) :: v0).map kidN)]
attribute [go_sem] modelN
theorem model_le {m : MD} {s0 : Nat} {v0 : List Int} (h : GoodM m) (hr : ∀ r ∈ m.rules, ThinR r) (hs : m.start = cfgC s0 v0) : leV (modelN m 0 s0 v0) (vM m) := by
  have hc := cfg_le s0 v0
  rw [vV_eq] at hc
  unfold modelN vM cM
  rw [h.kind, h.letters, h.ranks, h.levels, h.age, hs]
  refine leV_ag ⟨leV_refl _, leV_refl _, leV_refl _, leV_nil 0 1, leV_nil 0 1, leV_refl _, leV_refl _, ?_, leV_refl _, ?_, trivial⟩
  · exact leV_slE (by simp) (fun y hy => by obtain ⟨x, _, rfl⟩ := List.mem_map.1 hy; rfl) (rules_pw _ hr)
  · show leV (.sl 0 2 (((s0 : Int) :: v0).map kidN)) (.sl 0 2 ((((s0 : Int) :: v0).map fun n => CV.mk n []).map vV))
    exact leV_slE (by simp) (fun y hy => by
      obtain ⟨x, _, rfl⟩ := List.mem_map.1 hy
      rw [vV_eq]; rfl) (kids_pw _)
theorem one_mem {x y : Int} (h : x ∈ [y]) : x = y := by simpa using h
end Go.AM

/-! ## FC -/
namespace Go.AM
open Go Go.Proofs Go.RowKit

/-! ### finite vectors -/
def numB (x : Int) : Bool := decide (0 ≤ x) && decide (x ≤ 1048576)
set_option maxRecDepth 100000 in
theorem con_vnumber (x : Int) : Con Tryz.prog 172 [vi x] [] fun r _ => r = vb (numB x) := by
  refine Con.intro Tryz.func172 rfl Tryz.ntmps172 Tryz.results172 (by kernel_rfl) (by simp) 0 (by simp) ?_
  unfold numB
  by_cases h : 0 ≤ x
  · simp only [go_sem, h, decide_true, Bool.true_and]
  · simp only [go_sem, h, decide_false, Bool.false_and]
set_option maxRecDepth 100000 in
theorem con_vfinite1 (x : Int) : Con Tryz.prog 171 [vi x] [] fun r _ => r = .sc (.bool (!numB x)) := by
  refine Con.intro Tryz.func171 rfl Tryz.ntmps171 Tryz.results171 (by kernel_rfl) (by simp) 0 (by simp) ?_
  simp only [go_sem]
  refine CallU.free (con_vnumber x) (by simp only [go_sem]) (by simp only [go_sem]) ?_
  rintro r bx rfl
  simp only [go_sem]
set_option maxRecDepth 100000 in
theorem con_finite (l : List Int) (h6 : l.length ≤ 6) : Con Tryz.prog 124 [vs 0 l] [] fun r _ => r = vb (l.all numB) := by
  refine Con.intro Tryz.func124 rfl Tryz.ntmps124 Tryz.results124 (by kernel_rfl) (by simp) 0 (by simp) ?_
  have h6' : (l.length : Int) ≤ 6 := by omega
  simp only [go_sem, h6']
  refine CallU.free (con_containsInt l 171 [] (fun x => !numB x) rfl (fun x _ => con_vfinite1 x) (by omega)) (by simp only [go_sem]) (by simp only [go_sem]) ?_
  rintro r bx rfl
  simp only [go_sem, any_not]

/-- a vector of small numbers, one for each place -/
def VecOk (np : Nat) (v : List Int) : Prop := v.length = np ∧ ∀ x ∈ v, 0 ≤ x ∧ x ≤ 1048576
theorem vec_all {np : Nat} {v : List Int} (h : VecOk np v) : v.all numB = true := by
  rw [List.all_eq_true]
  intro x hx
  have := h.2 x hx
  unfold numB
  rw [decide_eq_true this.1, decide_eq_true this.2]; rfl
def loopA (np : Nat) (rules : List RD) (c : List Int) : AV := .ag [vs 0 (needL np rules c), vs 0 (chgL np rules c)]
attribute [go_sem] loopA
set_option maxRecDepth 100000 in
set_option maxHeartbeats 4000000 in
/-- a loop, where the cycle is one -/
theorem con_of1 (m : MD) (c : List Int) (vs_ : List (List Int)) (h : GoodM m) (hst : m.rules.all stillB = true) (hc : RulesOk m.rules c) (hl : c.length ≤ 64) (hv : ∀ v ∈ vs_, VecOk m.places.length v) (hn : vs_.length ≤ 2) :
    Con Tryz.prog 65 [vM m, vs 0 c, .sl 0 1 (vs_.map (vs 0))] [] fun r _ => r = .tup [if fcheckE m.rules c = 0 then loopA m.places.length m.rules c else .ag [.nil, .nil], vi (fcheckE m.rules c)] := by
  refine Con.intro Tryz.func65 rfl Tryz.ntmps65 Tryz.results65 (by kernel_rfl) (by simp) 0 (by simp) ?_
  have h2 := h.places
  simp only [go_sem, vM, cM, vss]
  refine CallU.free (con_fcheck m c h hst hc hl) (by simp only [go_sem]) (by simp only [go_sem, vM, cM, vss]) ?_
  rintro x bx rfl
  by_cases he : fcheckE m.rules c = 0
  case neg =>
    have he' : (fcheckE m.rules c != 0) = true := bne_iff_ne.2 he
    simp only [go_sem, he', if_neg he]
  simp only [go_sem, he, if_true]
  refine LoopK.intro (fun i : Nat => ⟨62, [(1, vs 0 c), (2, .sl 0 1 (vs_.map (vs 0))), (3, .pb 0 0), (6, .pb 1 0), (27, .sl 0 1 (vs_.map (vs 0))), (28, vi vs_.length), (29, vi i)], [cM m, [.any, .any]]⟩)
    (fun i => vs_.length - i) (fun i => i ≤ vs_.length) 0 (by omega) ?_ ?_
  · simp only [go_sem, cM, vss]
  rintro i hi
  by_cases hil : i < vs_.length
  · have hvi := hv _ (mem_bangI hil)
    have hg : (vs_.map (vs 0))[i]? = some (vs 0 vs_[i]!) := by rw [List.getElem?_map, List.getElem?_eq_getElem hil, getElem!_pos vs_ i hil]; rfl
    have hw : IntKind.i64.wrap (i + 1) = i + 1 := wrap_in (by omega) (by omega)
    have h6 := hvi.1
    simp only [go_sem, cM, vss, List.length_map, hil, hg]
    refine CallU.free (con_finite vs_[i]! (by omega)) (by simp only [go_sem]) (by simp only [go_sem]) ?_
    rintro x bx rfl
    simp only [go_sem, vec_all hvi, hw]
    refine roundK.intro (i + 1) (by omega) (by omega) ?_
    simp only [go_sem]
  · simp only [go_sem, cM, vss, List.length_map, hil]
    refine LoopK.intro (fun i : Nat => ⟨62, [(1, vs 0 c), (2, .sl 0 1 (vs_.map (vs 0))), (3, .pb 0 0), (6, .pb 1 0), (38, .sl 0 1 (vs_.map (vs 0))), (39, vi vs_.length), (40, vi i)], [cM m, [.any, .any]]⟩)
      (fun i => vs_.length - i) (fun i => i ≤ vs_.length) 0 (by omega) ?_ ?_
    · simp only [go_sem, cM, vss]
    rintro i hi
    by_cases hil : i < vs_.length
    · have hvi := hv _ (mem_bangI hil)
      have hg : (vs_.map (vs 0))[i]? = some (vs 0 vs_[i]!) := by rw [List.getElem?_map, List.getElem?_eq_getElem hil, getElem!_pos vs_ i hil]; rfl
      have hw : IntKind.i64.wrap (i + 1) = i + 1 := wrap_in (by omega) (by omega)
      have hl' : (vs_[i]!.length : Int) = (m.places.length : Int) := by rw [hvi.1]
      simp only [go_sem, cM, vss, List.length_map, hil, hg, hl', hw]
      refine roundK.intro (i + 1) (by omega) (by omega) ?_
      simp only [go_sem]
    · simp only [go_sem, cM, vss, hil]
      refine CallU.free (con_cEffectF m c h hst hc hl) (by simp only [go_sem]) (by simp only [go_sem, vM, cM, vss]) ?_
      rintro x bx rfl
      simp only [go_sem]
      rw [if_pos he, he]
/-- a loop's need and effect, of numbers that are not great -/
structure LoopOk (np : Nat) (nd ef : List Int) : Prop where
  need : nd.length = np ∧ ∀ x ∈ nd, 0 ≤ x ∧ x ≤ 1100
  eff : ef.length = np ∧ ∀ x ∈ ef, -1100 ≤ x ∧ x ≤ 1100
def loopV (nd ef : List Int) : AV := .ag [vs 0 nd, vs 0 ef]
attribute [go_sem] loopV
def optN : Option Int → Int
  | none => 0
  | some n => n
theorem optN_none : optN none = 0 := rfl
theorem optN_some (n : Int) : optN (some n) = n := rfl
set_option maxRecDepth 100000 in
set_option maxHeartbeats 4000000 in
theorem con_ltimes (np : Nat) (nd ef v : List Int) (h : LoopOk np nd ef) (hv : VecOk np v) (h6 : np ≤ 6) :
    Con Tryz.prog 66 [loopV nd ef, vs 0 v] [] fun r _ => r = .tup [vi (optN (timesP nd ef v np)), vb (timesP nd ef v np).isSome] := by
  refine Con.intro Tryz.func66 rfl Tryz.ntmps66 Tryz.results66 (by kernel_rfl) (by simp) 0 (by simp) ?_
  have hvl := hv.1
  simp only [go_sem]
  refine LoopK.intro (fun i : Nat => ⟨57, [(2, .pb 0 0), (6, vi (optN (timesP nd ef v i))), (7, vb (timesP nd ef v i).isSome), (11, vs 0 v), (12, vi v.length), (13, vi i)], [[vs 0 nd, vs 0 ef]]⟩)
    (fun i => np - i) (fun i => i ≤ np) 0 (by omega) ?_ ?_
  · simp only [go_sem, timesP, optN_none, Option.isSome_none]
  rintro i hi
  by_cases hil : i < np
  case neg =>
    obtain rfl : i = np := by omega
    have hn : ¬ i < v.length := by omega
    simp only [go_sem, hn]
  have hil1 : i < v.length := by omega
  have hil2 : i < nd.length := by rw [h.need.1]; exact hil
  have hil3 : i < ef.length := by rw [h.eff.1]; exact hil
  have g1 := getv hil1
  have g2 := getv hil2
  have g3 := getv hil3
  have b1 := hv.2 _ (mem_bangI hil1)
  have b2 := h.need.2 _ (mem_bangI hil2)
  have b3 := h.eff.2 _ (mem_bangI hil3)
  have hw : IntKind.i64.wrap (i + 1) = i + 1 := wrap_in (by omega) (by omega)
  by_cases hlt : v[i]! < nd[i]!
  · have e := timesP_zero (eff := ef) hlt hil
    simp only [go_sem, hil1, hil2, g1, g2, hlt, e, optN_some, Option.isSome_some]
  by_cases hge : 0 ≤ ef[i]!
  · have e : timesP nd ef v (i + 1) = timesP nd ef v i := by
      rw [timesP]
      have : timeAt nd[i]! ef[i]! v[i]! = none := by unfold timeAt; rw [if_neg hlt, if_pos hge]
      rw [this]
      cases timesP nd ef v i <;> rfl
    simp only [go_sem, hil1, hil2, hil3, g1, g2, g3, hlt, hge, hw]
    refine roundK.intro (i + 1) (by omega) (by omega) ?_
    simp only [go_sem, e]
  · have e : timesP nd ef v (i + 1) = minO (timesP nd ef v i) (some ((v[i]! - nd[i]!) / -ef[i]! + 1)) := by
      rw [timesP]
      have : timeAt nd[i]! ef[i]! v[i]! = some ((v[i]! - nd[i]!) / -ef[i]! + 1) := by unfold timeAt; rw [if_neg hlt, if_neg hge]
      rw [this]
    simp only [go_sem, hil1, hil2, hil3, g1, g2, g3, hlt, hge]
    refine DrawK.walk 16 mixed (by kernel_rfl) ?_
    obtain ⟨q, eq⟩ : ∃ q, q = (v[i]! - nd[i]!) / -ef[i]! := ⟨_, rfl⟩
    have hq0 : 0 ≤ q := by rw [eq]; exact Int.ediv_nonneg (by omega) (by omega)
    have hq1 : q ≤ 1048576 := by rw [eq]; exact Int.le_trans (Int.ediv_le_self _ (by omega)) (by omega)
    have hn0 : ¬ -ef[i]! = 0 := by omega
    have wn : IntKind.i64.wrap (0 - ef[i]!) = -ef[i]! := by rw [wrap_in (by omega) (by omega)]; omega
    have ws : IntKind.i64.wrap (v[i]! - nd[i]!) = v[i]! - nd[i]! := wrap_in (by omega) (by omega)
    have wt : (v[i]! - nd[i]!).tdiv (-ef[i]!) = q := by rw [eq]; exact Int.tdiv_eq_ediv_of_nonneg (by omega)
    have wq : IntKind.i64.wrap q = q := wrap_in (by omega) (by omega)
    have w1 : IntKind.i64.wrap (q + 1) = q + 1 := wrap_in (by omega) (by omega)
    rw [← eq] at e
    cases hT : timesP nd ef v i with
    | none =>
      rw [hT] at e
      simp only [go_sem, hil2, hil3, g2, g3, wn, ws, wt, wq, w1, hn0, hw, Option.isSome_none, optN_none]
      refine roundK.intro (i + 1) (by omega) (by omega) ?_
      simp only [go_sem, e, minO, optN_some, Option.isSome_some]
    | some a =>
      rw [hT] at e
      by_cases hlt2 : q + 1 < a
      · simp only [go_sem, hil2, hil3, g2, g3, wn, ws, wt, wq, w1, hn0, hw, Option.isSome_some, optN_some, hlt2]
        refine roundK.intro (i + 1) (by omega) (by omega) ?_
        simp only [go_sem, e, minO, optN_some, Option.isSome_some, hlt2, if_true, if_false]
      · simp only [go_sem, hil2, hil3, g2, g3, wn, ws, wt, wq, w1, hn0, hw, Option.isSome_some, optN_some, hlt2]
        refine roundK.intro (i + 1) (by omega) (by omega) ?_
        simp only [go_sem, e, minO, optN_some, Option.isSome_some, hlt2, if_true, if_false]
end Go.AM

/-! ## FD -/
namespace Go.AM
open Go Go.Proofs Go.RowKit

theorem loop_ok {m : MD} {c : List Int} (h : GoodM m) (hc : RulesOk m.rules c) (hl : c.length ≤ 64) : LoopOk m.places.length (needL m.places.length m.rules c) (chgL m.places.length m.rules c) := by
  have hsm := good_small h
  have key : ∀ p, p < m.places.length → 0 ≤ needA (tksF m.rules c p) ∧ needA (tksF m.rules c p) ≤ 1100 ∧ -1100 ≤ chg (tksF m.rules c p) ∧ chg (tksF m.rules c p) ≤ 1100 := fun p hp => by
    have h5 := tks_bnd hsm hc hp
    have h6 := needA_bnd h5 (by omega)
    have h7 := chg_bnd h5 (by omega)
    have h8 := tks_len m.rules c p
    have h10 := needA_nonneg (tksF m.rules c p)
    rw [h8] at h6 h7
    omega
  refine ⟨⟨needL_len .., fun x hx => ?_⟩, chgL_len .., fun x hx => ?_⟩
  · obtain ⟨p, hp, rfl⟩ := List.mem_map.1 hx
    have := key p (List.mem_range.1 hp); omega
  · obtain ⟨p, hp, rfl⟩ := List.mem_map.1 hx
    have := key p (List.mem_range.1 hp); omega
set_option maxRecDepth 100000 in
theorem con_ldoes (np : Nat) (nd ef v : List Int) (n : Int) (h : LoopOk np nd ef) (hv : VecOk np v) (h6 : np ≤ 6) (hn : 0 ≤ n) :
    Con Tryz.prog 67 [loopV nd ef, vs 0 v, vi n] [] fun r _ => r = vb (doesB nd ef v np n) := by
  refine Con.intro Tryz.func67 rfl Tryz.ntmps67 Tryz.results67 (by kernel_rfl) (by simp) 0 (by simp) ?_
  simp only [go_sem]
  refine CallU.free (con_ltimes np nd ef v h hv h6) (by simp only [go_sem]) (by simp only [go_sem]) ?_
  rintro x bx rfl
  unfold doesB
  cases hT : timesP nd ef v np with
  | none => simp only [go_sem, hn, Option.isSome_none, optN_none]
  | some a =>
    by_cases ha : n ≤ a
    · simp only [go_sem, hn, Option.isSome_some, optN_some, ha, decide_true]
    · simp only [go_sem, hn, Option.isSome_some, optN_some, ha, decide_false]
set_option maxRecDepth 100000 in
set_option maxHeartbeats 4000000 in
theorem con_exceeds (m : MD) (c v : List Int) (n : Nat) (h : GoodM m) (hc : RulesOk m.rules c) (hl : c.length ≤ 64) (hv : v.length = m.places.length ∧ ∀ x ∈ v, 0 ≤ x ∧ x ≤ 1000) (hn : 1 ≤ n ∧ n ≤ 100) :
    Con Tryz.prog 69 [loopA m.places.length m.rules c, vM m, vs 0 c, vs 0 v, vi n] [] fun r _ => r = vb false := by
  refine Con.intro Tryz.func69 rfl Tryz.ntmps69 Tryz.results69 (by kernel_rfl) (by simp) 0 (by simp) ?_
  obtain ⟨np, hnp⟩ : ∃ np, np = m.places.length := ⟨_, rfl⟩
  have hlo := loop_ok h hc hl
  have hsm := good_small h
  have h2 := h.places
  rw [← hnp] at hv hlo hsm h2 ⊢
  have hef : ∀ p, p < np → (chgL np m.rules c)[p]! = chg (tksF m.rules c p) := fun p => chgL_at
  have hel := chgL_len np m.rules c
  obtain ⟨ef, eef⟩ : ∃ ef, ef = chgL np m.rules c := ⟨_, rfl⟩
  rw [← eef] at hef hel hlo
  simp only [go_sem, vM, cM, vss, ← eef]
  refine LoopK.intro (fun i : Nat => ⟨71, [(2, vs 0 c), (3, vs 0 v), (4, vi n), (5, .pb 0 0), (6, .pb 1 0), (16, vs 0 v), (17, vi v.length), (18, vi i)], [[vs 0 (needL np m.rules c), vs 0 ef], cM m]⟩)
    (fun i => np - i) (fun i => i ≤ np) 0 (by omega) ?_ ?_
  · simp only [go_sem, cM, vss]
  rintro i hi
  by_cases hil : i < np
  case neg =>
    have hil' : ¬ i < v.length := by omega
    simp only [go_sem, cM, vss, hil']
  have hil1 : i < v.length := by omega
  have hil2 : i < ef.length := by omega
  have g1 := getv hil1
  have g2 := getv hil2
  have b1 := hv.2 _ (mem_bangI hil1)
  have b2 := hlo.eff.2 _ (mem_bangI hil2)
  have hw : IntKind.i64.wrap (i + 1) = i + 1 := wrap_in (by omega) (by omega)
  have hn2 : ¬ (2097152 : Int) < (n : Int) := by omega
  have wn : IntKind.i64.wrap ((n : Int) - 1) = (n : Int) - 1 := wrap_in (by omega) (by omega)
  have hmul : 0 ≤ ef[i]! → ((n : Int) - 1) * ef[i]! ≤ 99 * 1100 ∧ 0 ≤ ((n : Int) - 1) * ef[i]! := fun h0 => ⟨Int.mul_le_mul (by omega) (by omega) h0 (by omega), Int.mul_nonneg (by omega) h0⟩
  obtain ⟨a0, ea0, ha0, hb0⟩ : ∃ a0 : Int, (a0 = if 0 < ef[i]! then v[i]! + ((n : Int) - 1) * ef[i]! else v[i]!) ∧ 0 ≤ a0 ∧ a0 ≤ 120000 := by
    refine ⟨_, rfl, ?_⟩
    split
    · have := hmul (by omega); omega
    · omega
  have wm : 0 < ef[i]! → IntKind.i64.wrap (((n : Int) - 1) * ef[i]!) = ((n : Int) - 1) * ef[i]! := fun h0 => by have := hmul (by omega); exact wrap_in (by omega) (by omega)
  have wa : 0 < ef[i]! → IntKind.i64.wrap (v[i]! + ((n : Int) - 1) * ef[i]!) = a0 := fun h0 => by have := hmul (by omega); rw [ea0, if_pos h0]; exact wrap_in (by omega) (by omega)
  simp only [go_sem, cM, vss, hil1, hil2, g1, g2]
  have hch : ∀ j, -1024 ≤ chg (tksF m.rules (c.take j) i) ∧ chg (tksF m.rules (c.take j) i) ≤ 1024 := fun j => by
    have h7 := chg_bnd (tks_bnd hsm (rules_take j hc) hil) (by omega)
    have h8 := tks_len m.rules (c.take j) i
    have h9 : (c.take j).length ≤ 64 := by rw [List.length_take]; omega
    rw [h8] at h7
    omega
  rcases Int.lt_or_le 0 ef[i]! with hpos | hpos
  case' inl =>
    simp only [go_sem, hpos, hn2, wn, wm hpos, wa hpos]
  case' inr =>
    have hpos : ¬ 0 < ef[i]! := by omega
    have ea : v[i]! = a0 := by rw [ea0, if_neg hpos]
    simp only [go_sem, hpos, ea]
  all_goals
    refine LoopK.intro (fun j : Nat => ⟨71, [(2, vs 0 c), (3, vs 0 v), (4, vi n), (5, .pb 0 0), (6, .pb 1 0), (11, vi i), (12, vi (a0 + chg (tksF m.rules (c.take j) i))), (16, vs 0 v), (17, vi v.length), (18, vi i), (40, vs 0 c), (41, vi c.length), (42, vi j)], [[vs 0 (needL np m.rules c), vs 0 ef], cM m]⟩)
      (fun j => c.length - j) (fun j => j ≤ c.length) 0 (by omega) ?_ ?_
    · simp only [go_sem, cM, vss, List.take_zero, tksF, List.map_nil, chg]
      all_goals exact leV_int (by omega)
    rintro j hj
    by_cases hjl : j < c.length
    case neg =>
      simp only [go_sem, cM, vss, hjl, hw]
      refine roundK.intro (i + 1) (by omega) (by omega) ?_
      simp only [go_sem]
    have hck := hc _ (mem_bangI hjl)
    obtain ⟨k, ek, hk⟩ : ∃ k : Nat, c[j]! = k ∧ k < m.rules.length := ⟨c[j]!.toNat, by omega, by omega⟩
    have hg := getv hjl
    have hgr := getRule hk
    have hrk := hsm _ (mem_bangI hk)
    rw [ek] at hg
    have l3 : i < m.rules[k]!.need.length := by rw [hrk.1]; exact hil
    have l4 : i < m.rules[k]!.give.length := by rw [hrk.2.1]; exact hil
    have q3 := getv l3
    have q4 := getv l4
    have b3 := hrk.2.2.1 _ (mem_bangI l3)
    have b4 := hrk.2.2.2 _ (mem_bangI l4)
    have hcx : chg (tksF m.rules (c.take (j + 1)) i) = chg (tksF m.rules (c.take j) i) + (m.rules[k]!.give[i]! - m.rules[k]!.need[i]!) := by
      have := chg_take (rules := m.rules) (p := i) hjl
      rw [ek, Int.toNat_natCast] at this; exact this
    have hc1 := hch j
    have hc2 := hch (j + 1)
    have w1 : IntKind.i64.wrap (m.rules[k]!.give[i]! - m.rules[k]!.need[i]!) = m.rules[k]!.give[i]! - m.rules[k]!.need[i]! := wrap_in (by omega) (by omega)
    have w2 : IntKind.i64.wrap (a0 + chg (tksF m.rules (c.take j) i) + (m.rules[k]!.give[i]! - m.rules[k]!.need[i]!)) = a0 + chg (tksF m.rules (c.take (j + 1)) i) := by rw [hcx, wrap_in (by omega) (by omega)]; omega
    have hno : ¬ (1048576 : Int) < a0 + chg (tksF m.rules (c.take (j + 1)) i) := by omega
    have hw2 : IntKind.i64.wrap (j + 1) = j + 1 := wrap_in (by omega) (by omega)
    simp only [go_sem, cM, vss, hjl, hg]
    refine DrawK.walk 22 mixed (by kernel_rfl) ?_
    simp only [go_sem, hk, hgr, l3, l4, q3, q4, w1, w2, hno, hw2]
    refine roundK.intro (j + 1) (by omega) (by omega) ?_
    simp only [go_sem]
end Go.AM

/-! ## FE -/
namespace Go.AM
open Go Go.Proofs Go.RowKit

set_option maxRecDepth 100000 in
theorem con_Times (m : MD) (c v : List Int) (h : GoodM m) (hst : m.rules.all stillB = true) (hc : RulesOk m.rules c) (hl : c.length ≤ 64) (hv : VecOk m.places.length v) (he : fcheckE m.rules c = 0) :
    Con Tryz.prog 19 [vM m, vs 0 c, vs 0 v] [] fun r _ => r = .tup [vi (optN (timesP (needL m.places.length m.rules c) (chgL m.places.length m.rules c) v m.places.length)), vb (timesP (needL m.places.length m.rules c) (chgL m.places.length m.rules c) v m.places.length).isSome, vi 0] := by
  refine Con.intro Tryz.func19 rfl Tryz.ntmps19 Tryz.results19 (by kernel_rfl) (by simp) 0 (by simp) ?_
  have h2 := h.places
  have hof := con_of1 m c [v] h hst hc hl (fun x hx => by rw [List.mem_singleton] at hx; subst hx; exact hv) (by simp)
  rw [he, if_pos rfl, List.map_cons, List.map_nil] at hof
  simp only [go_sem, vM, cM, vss]
  refine CallU.freeze hof (by simp only [go_sem]) (by simp only [go_sem, vM, cM, vss]) ?_
  rintro x bx rfl
  simp only [go_sem]
  refine CallU.free (con_ltimes _ _ _ v (loop_ok h hc hl) hv h2.2) (by simp only [go_sem]) (by simp only [go_sem]) ?_
  rintro x bx rfl
  simp only [go_sem]
theorem range_bang (v : List Int) : (List.range v.length).map (fun p => v[p]!) = v := by
  refine List.ext_getElem (by simp) fun i h1 h2 => ?_
  rw [List.getElem_map, List.getElem_range, getElem!_pos v i h2]
theorem mul_bnd {a b A B : Int} (h1 : 0 ≤ a) (h2 : a ≤ A) (h3 : -B ≤ b) (h4 : b ≤ B) : -(A * B) ≤ a * b ∧ a * b ≤ A * B := by
  have hB : 0 ≤ B := by omega
  have e1 : a * b ≤ a * B := Int.mul_le_mul_of_nonneg_left h4 h1
  have e2 : a * (-B) ≤ a * b := Int.mul_le_mul_of_nonneg_left h3 h1
  have e3 : a * B ≤ A * B := Int.mul_le_mul_of_nonneg_right h2 hB
  rw [Int.mul_neg] at e2
  omega
/-- a vector of small numbers -/
def VecS (np : Nat) (v : List Int) : Prop := v.length = np ∧ ∀ x ∈ v, 0 ≤ x ∧ x ≤ 1000
theorem VecS.ok {np : Nat} {v : List Int} (h : VecS np v) : VecOk np v := ⟨h.1, fun x hx => by have := h.2 x hx; omega⟩
set_option maxRecDepth 100000 in
set_option maxHeartbeats 4000000 in
theorem con_After (m : MD) (c v : List Int) (n : Nat) (h : GoodM m) (hst : m.rules.all stillB = true) (hc : RulesOk m.rules c) (hl : c.length ≤ 64) (hv : VecS m.places.length v) (he : fcheckE m.rules c = 0) (hn : n ≤ 100) :
    Con Tryz.prog 20 [vM m, vs 0 c, vs 0 v, vi n] [] fun r _ => r = .tup (if doesB (needL m.places.length m.rules c) (chgL m.places.length m.rules c) v m.places.length n then [vs 2 (afterL m.places.length (chgL m.places.length m.rules c) v n), vi 0] else [.nil, vi 18]) := by
  refine Con.intro Tryz.func20 rfl Tryz.ntmps20 Tryz.results20 (by kernel_rfl) (by simp) 0 (by simp) ?_
  have h2 := h.places
  have hof := con_of1 m c [v] h hst hc hl (fun x hx => by rw [List.mem_singleton] at hx; subst hx; exact hv.ok) (by simp)
  rw [he, if_pos rfl, List.map_cons, List.map_nil] at hof
  have hlo := loop_ok h hc hl
  have hdo := con_ldoes _ _ _ v n hlo hv.ok h2.2 (by omega)
  have hex := fun h1 => con_exceeds m c v n h hc hl hv ⟨h1, hn⟩
  have hcl := con_clone v (by rw [hv.1]; exact h2.1) (by rw [hv.1]; omega)
  obtain ⟨np, hnp⟩ : ∃ np, np = m.places.length := ⟨_, rfl⟩
  rw [← hnp] at hv hof h2 hlo hdo hex ⊢
  have hel := chgL_len np m.rules c
  unfold loopA at hof hex
  generalize chgL np m.rules c = ef at *
  generalize needL np m.rules c = nd at *
  have hn0 : ¬ (n : Int) < 0 := by omega
  simp only [go_sem, vM, cM, vss]
  refine CallU.freeze hof (by simp only [go_sem]) (by simp only [go_sem, vM, cM, vss]) ?_
  rintro x bx rfl
  simp only [go_sem, hn0]
  refine CallU.free hdo (by simp only [go_sem]) (by simp only [go_sem]) ?_
  rintro x bx rfl
  cases hB : doesB nd ef v np n
  · simp only [go_sem, Bool.false_eq_true, if_false]
  simp only [go_sem, if_true]
  by_cases hz : n = 0
  · subst hz
    have ea : afterL np ef v 0 = v := by
      refine List.ext_getElem (by rw [afterL_len, hv.1]) fun i h1 h2 => ?_
      have := afterL_at (np := np) (eff := ef) (v := v) (k := 0) (p := i) (by rw [← hv.1]; exact h2)
      rw [getElem!_pos _ i h1, getElem!_pos v i h2] at this
      omega
    simp only [go_sem]
    refine CallU.free hcl (by simp only [go_sem]) (by simp only [go_sem]) ?_
    rintro x bx rfl
    simp only [go_sem]
    show AV.tup [vs 2 v, vi 0] = AV.tup [vs 2 (afterL np ef v 0), vi 0]
    rw [ea]
  have hz' : ((n : Int) == 0) = false := beq_eq_false_iff_ne.2 (by omega)
  simp only [go_sem, hz']
  refine CallU.free (hex (by omega)) (by simp only [go_sem]) (by simp only [go_sem, vM, cM, vss]) ?_
  rintro x bx rfl
  simp only [go_sem]
  refine CallU.free hcl (by simp only [go_sem]) (by simp only [go_sem]) ?_
  rintro x bx rfl
  simp only [go_sem]
  obtain ⟨f, ef1⟩ : ∃ f : Nat → Int, f = fun p : Nat => v[p]! + n * ef[p]! := ⟨_, rfl⟩
  obtain ⟨g, eg⟩ : ∃ g : Nat → Int, g = (fun p : Nat => v[p]!) := ⟨_, rfl⟩
  have e0 : mixL np 0 f g = v := by
    have := range_bang v
    rw [mixL_zero, eg]; rw [hv.1] at this; exact this
  have e1 : mixL np np f g = afterL np ef v n := by rw [mixL_full, ef1]; rfl
  refine LoopK.intro (fun i : Nat => ⟨69, [(3, vi n), (10, .pb 1 0), (12, vs 3074 (mixL np i f g)), (49, vs 0 ef), (50, vi ef.length), (51, vi i)], [cM m, [vs 0 nd, vs 0 ef]]⟩)
    (fun i => np - i) (fun i => i ≤ np) 0 (by omega) ?_ ?_
  · simp only [go_sem, cM, vss, e0]
  rintro i hi
  have ml := mixL_len np i f g
  by_cases hil : i < np
  case neg =>
    obtain rfl : i = np := by omega
    have hn1 : ¬ i < ef.length := by omega
    simp only [go_sem, cM, vss, hn1, e1]
  have hil1 : i < v.length := by rw [hv.1]; exact hil
  have hil2 : i < ef.length := by omega
  have g2 := getv hil2
  have g1 := getv (l := mixL np i f g) (i := i) (by omega)
  rw [mixL_at hil, if_neg (by omega)] at g1
  have b1 := hv.2 _ (mem_bangI hil1)
  have b2 := hlo.eff.2 _ (mem_bangI hil2)
  have hw : IntKind.i64.wrap (i + 1) = i + 1 := wrap_in (by omega) (by omega)
  have hgi : g i = v[i]! := by rw [eg]
  have hfi : f i = g i + n * ef[i]! := by rw [ef1, hgi]
  have hs1 := mixL_set (np := np) (i := i) (f := f) (g := g)
  by_cases hd : ef[i]! = 0
  · have hd' : (ef[i]! != 0) = false := by rw [hd]; rfl
    have e2 : mixL np (i + 1) f g = mixL np i f g := by
      rw [← hs1, hfi, hd, Int.mul_zero, Int.add_zero]
      refine List.ext_getElem? fun j => ?_
      rw [List.getElem?_set]
      split
      · rename_i hij
        subst hij
        rw [if_pos (by omega)]
        have := mixL_at (np := np) (i := i) (p := i) (f := f) (g := g) hil
        rw [if_neg (by omega), getElem!_pos _ i (by omega)] at this
        rw [List.getElem?_eq_getElem (by omega), this]
      · rfl
    simp only [go_sem, cM, vss, hil2, g2, hd', hw]
    refine roundK.intro (i + 1) (by show i + 1 ≤ np; omega) (by show np - (i + 1) < np - i; omega) ?_
    simp only [go_sem, e2]
  · have hd' : (ef[i]! != 0) = true := bne_iff_ne.2 hd
    have hm1 : -110000 ≤ (n : Int) * ef[i]! ∧ (n : Int) * ef[i]! ≤ 110000 := by
      have := mul_bnd (a := (n : Int)) (b := ef[i]!) (A := 100) (B := 1100) (by omega) (by omega) (by omega) (by omega)
      omega
    have w1 : IntKind.i64.wrap ((n : Int) * ef[i]!) = n * ef[i]! := wrap_in (by omega) (by omega)
    have w2 : IntKind.i64.wrap (g i + (n : Int) * ef[i]!) = f i := by rw [hfi, wrap_in (by omega) (by omega)]
    simp only [go_sem, cM, vss, hil2, g2, hd', hw, g1, ml, hil, w1, w2]
    simp only [modify_vi, hs1]
    refine roundK.intro (i + 1) (by show i + 1 ≤ np; omega) (by show np - (i + 1) < np - i; omega) ?_
    simp only [go_sem]
end Go.AM

/-! ## FF -/
namespace Go.AM
open Go Go.Proofs Go.RowKit

/-- how often, by the first place that changes -/
def firstN (ef v w : List Int) : Nat → Int
  | 0 => 0
  | i + 1 => if ef[i]! ≠ 0 ∧ firstN ef v w i = 0 then (w[i]! - v[i]!).tdiv ef[i]! else firstN ef v w i
def fitsB (np : Nat) (ef v w : List Int) (n : Int) : Bool := (List.range np).all fun i => v[i]! + n * ef[i]! == w[i]!
theorem fits_bad {np : Nat} {ef v w : List Int} {n : Int} {i : Nat} (h : i < np) (hb : v[i]! + n * ef[i]! ≠ w[i]!) : fitsB np ef v w n = false := by
  unfold fitsB
  rw [List.all_eq_false]
  exact ⟨i, List.mem_range.2 h, by simpa using hb⟩
theorem fits_good {np : Nat} {ef v w : List Int} {n : Int} (h : ∀ i, i < np → v[i]! + n * ef[i]! = w[i]!) : fitsB np ef v w n = true := by
  unfold fitsB
  rw [List.all_eq_true]
  intro i hi
  exact beq_iff_eq.2 (h i (List.mem_range.1 hi))
theorem firstN_bnd {ef v w : List Int} {B : Int} (hB : 0 ≤ B) (h : ∀ i : Nat, -B ≤ w[i]! - v[i]! ∧ w[i]! - v[i]! ≤ B) : ∀ n, -B ≤ firstN ef v w n ∧ firstN ef v w n ≤ B
  | 0 => by simp [firstN]; omega
  | i + 1 => by
    unfold firstN
    split
    · have hh := h i
      have h1 : ((w[i]! - v[i]!).tdiv ef[i]!).natAbs ≤ (w[i]! - v[i]!).natAbs := by
        rw [Int.natAbs_tdiv]; exact Nat.div_le_self _ _
      omega
    · exact firstN_bnd hB h i
/-- the answer of Reaches -/
def reachF (np : Nat) (nd ef v w : List Int) : Int × Bool :=
  if v = w then (0, true) else if fitsB np ef v w (firstN ef v w np) && decide (1 ≤ firstN ef v w np) && doesB nd ef v np (firstN ef v w np) then (firstN ef v w np, true) else (0, false)
set_option maxRecDepth 100000 in
set_option maxHeartbeats 4000000 in
theorem con_Reaches (m : MD) (c v w : List Int) (h : GoodM m) (hst : m.rules.all stillB = true) (hc : RulesOk m.rules c) (hl : c.length ≤ 64) (hv : VecOk m.places.length v) (hw : VecOk m.places.length w) (he : fcheckE m.rules c = 0) :
    Con Tryz.prog 25 [vM m, vs 0 c, vs 0 v, vs 0 w] [] fun r _ => r = .tup [vi (reachF m.places.length (needL m.places.length m.rules c) (chgL m.places.length m.rules c) v w).1, vb (reachF m.places.length (needL m.places.length m.rules c) (chgL m.places.length m.rules c) v w).2, vi 0] := by
  refine Con.intro Tryz.func25 rfl Tryz.ntmps25 Tryz.results25 (by kernel_rfl) (by simp) 0 (by simp) ?_
  have h2 := h.places
  have hof := con_of1 m c [v, w] h hst hc hl (fun x hx => by simp only [List.mem_cons, List.not_mem_nil, or_false] at hx; rcases hx with rfl | rfl <;> assumption) (by simp)
  rw [he, if_pos rfl, List.map_cons, List.map_cons, List.map_nil] at hof
  have hlo := loop_ok h hc hl
  have heq := con_equalInt v w (by rw [hv.1]; omega)
  obtain ⟨np, hnp⟩ : ∃ np, np = m.places.length := ⟨_, rfl⟩
  rw [← hnp] at hv hw hof h2 hlo ⊢
  have hdo := fun n (hn : 0 ≤ n) => con_ldoes _ _ _ v n hlo hv h2.2 hn
  have hel := chgL_len np m.rules c
  unfold loopA at hof
  generalize chgL np m.rules c = ef at *
  generalize needL np m.rules c = nd at *
  have hvl := hv.1
  have hwl := hw.1
  simp only [go_sem, vM, cM, vss]
  refine CallU.freeze hof (by simp only [go_sem]) (by simp only [go_sem, vM, cM, vss]) ?_
  rintro x bx rfl
  simp only [go_sem]
  refine CallU.free heq (by simp only [go_sem]) (by simp only [go_sem]) ?_
  rintro x bx rfl
  by_cases hvw : v = w
  · have hvw' : (v == w) = true := by rw [hvw]; simp
    simp only [go_sem, hvw']
    have e : reachF np nd ef v w = (0, true) := by unfold reachF; rw [if_pos hvw]
    rw [e]
  have hvw' : (v == w) = false := beq_eq_false_iff_ne.2 hvw
  have e : reachF np nd ef v w = if fitsB np ef v w (firstN ef v w np) && decide (1 ≤ firstN ef v w np) && doesB nd ef v np (firstN ef v w np) then (firstN ef v w np, true) else (0, false) := by unfold reachF; rw [if_neg hvw]
  have hdif : ∀ i : Nat, -1048576 ≤ w[i]! - v[i]! ∧ w[i]! - v[i]! ≤ 1048576 := fun i => by
    by_cases hi : i < np
    · have b1 := hv.2 _ (mem_bangI (show i < v.length by omega))
      have b2 := hw.2 _ (mem_bangI (show i < w.length by omega))
      omega
    · rw [getElem!_neg v i (by omega), getElem!_neg w i (by omega)]
      show -1048576 ≤ (0 : Int) - 0 ∧ (0 : Int) - 0 ≤ 1048576
      omega
  have hfb := firstN_bnd (ef := ef) (by omega) hdif
  rw [e]
  simp only [go_sem, hvw']
  refine LoopK.intro (fun i : Nat => ⟨91, [(2, vs 0 v), (3, vs 0 w), (11, .pb 1 0), (13, vi (firstN ef v w i)), (34, vs 0 ef), (35, vi ef.length), (36, vi i)], [cM m, [vs 0 nd, vs 0 ef]]⟩)
    (fun i => np - i) (fun i => i ≤ np) 0 (by omega) ?_ ?_
  · simp only [go_sem, cM, vss, firstN]
  rintro i hi
  by_cases hil : i < np
  · have hil1 : i < v.length := by omega
    have hil2 : i < ef.length := by omega
    have hil3 : i < w.length := by omega
    have g1 := getv hil1
    have g2 := getv hil2
    have g3 := getv hil3
    have hw1 : IntKind.i64.wrap (i + 1) = i + 1 := wrap_in (by omega) (by omega)
    by_cases hd : ef[i]! = 0
    · have hd' : (ef[i]! != 0) = false := by rw [hd]; rfl
      have e2 : firstN ef v w (i + 1) = firstN ef v w i := by rw [firstN, if_neg (fun hh => hh.1 hd)]
      simp only [go_sem, cM, vss, hil2, g2, hd', hw1]
      refine roundK.intro (i + 1) (by show i + 1 ≤ np; omega) (by show np - (i + 1) < np - i; omega) ?_
      simp only [go_sem, e2]
    · have hd' : (ef[i]! != 0) = true := bne_iff_ne.2 hd
      by_cases hz : firstN ef v w i = 0
      · have hz' : (firstN ef v w i == 0) = true := by rw [hz]; rfl
        have e2 : firstN ef v w (i + 1) = (w[i]! - v[i]!).tdiv ef[i]! := by rw [firstN, if_pos ⟨hd, hz⟩]
        have hb := hfb (i + 1)
        rw [e2] at hb
        have b := hdif i
        have w1 : IntKind.i64.wrap (w[i]! - v[i]!) = w[i]! - v[i]! := wrap_in (by omega) (by omega)
        have w2 : IntKind.i64.wrap ((w[i]! - v[i]!).tdiv ef[i]!) = (w[i]! - v[i]!).tdiv ef[i]! := wrap_in (by omega) (by omega)
        have hd0 : (ef[i]! = 0) = False := eq_false hd
        simp only [go_sem, cM, vss, hil2, g2, hd', hz']
        refine DrawK.walk 12 mixed (by kernel_rfl) ?_
        simp only [go_sem, hil1, hil3, g1, g3, w1, w2, hw1, hd0]
        refine roundK.intro (i + 1) (by show i + 1 ≤ np; omega) (by show np - (i + 1) < np - i; omega) ?_
        simp only [go_sem, e2]
      · have hz' : (firstN ef v w i == 0) = false := beq_eq_false_iff_ne.2 hz
        have e2 : firstN ef v w (i + 1) = firstN ef v w i := by rw [firstN, if_neg (fun hh => hz hh.2)]
        simp only [go_sem, cM, vss, hil2, g2, hd', hz', hw1]
        refine roundK.intro (i + 1) (by show i + 1 ≤ np; omega) (by show np - (i + 1) < np - i; omega) ?_
        simp only [go_sem, e2]
  obtain rfl : i = np := by omega
  have hn1 : ¬ i < ef.length := by omega
  have hN := hfb i
  generalize firstN ef v w i = N at hN e
  simp only [go_sem, cM, vss, hn1]
  refine LoopK.intro (fun j : Nat => ⟨91, [(2, vs 0 v), (3, vs 0 w), (11, .pb 1 0), (13, vi N), (60, vs 0 ef), (61, vi ef.length), (62, vi j)], [cM m, [vs 0 nd, vs 0 ef]]⟩)
    (fun j => i - j) (fun j => j ≤ i ∧ ∀ q, q < j → v[q]! + N * ef[q]! = w[q]!) 0 ⟨by omega, fun q hq => by omega⟩ ?_ ?_
  · simp only [go_sem, cM, vss]
  rintro j ⟨hj, hjb⟩
  by_cases hjl : j < i
  · have hil1 : j < v.length := by omega
    have hil2 : j < ef.length := by omega
    have hil3 : j < w.length := by omega
    have g1 := getv hil1
    have g2 := getv hil2
    have g3 := getv hil3
    have b1 := hv.2 _ (mem_bangI hil1)
    have b2 := hlo.eff.2 _ (mem_bangI hil2)
    have hw1 : IntKind.i64.wrap (j + 1) = j + 1 := wrap_in (by omega) (by omega)
    have hm : -1153433600 ≤ N * ef[j]! ∧ N * ef[j]! ≤ 1153433600 := by
      rcases Int.le_total 0 N with h0 | h0
      · have := mul_bnd (a := N) (b := ef[j]!) (A := 1048576) (B := 1100) h0 hN.2 b2.1 b2.2; omega
      · have := mul_bnd (a := -N) (b := ef[j]!) (A := 1048576) (B := 1100) (by omega) (by omega) b2.1 b2.2
        rw [Int.neg_mul] at this; omega
    have w1 : IntKind.i64.wrap (N * ef[j]!) = N * ef[j]! := wrap_in (by omega) (by omega)
    have w2 : IntKind.i64.wrap (v[j]! + N * ef[j]!) = v[j]! + N * ef[j]! := wrap_in (by omega) (by omega)
    simp only [go_sem, cM, vss, hil2, g2]
    refine DrawK.walk 13 mixed (by kernel_rfl) ?_
    by_cases hq : v[j]! + N * ef[j]! = w[j]!
    · have hq' : (v[j]! + N * ef[j]! != w[j]!) = false := by rw [hq]; simp
      simp only [go_sem, hil1, hil3, g1, g3, w1, w2, hw1, hq']
      refine roundK.intro (j + 1) ⟨by omega, fun q hq1 => ?_⟩ (by show i - (j + 1) < i - j; omega) ?_
      · by_cases hqj : q = j
        · subst hqj; exact hq
        · exact hjb q (by omega)
      · simp only [go_sem]
    · have hq' : (v[j]! + N * ef[j]! != w[j]!) = true := bne_iff_ne.2 hq
      have e3 : fitsB i ef v w N = false := fits_bad hjl hq
      simp only [go_sem, hil1, hil3, g1, g3, w1, w2, hq', e3, Bool.false_and, Bool.false_eq_true, if_false]
  · have e3 : fitsB i ef v w N = true := fits_good fun q hq => hjb q (by omega)
    have hn2 : ¬ j < ef.length := by omega
    rw [e3]
    by_cases h1 : N < 1
    · have h1' : decide (1 ≤ N) = false := decide_eq_false (by omega)
      simp only [go_sem, cM, vss, hn2, h1, h1', Bool.and_false, Bool.false_and, Bool.false_eq_true, if_false]
    · have h1' : decide (1 ≤ N) = true := decide_eq_true (by omega)
      simp only [go_sem, cM, vss, hn2, h1]
      refine CallU.free (hdo N (by omega)) (by simp only [go_sem]) (by simp only [go_sem]) ?_
      rintro x bx rfl
      cases hB : doesB nd ef v i N
      · simp only [go_sem, h1', Bool.and_false, Bool.false_eq_true, if_false, Bool.true_and]
      · simp only [go_sem, h1', Bool.and_true, if_true]
end Go.AM

/-! ## CrA -/
namespace Go.AM
open Go Go.Proofs Go.RowKit

set_option maxRecDepth 100000 in
theorem con_rbetween (x lo hi : Int) : Con Tryz.prog 85 [vi x, vi lo, vi hi] [] fun r _ => r = vb (betweenB x lo hi) := by
  refine Con.intro Tryz.func85 rfl Tryz.ntmps85 Tryz.results85 (by kernel_rfl) (by simp) 0 (by simp) ?_
  unfold betweenB
  by_cases h1 : lo ≤ x
  · by_cases h2 : x ≤ hi
    · simp only [go_sem, h1, h2, decide_true, Bool.and_true]
    · simp only [go_sem, h1, h2, decide_true, decide_false, Bool.and_false]
  · simp only [go_sem, h1, decide_false, Bool.false_and]
theorem between_true {x lo hi : Int} (h1 : lo ≤ x) (h2 : x ≤ hi) : betweenB x lo hi = true := by
  unfold betweenB; rw [decide_eq_true h1, decide_eq_true h2]; rfl
set_option maxRecDepth 100000 in
theorem con_rnumbers (m : MD) (h : GoodM m) : Con Tryz.prog 86 [vM m] [] fun r _ => r = vb true := by
  refine Con.intro Tryz.func86 rfl Tryz.ntmps86 Tryz.results86 (by kernel_rfl) (by simp) 0 (by simp) ?_
  have h1 := h.states; have h2 := h.places; have h3 := h.few
  have b1 := con_rbetween m.states.length 1 8
  have b2 := con_rbetween m.places.length 1 6
  have b3 := con_rbetween 0 0 0
  rw [between_true (by omega) (by omega)] at b1 b2
  rw [between_true (by omega) (by omega)] at b3
  have h4 : ¬ ((12 : Int) < m.rules.length) := by omega
  unfold vM cM
  rw [h.kind, h.letters, h.levels, h.age]
  simp only [go_sem, vss, List.length_map]
  refine CallU.free b1 (by simp only [go_sem]) (by simp only [go_sem]) ?_
  rintro r bx rfl
  simp only [go_sem, List.length_map]
  refine CallU.free b2 (by simp only [go_sem]) (by simp only [go_sem]) ?_
  rintro r bx rfl
  simp only [go_sem, List.length_map, h4, List.length_nil]
  refine CallU.free b3 (by simp only [go_sem]) (by simp only [go_sem]) ?_
  rintro r bx rfl
  simp only [go_sem]
  refine CallU.free b3 (by simp only [go_sem]) (by simp only [go_sem]) ?_
  rintro r bx rfl
  simp only [go_sem]
set_option maxRecDepth 100000 in
theorem con_rranks (m : MD) (h : GoodM m) : Con Tryz.prog 87 [vM m] [] fun r _ => r = vb true := by
  refine Con.intro Tryz.func87 rfl Tryz.ntmps87 Tryz.results87 (by kernel_rfl) (by simp) 0 (by simp) ?_
  unfold vM cM
  rw [h.kind, h.ranks]
  simp only [go_sem, List.map_nil, List.length_nil]
set_option maxRecDepth 100000 in
theorem con_rletter (c : UInt8) : Con Tryz.prog 191 [u8v c] [] fun r _ => r = vb (partB c) := by
  refine Con.intro Tryz.func191 rfl Tryz.ntmps191 Tryz.results191 (by kernel_rfl) (by simp) 0 (by simp) ?_
  unfold partB
  rw [u8_eq (k := 95) (c := c) (n := 95) rfl, letterB_eq, digitB_eq]
  by_cases h1 : (97 : Int) ≤ (c.toNat : Int) <;> by_cases h2 : (c.toNat : Int) ≤ 122 <;> by_cases h3 : (48 : Int) ≤ (c.toNat : Int) <;> by_cases h4 : (c.toNat : Int) ≤ 57 <;>
    (simp only [go_sem, h1, h2, h3, h4, decide_true, decide_false, Bool.and_true, Bool.and_false, Bool.true_or, Bool.or_true, Bool.false_or, Bool.or_false]; all_goals simp)
set_option maxRecDepth 100000 in
theorem con_rword (s : ByteArray) (hw : wordB s = true) : Con Tryz.prog 145 [vStr s] [] fun r _ => r = vb true := by
  refine Con.intro Tryz.func145 rfl Tryz.ntmps145 Tryz.results145 (by kernel_rfl) (by simp) 0 (by simp) ?_
  unfold wordB at hw
  rw [ByteArray.toList_eq] at hw
  simp only [Bool.and_eq_true, decide_eq_true_eq, List.all_eq_true] at hw
  obtain ⟨⟨⟨h1, h2⟩, h3⟩, h4⟩ := hw
  have hp : ∀ j, j < s.size → partB s.data.toList[j]! = true := fun j hj => h4 _ (by
    have h5 : j < s.data.toList.length := by rw [ba_len]; exact hj
    rw [getElem!_pos _ j h5]; exact List.getElem_mem h5)
  have e0 : s.get! 0 = s.data.toList[0]! := by
    have h5 : 0 < s.data.toList.length := by rw [ba_len]; exact h1
    rw [getElem!_pos s.data.toList 0 h5, Array.getElem_toList]
    show s.data[0]! = _
    rw [getElem!_pos s.data 0 h1]
  rw [e0, letterB_eq, Bool.and_eq_true, decide_eq_true_eq, decide_eq_true_eq] at h3
  simp only [go_sem]
  refine LoopK.intro (fun i : Nat => ⟨33, [(0, vStr s), (3, vi i)], []⟩) (fun i => s.size - i) (fun i => i ≤ s.size) 0 (by omega) ?_ ?_
  · simp only [go_sem]
  rintro i hi
  by_cases h : i < s.size
  · have hg := ba_get h
    have hw : IntKind.i64.wrap (i + 1) = i + 1 := wrap_in (by omega) (by omega)
    have hl := con_rletter s.data.toList[i]!
    rw [hp i h] at hl
    simp only [go_sem, h, hg]
    refine CallU.free hl (by simp only [go_sem]) (by simp only [go_sem]) ?_
    rintro r bx rfl
    simp only [go_sem, hw]
    refine roundK.intro (i + 1) (by omega) (by omega) ?_
    simp only [go_sem]
  · have hg := ba_get h1
    have g1 : (1 : Int) ≤ (s.size : Int) := by omega
    have g2 : (s.size : Int) ≤ 12 := by omega
    simp only [go_sem, h, hg, g1, g2, h3.1, h3.2]
theorem ba_eq {a b : ByteArray} : (a.toList == b.toList) = (a.data.toList == b.data.toList) := by rw [ByteArray.toList_eq, ByteArray.toList_eq]
end Go.AM

/-! ## CrB -/
namespace Go.AM
open Go Go.Proofs Go.RowKit

theorem keyword_no {s : ByteArray} (h : keywordB s = false) {i : Nat} (hi : i < kwL.length) : (kwL[i]!.toList == s.toList) = false := by
  unfold keywordB at h
  rw [List.any_eq_false] at h
  have := h kwL[i]! (mem_bangI hi)
  rw [Bool.not_eq_true] at this
  rw [beq_eq_false_iff_ne] at this ⊢
  exact fun e => this e.symm
theorem kwL_len : kwL.length = 18 := rfl
set_option maxRecDepth 100000 in
theorem con_rkeyword (s : ByteArray) (hk : keywordB s = false) : Con Tryz.prog 146 [vStr s] [] fun r _ => r = vb false := by
  refine Con.intro Tryz.func146 rfl Tryz.ntmps146 Tryz.results146 (by kernel_rfl) (by simp) 0 (by simp) ?_
  simp only [go_sem]
  refine LoopK.intro (fun i : Nat => ⟨18, [(0, vStr s), (3, .sl 384 1 (kwL.map vStr)), (4, vi i)], []⟩) (fun i => 18 - i) (fun i => i ≤ 18) 0 (by omega) ?_ ?_
  · simp only [go_sem, kwL, List.map_cons, List.map_nil]
  rintro i hi
  by_cases h : i < 18
  · have hl : i < kwL.length := by rw [kwL_len]; exact h
    have hg := getStr hl
    have hw : IntKind.i64.wrap (i + 1) = i + 1 := wrap_in (by omega) (by omega)
    have hn := keyword_no hk hl
    simp only [go_sem, kwL_len, h, hg, hn, hw]
    refine roundK.intro (i + 1) (by omega) (by omega) ?_
    simp only [go_sem]
  · simp only [go_sem, kwL_len, h]
set_option maxRecDepth 100000 in
theorem con_rlist (l : List Int) (n : Nat) (lo hi : Int) (hn : l.length = n) (h6 : n ≤ 1000000) (hb : ∀ x ∈ l, betweenB x lo hi = true) : Con Tryz.prog 147 [vs 0 l, vi n, vi lo, vi hi] [] fun r _ => r = vb true := by
  refine Con.intro Tryz.func147 rfl Tryz.ntmps147 Tryz.results147 (by kernel_rfl) (by simp) 0 (by simp) ?_
  simp only [go_sem]
  refine LoopK.intro (fun i : Nat => ⟨28, [(0, vs 0 l), (1, vi n), (2, vi lo), (3, vi hi), (9, vi i)], []⟩) (fun i => l.length - i) (fun i => i ≤ l.length) 0 (by omega) ?_ ?_
  · simp only [go_sem]
  rintro i hi2
  by_cases h : i < l.length
  · have hg := getv h
    have hw : IntKind.i64.wrap (i + 1) = i + 1 := wrap_in (by omega) (by omega)
    have hc := con_rbetween l[i]! lo hi
    rw [hb _ (mem_bangI h)] at hc
    simp only [go_sem, h, hg]
    refine CallU.free hc (by simp only [go_sem]) (by simp only [go_sem]) ?_
    rintro r bx rfl
    simp only [go_sem, hw]
    refine roundK.intro (i + 1) (by omega) (by omega) ?_
    simp only [go_sem]
  · subst hn
    simp only [go_sem, h]
def namesTree : Tr := .front 0 (.front 3 (.front 6 (.alt (.one 1 (.alt (.one 2 (.alt (.one 4 (.alt (.one 5 (.one 7 (.one 8 (.one 9 .done)))) (.one 7 (.one 5 (.one 8 (.one 9 .done)))))) (.one 7 (.one 4 (.one 5 (.one 8 (.one 9 .done))))))) (.alt (.one 4 (.alt (.one 2 (.alt (.one 5 (.one 7 (.one 8 (.one 9 .done)))) (.one 7 (.one 5 (.one 8 (.one 9 .done)))))) (.one 7 (.one 2 (.one 5 (.one 8 (.one 9 .done))))))) (.one 7 (.alt (.one 2 (.one 4 (.one 5 (.one 8 (.one 9 .done))))) (.one 4 (.one 2 (.one 5 (.one 8 (.one 9 .done)))))))))) (.alt (.one 4 (.alt (.one 1 (.alt (.one 2 (.alt (.one 5 (.one 7 (.one 8 (.one 9 .done)))) (.one 7 (.one 5 (.one 8 (.one 9 .done)))))) (.one 7 (.one 2 (.one 5 (.one 8 (.one 9 .done))))))) (.one 7 (.one 1 (.one 2 (.one 5 (.one 8 (.one 9 .done)))))))) (.one 7 (.alt (.one 1 (.alt (.one 2 (.one 4 (.one 5 (.one 8 (.one 9 .done))))) (.one 4 (.one 2 (.one 5 (.one 8 (.one 9 .done))))))) (.one 4 (.one 1 (.one 2 (.one 5 (.one 8 (.one 9 .done))))))))))))
theorem names_at {l : List ByteArray} (h : namesB l = true) {i : Nat} (hi : i < l.length) : wordB l[i]! = true ∧ keywordB l[i]! = false ∧ ∀ k, k < i → (l[k]!.toList == l[i]!.toList) = false := by
  unfold namesB at h
  have h1 := List.all_eq_true.1 h i (List.mem_range.2 hi)
  unfold okN at h1
  simp only [Bool.and_eq_true, Bool.not_eq_true'] at h1
  refine ⟨h1.1.1, h1.1.2, fun k hk => ?_⟩
  have h2 := h1.2
  rw [ba_eq, beq_eq_false_iff_ne]
  intro e
  have h3 : l[i]!.data.toList ∈ (l.take i).map fun s => s.data.toList := by
    refine List.mem_map.2 ⟨l[k]!, ?_, e⟩
    rw [getElem!_pos l k (by omega)]
    exact List.mem_of_getElem? (i := k) (by rw [List.getElem?_take, if_pos hk]; simp)
  rw [List.contains_iff_mem.2 h3] at h2
  cases h2
set_option maxRecDepth 100000 in
set_option maxHeartbeats 4000000 in
theorem con_rnames (m : MD) (h : GoodM m) : Con Tryz.prog 88 [vM m] [] fun r _ => r = vb true := by
  refine Con.intro Tryz.func88 rfl Tryz.ntmps88 Tryz.results88 (by kernel_rfl) (by simp) 0 (by simp) ?_
  have h1 := h.states; have h2 := h.places; have h3 := h.few
  have r1 : roomFor m.states.length 16 := by simp only [roomFor]; omega
  have r2 : roomFor (m.states.length + m.places.length) 16 := by simp only [roomFor]; omega
  have e0 : namesTo m 0 = m.states ++ m.places := by rw [namesTo_zero, h.letters]; simp
  unfold vM cM
  simp only [go_sem, vss, h.letters, List.map_nil]
  refine DrawK.meet ⟨65, [(1, .pb 0 0), (2, vb false), (3, .sl 640 1 ((namesTo m 0).map vStr))], [[vi m.kind, .sl 0 1 (m.states.map vStr), .sl 0 1 (m.places.map vStr), .sl 0 1 [], vs 0 m.ranks, vi m.levels, vi m.age, .sl 0 14 (m.rules.map vRule), vi m.start.n, .sl 0 2 (m.start.kids.map vV)]]⟩ ?_ ?_
  · refine DrawK.tree namesTree mixed (by kernel_rfl) ?_
    unfold namesTree
    rw [e0, List.map_append]
    repeat' (first | with_reducible apply andK_mk | simp only [go_sem, List.length_map, List.length_append, List.append_nil, r1, r2])
  · simp only [go_sem]
    refine LoopK.intro (fun i : Nat => ⟨65, [(1, .pb 0 0), (2, vb false), (3, .sl 640 1 ((namesTo m i).map vStr)), (4, vi i)], [[vi m.kind, .sl 0 1 (m.states.map vStr), .sl 0 1 (m.places.map vStr), .sl 0 1 [], vs 0 m.ranks, vi m.levels, vi m.age, .sl 0 14 (m.rules.map vRule), vi m.start.n, .sl 0 2 (m.start.kids.map vV)]]⟩)
      (fun i => m.rules.length - i) (fun i => i ≤ m.rules.length) 0 (by omega) ?_ ?_
    · simp only [go_sem]
    rintro i hi
    have hn := namesTo_len (m := m) (i := i)
    have hL : (namesOf m).length ≤ 1000 := by unfold namesOf; simp only [List.length_append, List.length_map, h.letters, List.length_nil]; omega
    by_cases hlt : i < m.rules.length
    · have hg := getRule hlt
      have hw : IntKind.i64.wrap (i + 1) = i + 1 := wrap_in (by omega) (by omega)
      have e := namesTo_succ hlt
      have hr : roomFor ((namesTo m i).length + 1) 16 := by simp only [roomFor]; omega
      simp only [go_sem, hlt, hg, hw, hr]
      refine roundK.intro (i + 1) (by omega) (by omega) ?_
      simp only [go_sem, e, List.map_append, List.map_cons, List.map_nil]
    obtain rfl : i = m.rules.length := by omega
    rw [namesTo_all]
    simp only [go_sem, hlt]
    have hnm := h.names
    generalize namesOf m = l at *
    refine LoopK.intro (fun i : Nat => ⟨65, [(1, .pb 0 0), (2, vb false), (3, .sl 640 1 (l.map vStr)), (5, vi i)], [[vi m.kind, .sl 0 1 (m.states.map vStr), .sl 0 1 (m.places.map vStr), .sl 0 1 [], vs 0 m.ranks, vi m.levels, vi m.age, .sl 0 14 (m.rules.map vRule), vi m.start.n, .sl 0 2 (m.start.kids.map vV)]]⟩)
      (fun i => l.length - i) (fun i => i ≤ l.length) 0 (by omega) ?_ ?_
    · simp only [go_sem]
    rintro i hi
    by_cases hlt2 : i < l.length
    · obtain ⟨a1, a2, a3⟩ := names_at hnm hlt2
      have hg := getStr hlt2
      have hw : IntKind.i64.wrap (i + 1) = i + 1 := wrap_in (by omega) (by omega)
      simp only [go_sem, hlt2, hg]
      refine CallU.free (con_rword l[i]! a1) (by simp only [go_sem]) (by simp only [go_sem]) ?_
      rintro r bx rfl
      simp only [go_sem, hlt2, hg]
      refine CallU.free (con_rkeyword l[i]! a2) (by simp only [go_sem]) (by simp only [go_sem]) ?_
      rintro r bx rfl
      simp only [go_sem]
      refine LoopK.intro (fun k : Nat => ⟨65, [(1, .pb 0 0), (2, vb false), (3, .sl 640 1 (l.map vStr)), (5, vi i), (6, vi k)], [[vi m.kind, .sl 0 1 (m.states.map vStr), .sl 0 1 (m.places.map vStr), .sl 0 1 [], vs 0 m.ranks, vi m.levels, vi m.age, .sl 0 14 (m.rules.map vRule), vi m.start.n, .sl 0 2 (m.start.kids.map vV)]]⟩)
        (fun k => i - k) (fun k => k ≤ i) 0 (by omega) ?_ ?_
      · simp only [go_sem]
      rintro k hk
      by_cases hki : k < i
      · have hkl : k < l.length := by omega
        have hgk := getStr hkl
        have hwk : IntKind.i64.wrap (k + 1) = k + 1 := wrap_in (by omega) (by omega)
        have hne := a3 k hki
        simp only [go_sem, hki]
        refine DrawK.walk 9 mixed (by kernel_rfl) ?_
        simp only [go_sem, hlt2, hkl, hg, hgk, hne, hwk]
        refine roundK.intro (k + 1) (by omega) (by omega) ?_
        simp only [go_sem]
      · simp only [go_sem, hki, hw]
        refine roundK.intro (i + 1) (by omega) (by omega) ?_
        simp only [go_sem]
    · simp only [go_sem, hlt2]
end Go.AM

/-! ## CrC -/
namespace Go.AM
open Go Go.Proofs Go.RowKit

set_option maxRecDepth 100000 in
set_option maxHeartbeats 4000000 in
theorem con_rright (m : MD) (r : RD) (h : GoodM m) (hr : r ∈ m.rules) : Con Tryz.prog 89 [vM m, vRule r] [] fun x _ => x = vb true := by
  refine Con.intro Tryz.func89 rfl Tryz.ntmps89 Tryz.results89 (by kernel_rfl) (by simp) 0 (by simp) ?_
  have h1 := h.states; have h2 := h.places
  obtain ⟨hb1, hb2⟩ := h.rules r hr
  obtain ⟨nm, s, d, nd, gv, mv, rfl⟩ : ∃ nm s d nd gv mv, r = bareR nm s d nd gv mv := ⟨_, _, _, _, _, _, bare_of hb2⟩
  unfold ruleB changesB movesB indexB smallB at hb1
  simp only [Bool.and_eq_true, decide_eq_true_eq, List.all_eq_true, Bool.or_eq_true] at hb1
  obtain ⟨⟨⟨⟨d1, d2⟩, ⟨s1, s2⟩⟩, ⟨⟨⟨n1, g1⟩, n2⟩, g2⟩⟩, mv1⟩ := hb1
  have ws : IntKind.i64.wrap ((m.states.length : Int) - 1) = (m.states.length : Int) - 1 := wrap_in (by omega) (by omega)
  have wp : IntKind.i64.wrap ((m.places.length : Int) - 1) = (m.places.length : Int) - 1 := wrap_in (by omega) (by omega)
  have b1 := con_rbetween s 0 ((m.states.length : Int) - 1)
  have b2 := con_rbetween d 0 ((m.states.length : Int) - 1)
  rw [between_true (by omega) (by omega)] at b1 b2
  have l1 := con_rlist nd m.places.length 0 16 n1 (by omega) n2
  have l2 := con_rlist gv m.places.length 0 16 g1 (by omega) g2
  unfold vM cM
  rw [h.kind]
  simp only [go_sem, vss, List.length_map, ws]
  refine CallU.free b1 (by simp only [go_sem]) (by simp only [go_sem]) ?_
  rintro x bx rfl
  simp only [go_sem, List.length_map, ws]
  refine CallU.free b2 (by simp only [go_sem]) (by simp only [go_sem]) ?_
  rintro x bx rfl
  simp only [go_sem, List.length_map]
  refine CallU.free l1 (by simp only [go_sem]) (by simp only [go_sem]) ?_
  rintro x bx rfl
  simp only [go_sem, List.length_map]
  refine CallU.free l2 (by simp only [go_sem]) (by simp only [go_sem]) ?_
  rintro x bx rfl
  by_cases hm : (0 : Int) < mv.length
  · have hml : mv.length = m.places.length ∧ ∀ x ∈ mv, betweenB x (-1) ((m.places.length : Int) - 1) = true := by
      rcases mv1 with e | e
      · rw [beq_iff_eq] at e; omega
      · exact e
    have l3 := con_rlist mv m.places.length (-1) ((m.places.length : Int) - 1) hml.1 (by omega) hml.2
    simp only [go_sem, List.length_map, hm, wp]
    refine CallU.free l3 (by simp only [go_sem]) (by simp only [go_sem]) ?_
    rintro x bx rfl
    simp only [go_sem, List.length_nil]
  · simp only [go_sem, List.length_map, hm, List.length_nil]
end Go.AM

/-! ## CrD -/
namespace Go.AM
open Go Go.Proofs Go.RowKit

set_option maxRecDepth 100000 in
set_option maxHeartbeats 1000000 in
theorem con_rtypeOf (m : MD) (h : GoodM m) : Con Tryz.prog 91 [vM m] [] fun r _ => r = flatT 2 (partsP m.states.length m.places.length) := by
  refine Con.intro Tryz.func91 rfl Tryz.ntmps91 Tryz.results91 (by kernel_rfl) (by simp) 0 (by simp) ?_
  have h2 := h.places
  unfold vM cM
  rw [h.kind, h.letters]
  simp only [go_sem, vss, List.length_map, List.map_nil, List.length_nil]
  refine LoopK.intro (fun i : Nat => ⟨96, [(1, .pb 0 0), (2, .pb 1 0), (3, .pb 2 0), (4, .pb 3 0), (8, vi i)], [vi 1, .sl 0 1 (m.states.map vStr), .sl 0 1 (m.places.map vStr), .sl 0 1 [], vs 0 m.ranks, vi m.levels, vi m.age, .sl 0 14 (m.rules.map vRule), vi m.start.n, .sl 0 2 (m.start.kids.map vV)] :: [.any, .any, .any, .any] :: [vi 3, vi 0, .nil, .sl 960 4 ((partsP m.states.length i).map vPT)] :: [.any, .any, .any, .any] :: Rk 4 i⟩)
    (fun i => m.places.length - i) (fun i => i ≤ m.places.length) 0 (by omega) ?_ ?_
  · simp only [go_sem, partsP, List.replicate_zero, List.map_cons, List.map_nil]
    all_goals exact leB_self _
  rintro i hi
  by_cases hlt : i < m.places.length
  · have hw : IntKind.i64.wrap (i + 1) = i + 1 := wrap_in (by omega) (by omega)
    have hB := Rk_len 4 i
    have n0 := fun L : List (List AV) => app_at0 (L := L) hB
    have s0 := fun (L : List (List AV)) z => app_set0 (L := L) (z := z) hB
    have e := parts_succ m.states.length i
    simp only [go_sem, hlt, hw, hB, n0, s0, List.length_map]
    refine ⟨by simp only [roomFor, parts_len]; omega, ?_⟩
    refine roundK.intro (i + 1) (by omega) (by omega) ?_
    simp only [go_sem, Rk_succ, e, List.map_append, List.map_cons, List.map_nil]
    exact leB_RkA ⟨leC_any _ 4 rfl, trivial⟩
  · obtain rfl : i = m.places.length := by omega
    simp only [go_sem, hlt, List.length_map]

set_option maxRecDepth 100000 in
theorem con_rvalidLeaf (p : Int × Int) (d : Int) (hp : LeafP p) (hd : d ≠ 0) : Con Tryz.prog 192 [vPT p, vi d] [] fun r _ => r = vb true := by
  refine Con.intro Tryz.func192 rfl Tryz.ntmps192 Tryz.results192 (by kernel_rfl) (by simp) 0 (by simp) ?_
  have hd0 : (d == 0) = false := beq_eq_false_iff_ne.2 hd
  obtain ⟨k, s⟩ := p
  rcases hp with hp | ⟨rfl, h1, h2⟩
  · cases hp
    simp only [go_sem, hd0]
  · simp only [go_sem, hd0, h1, h2]
set_option maxRecDepth 100000 in
set_option maxHeartbeats 1000000 in
theorem con_rvalidFlat (ps : List (Int × Int)) (hl : 1 ≤ ps.length) (hl2 : ps.length ≤ 8) (hp : ∀ p ∈ ps, LeafP p) : Con Tryz.prog 192 [flatT 0 ps, vi 8] [] fun r _ => r = vb true := by
  refine Con.intro Tryz.func192 rfl Tryz.ntmps192 Tryz.results192 (by kernel_rfl) (by simp) 0 (by simp) ?_
  have a1 : ¬ ((ps.length : Int) < 1) := by omega
  have a2 : ¬ ((8 : Int) < (ps.length : Int)) := by omega
  simp only [go_sem, a1, a2]
  refine LoopK.intro (fun i : Nat => ⟨132, [(1, vi 8), (2, .pb 0 0), (5, vi i)], [[vi 3, vi 0, .nil, .sl 0 4 (ps.map vPT)]]⟩)
    (fun i => ps.length - i) (fun i => i ≤ ps.length) 0 (by omega) ?_ ?_
  · simp only [go_sem]
  rintro i hi
  by_cases h : i < ps.length
  · have hg := getPT h
    have hw : IntKind.i64.wrap (i + 1) = i + 1 := wrap_in (by omega) (by omega)
    simp only [go_sem, h, hg]
    refine CallU.free (con_rvalidLeaf ps[i]! 7 (hp _ (mem_bangI h)) (by omega)) (by simp only [go_sem]) (by simp only [go_sem]; rfl) ?_
    rintro r bx rfl
    simp only [go_sem, hw]
    refine roundK.intro (i + 1) (by omega) (by omega) ?_
    simp only [go_sem]
  · simp only [go_sem, h]
set_option maxRecDepth 100000 in
theorem con_rtcheck (ps : List (Int × Int)) (hl : 1 ≤ ps.length) (hl2 : ps.length ≤ 8) (hp : ∀ p ∈ ps, LeafP p) : Con Tryz.prog 151 [flatT 0 ps] [] fun r _ => r = vi 0 := by
  refine Con.intro Tryz.func151 rfl Tryz.ntmps151 Tryz.results151 (by kernel_rfl) (by simp) 0 (by simp) ?_
  simp only [go_sem]
  refine CallU.free (con_rvalidFlat ps hl hl2 hp) (by simp only [go_sem]) (by simp only [go_sem]) ?_
  rintro r bx rfl
  simp only [go_sem]
end Go.AM

/-! ## CrE -/
namespace Go.AM
open Go Go.Proofs Go.RowKit

set_option maxRecDepth 100000 in
theorem con_rsizeLeaf (v : CV) (most : Int) (hk : v.kids = []) : Con Tryz.prog 152 [vV v, vi most] [] fun r _ => r = vi 1 := by
  rw [vV_eq]
  refine Con.intro Tryz.func152 rfl Tryz.ntmps152 Tryz.results152 (by kernel_rfl) (by simp) 0 (by simp) ?_
  rw [hk]
  simp only [go_sem, List.map_nil]
  refine LoopK.intro (fun _ : Nat => ⟨31, [(1, vi most), (2, .pb 0 0), (5, vi 1), (6, vi 0)], [[vi v.n, .sl 0 2 []]]⟩) (fun i => i) (fun _ => True) 0 trivial ?_ ?_
  · simp only [go_sem]
  rintro i _
  simp only [go_sem, List.length_nil]
set_option maxRecDepth 100000 in
theorem con_rsize (v : CV) (hk : ∀ x ∈ v.kids, x.kids = []) (hl : v.kids.length ≤ 100) : Con Tryz.prog 152 [vV v, vi 128] [] fun r _ => r = vi (1 + v.kids.length) := by
  rw [vV_eq]
  refine Con.intro Tryz.func152 rfl Tryz.ntmps152 Tryz.results152 (by kernel_rfl) (by simp) 0 (by simp) ?_
  simp only [go_sem]
  refine LoopK.intro (fun i : Nat => ⟨31, [(1, vi 128), (2, .pb 0 0), (5, vi (1 + i)), (6, vi i)], [[vi v.n, .sl 0 2 (v.kids.map vV)]]⟩) (fun i => v.kids.length - i) (fun i => i ≤ v.kids.length) 0 (by omega) ?_ ?_
  · simp only [go_sem]
    all_goals exact leV_refl _
  rintro i hi
  by_cases h : i < v.kids.length
  · have hg := getvV h
    have hw : IntKind.i64.wrap (i + 1) = i + 1 := wrap_in (by omega) (by omega)
    have hw2 : IntKind.i64.wrap (1 + (i : Int) + 1) = 1 + (i + 1) := by rw [wrap_in (by omega) (by omega)]; omega
    have hw3 : IntKind.i64.wrap (128 - (1 + (i : Int))) = 128 - (1 + i) := wrap_in (by omega) (by omega)
    have h8 : 1 + (i : Int) ≤ 128 := by omega
    simp only [go_sem, h, h8, hg, hw3]
    refine CallU.free (con_rsizeLeaf v.kids[i]! (128 - (1 + i)) (hk _ (mem_bangI h))) (by simp only [go_sem]) (by simp only [go_sem, vV_eq]) ?_
    rintro r bx rfl
    simp only [go_sem, hw, hw2]
    refine roundK.intro (i + 1) (by omega) (by omega) ?_
    simp only [go_sem]
  · have e : i = v.kids.length := by omega
    subst e
    simp only [go_sem, h]
set_option maxRecDepth 100000 in
theorem con_rofLeaf (p : Int × Int) (v : CV) (hp : LeafP p) (h : leafOk p v = true) : Con Tryz.prog 153 [vPT p, vV v] [] fun r _ => r = vb true := by
  rw [vV_eq]
  refine Con.intro Tryz.func153 rfl Tryz.ntmps153 Tryz.results153 (by kernel_rfl) (by simp) 0 (by simp) ?_
  obtain ⟨k, s⟩ := p
  rcases hp with hp | ⟨rfl, h1, h2⟩
  · cases hp
    unfold leafOk at h
    rw [if_pos rfl] at h
    simp only [Bool.and_eq_true, decide_eq_true_eq, beq_iff_eq] at h
    obtain ⟨⟨g1, g2⟩, g3⟩ := h
    have e : v.kids = [] := List.eq_nil_of_length_eq_zero g3
    simp only [go_sem, g1, g2, e, List.map_nil, List.length_nil]
  · unfold leafOk at h
    rw [if_neg (show ¬ ((2 : Int) = 1) by decide)] at h
    simp only [Bool.and_eq_true, decide_eq_true_eq, beq_iff_eq] at h
    obtain ⟨⟨g1, g2⟩, g3⟩ := h
    have e : v.kids = [] := List.eq_nil_of_length_eq_zero g3
    simp only [go_sem, g1, g2, e, List.map_nil, List.length_nil]
set_option maxRecDepth 100000 in
set_option maxHeartbeats 1000000 in
theorem con_rofFlat (ps : List (Int × Int)) (v : CV) (hp : ∀ p ∈ ps, LeafP p) (hl : ps.length ≤ 1000000) (h : flatOk ps v = true) : Con Tryz.prog 153 [flatT 0 ps, vV v] [] fun r _ => r = vb true := by
  rw [vV_eq]
  refine Con.intro Tryz.func153 rfl Tryz.ntmps153 Tryz.results153 (by kernel_rfl) (by simp) 0 (by simp) ?_
  unfold flatOk at h
  simp only [Bool.and_eq_true, beq_iff_eq, decide_eq_true_eq, List.all_eq_true, List.mem_range] at h
  obtain ⟨⟨g1, g2⟩, g3⟩ := h
  have hn : ((v.kids.length : Int) != (ps.length : Int)) = false := by rw [g2]; simp
  simp only [go_sem, g1, hn]
  refine LoopK.intro (fun i : Nat => ⟨169, [(2, .pb 0 0), (3, .pb 1 0), (5, vi i)], [[vi 3, vi 0, .nil, .sl 0 4 (ps.map vPT)], [vi 0, .sl 0 2 (v.kids.map vV)]]⟩) (fun i => v.kids.length - i) (fun i => i ≤ v.kids.length) 0 (by omega) ?_ ?_
  · simp only [go_sem]
    all_goals exact leB_self _
  rintro i hi
  by_cases h : i < v.kids.length
  · have hip : i < ps.length := by omega
    have hg := getvV h
    have hg2 := getPT hip
    have hw : IntKind.i64.wrap (i + 1) = i + 1 := wrap_in (by omega) (by omega)
    simp only [go_sem, h]
    refine DrawK.walk 12 mixed (by kernel_rfl) ?_
    simp only [go_sem, h, hip, hg, hg2]
    refine CallY.mk (con_rofLeaf ps[i]! v.kids[i]! (hp _ (mem_bangI hip)) (g3 i hip)) (by simp only [go_sem, vV_eq]) (by simp only [go_sem]) (.inl (by simp only [go_sem])) ?_
    simp only [go_sem, hw]
    refine roundK.intro (i + 1) (by omega) (by omega) ?_
    simp only [go_sem]
  · simp only [go_sem, h]
set_option maxRecDepth 100000 in
theorem con_rvalid (ns np : Nat) (v : CV) (h1 : 1 ≤ ns) (h2 : ns ≤ 16) (h3 : np ≤ 7) (hc : confB ns np v = true) : Con Tryz.prog 90 [flatT 0 (partsP ns np), vV v] [] fun r _ => r = vb true := by
  have e0 := vV_eq v
  rw [e0]
  refine Con.intro Tryz.func90 rfl Tryz.ntmps90 Tryz.results90 (by kernel_rfl) (by simp) 0 (by simp) ?_
  obtain ⟨_, hlen⟩ := conf_ok (by omega) hc
  have hkids : ∀ x ∈ v.kids, x.kids = [] := by
    intro x hx
    have hf := hc
    rw [← conf_flat] at hf
    unfold flatOk at hf
    simp only [Bool.and_eq_true, beq_iff_eq, decide_eq_true_eq, List.all_eq_true, List.mem_range] at hf
    obtain ⟨i, hi, e⟩ := List.getElem_of_mem hx
    have h4 := hf.2 i (by omega)
    rw [getElem!_pos v.kids i hi, e] at h4
    unfold leafOk at h4
    split at h4
    · simp only [Bool.and_eq_true, beq_iff_eq] at h4; exact List.eq_nil_of_length_eq_zero h4.2
    · simp only [Bool.and_eq_true, beq_iff_eq] at h4; exact List.eq_nil_of_length_eq_zero h4.2
  simp only [go_sem]
  refine CallU.free (con_rtcheck (partsP ns np) (by rw [parts_len]; omega) (by rw [parts_len]; omega) (parts_leaf h1 h2)) (by simp only [go_sem]) (by simp only [go_sem]) ?_
  rintro r bx rfl
  simp only [go_sem]
  refine CallU.free (con_rsize v hkids (by omega)) (by simp only [go_sem]) (by simp only [go_sem, vV_eq]) ?_
  rintro r bx rfl
  have h8 : 1 + (v.kids.length : Int) ≤ 128 := by omega
  simp only [go_sem, h8]
  refine CallU.free (con_rofFlat (partsP ns np) v (parts_leaf h1 h2) (by rw [parts_len]; omega) (by rw [conf_flat]; exact hc)) (by simp only [go_sem]) (by simp only [go_sem, vV_eq]) ?_
  rintro r bx rfl
  simp only [go_sem]
set_option maxRecDepth 100000 in
set_option maxHeartbeats 1000000 in
theorem con_rmcheck (m : MD) (h : GoodM m) : Con Tryz.prog 30 [vM m] [] fun r _ => r = vi 0 := by
  refine Con.intro Tryz.func30 rfl Tryz.ntmps30 Tryz.results30 (by kernel_rfl) (by simp) 0 (by simp) ?_
  have h1 := h.states; have h2 := h.places; have h3 := h.few
  have hk := h.kind
  have b1 := con_rbetween 1 1 6
  rw [between_true (by omega) (by omega)] at b1
  simp only [go_sem, vM, cM, vss, hk]
  refine CallU.free b1 (by simp only [go_sem]) (by simp only [go_sem]) ?_
  rintro r bx rfl
  simp only [go_sem]
  refine CallU.free (con_rnumbers m h) (by simp only [go_sem]) (by simp only [go_sem, vM, cM, vss, hk]) ?_
  rintro r bx rfl
  simp only [go_sem]
  refine CallU.free (con_rranks m h) (by simp only [go_sem]) (by simp only [go_sem, vM, cM, vss, hk]) ?_
  rintro r bx rfl
  simp only [go_sem]
  refine CallU.free (con_rnames m h) (by simp only [go_sem]) (by simp only [go_sem, vM, cM, vss, hk]) ?_
  rintro r bx rfl
  simp only [go_sem]
  refine LoopK.intro (fun i : Nat => ⟨52, [(1, .pb 0 0), (2, vi 0), (3, vi i)], [[vi 1, .sl 0 1 (m.states.map vStr), .sl 0 1 (m.places.map vStr), .sl 0 1 (m.letters.map vStr), vs 0 m.ranks, vi m.levels, vi m.age, .sl 0 14 (m.rules.map vRule), vi m.start.n, .sl 0 2 (m.start.kids.map vV)]]⟩)
    (fun i => m.rules.length - i) (fun i => i ≤ m.rules.length) 0 (by omega) ?_ ?_
  · simp only [go_sem]
  rintro i hi
  by_cases hlt : i < m.rules.length
  · have hg := getRule hlt
    have hw : IntKind.i64.wrap (i + 1) = i + 1 := wrap_in (by omega) (by omega)
    simp only [go_sem, hlt]
    refine DrawK.walk 8 mixed (by kernel_rfl) ?_
    simp only [go_sem, hlt, hg]
    refine CallY.mk (con_rright m m.rules[i]! h (mem_bangI hlt)) (by simp only [go_sem, vM, cM, vss, hk]) (by simp only [go_sem]) (.inl (by simp only [go_sem])) ?_
    simp only [go_sem, hw]
    refine roundK.intro (i + 1) (by omega) (by omega) ?_
    simp only [go_sem]
  · simp only [go_sem, hlt]
    refine DrawK.walk 6 mixed (by kernel_rfl) ?_
    simp only [go_sem]
    refine CallY.mk (con_rtypeOf m h) (by simp only [go_sem, vM, cM, vss, hk]) (by simp only [go_sem]) (.inl (by simp only [go_sem])) ?_
    simp only [go_sem]
    refine CallY.mk (con_rvalid m.states.length m.places.length m.start (by omega) (by omega) (by omega) h.start) (by simp only [go_sem, vV_eq]) (by simp only [go_sem]) (.inr (by simp only [go_sem])) ?_
    simp only [go_sem]
end Go.AM

/-! ## CrF -/
namespace Go.AM
open Go Go.Proofs Go.RowKit

set_option maxRecDepth 100000 in
set_option maxHeartbeats 1000000 in
theorem con_rmvalid (m : MD) (c : CV) (h : GoodM m) (hc : confB m.states.length m.places.length c = true) : Con Tryz.prog 40 [vM m, vV c] [] fun r _ => r = vb true := by
  rw [vV_eq c]
  refine Con.intro Tryz.func40 rfl Tryz.ntmps40 Tryz.results40 (by kernel_rfl) (by simp) 0 (by simp) ?_
  have h1 := h.states; have h2 := h.places
  simp only [go_sem, vM, cM, vss]
  refine DrawK.walk 10 mixed (by kernel_rfl) ?_
  simp only [go_sem]
  refine CallY.mk (con_rmcheck m h) (by simp only [go_sem, vM, cM, vss]) (by simp only [go_sem]) (.inl (by simp only [go_sem])) ?_
  simp only [go_sem]
  refine CallY.mk (con_rtypeOf m h) (by simp only [go_sem, vM, cM, vss]) (by simp only [go_sem]) (.inl (by simp only [go_sem])) ?_
  simp only [go_sem]
  refine CallY.mk (con_rvalid m.states.length m.places.length c (by omega) (by omega) (by omega) hc) (by simp only [go_sem, vV_eq]) (by simp only [go_sem]) (.inr (by simp only [go_sem])) ?_
  simp only [go_sem]
set_option maxRecDepth 100000 in
theorem con_rplain (m : MD) (h : GoodM m) (hs : m.rules.all stillB = true) : Con Tryz.prog 39 [vM m] [] fun r _ => r = vi 0 := by
  refine Con.intro Tryz.func39 rfl Tryz.ntmps39 Tryz.results39 (by kernel_rfl) (by simp) 0 (by simp) ?_
  have h3 := h.few
  have hk := h.kind
  simp only [go_sem, vM, cM, vss, hk]
  refine CallU.free (con_rmcheck m h) (by simp only [go_sem]) (by simp only [go_sem, vM, cM, vss, hk]) ?_
  rintro r bx rfl
  simp only [go_sem]
  refine LoopK.intro (fun i : Nat => ⟨28, [(1, .pb 0 0), (4, vi i)], [[vi 1, .sl 0 1 (m.states.map vStr), .sl 0 1 (m.places.map vStr), .sl 0 1 (m.letters.map vStr), vs 0 m.ranks, vi m.levels, vi m.age, .sl 0 14 (m.rules.map vRule), vi m.start.n, .sl 0 2 (m.start.kids.map vV)]]⟩)
    (fun i => m.rules.length - i) (fun i => i ≤ m.rules.length) 0 (by omega) ?_ ?_
  · simp only [go_sem]
  rintro i hi
  by_cases hlt : i < m.rules.length
  · have hg := getRule hlt
    have hw : IntKind.i64.wrap (i + 1) = i + 1 := wrap_in (by omega) (by omega)
    have hst := List.all_eq_true.1 hs _ (mem_bangI hlt)
    unfold stillB at hst
    rw [beq_iff_eq] at hst
    have hmv : m.rules[i]!.move = [] := List.eq_nil_of_length_eq_zero hst
    simp only [go_sem, hlt, hg, hmv, hw, List.map_nil, List.length_nil]
    refine roundK.intro (i + 1) (by omega) (by omega) ?_
    simp only [go_sem]
  · simp only [go_sem, hlt]
theorem tail_step {L : List CV} {i : Nat} (h1 : 1 ≤ i) (h : i < L.length) : ((L.take (i + 1)).drop 1).map CV.n = ((L.take i).drop 1).map CV.n ++ [L[i]!.n] := by
  rw [List.take_add_one, List.getElem?_eq_getElem h, getElem!_pos L i h, Option.toList, List.drop_append_of_le_length (by rw [List.length_take]; omega), List.map_append]; rfl
set_option maxRecDepth 100000 in
theorem con_rNumbers (n : Int) (x : CV) (l : List CV) (hl : l.length ≤ 1000000) : Con Tryz.prog 24 [.ag [vi n, .sl 0 2 ((x :: l).map vV)]] [] fun r _ => r = vs 2 (l.map CV.n) := by
  refine Con.intro Tryz.func24 rfl Tryz.ntmps24 Tryz.results24 (by kernel_rfl) (by simp) 0 (by simp) ?_
  obtain ⟨L, hL⟩ : ∃ L, L = x :: l := ⟨_, rfl⟩
  have hLl : L.length = l.length + 1 := by rw [hL]; rfl
  have e : l.map CV.n = ((L.take L.length).drop 1).map CV.n := by rw [List.take_length, hL]; rfl
  rw [e, ← hL]
  simp only [go_sem]
  refine LoopK.intro (fun i : Nat => ⟨22, [(1, .pb 0 0), (3, vs 1344 (((L.take i).drop 1).map CV.n)), (4, vi i)], [[vi n, .sl 0 2 (L.map vV)]]⟩) (fun i => L.length - i) (fun i => 1 ≤ i ∧ i ≤ L.length) 1 ⟨by omega, by omega⟩ ?_ ?_
  · have e1 : (L.take 1).drop 1 = [] := by rw [hL]; rfl
    simp only [go_sem, e1, List.map_nil]
    all_goals exact leV_int rfl
  rintro i ⟨hi1, hi⟩
  by_cases h : i < L.length
  · have hg := getvV h
    have hw : IntKind.i64.wrap (i + 1) = i + 1 := wrap_in (by omega) (by omega)
    have hr : roomFor (((L.take i).drop 1).length + 1) 8 := by simp only [roomFor, List.length_drop, List.length_take]; omega
    have e2 := tail_step hi1 h
    simp only [go_sem, h, hg, hw, hr]
    refine roundK.intro (i + 1) ⟨by omega, by omega⟩ (by omega) ?_
    simp only [go_sem, e2, List.map_append, List.map_cons, List.map_nil]
  · obtain rfl : i = L.length := by omega
    simp only [go_sem, h]
set_option maxRecDepth 100000 in
theorem con_rr (n m : Int) (hm : 1 ≤ m ∧ m ≤ 8) (_hn : -1125899906842624 ≤ n ∧ n ≤ 1125899906842624) : Con Tryz.prog 119 [vi n, vi m] [] fun r _ => r = vi (restF n m) := by
  refine Con.intro Tryz.func119 rfl Tryz.ntmps119 Tryz.results119 (by kernel_rfl) (by simp) 0 (by simp) ?_
  have hz : ¬ m = 0 := by omega
  have t1 : -8 < Int.tmod n m ∧ Int.tmod n m < 8 := by
    have := Int.tmod_lt_of_pos n (show 0 < m by omega)
    have := Int.lt_tmod_of_pos n (show 0 < m by omega)
    omega
  have t2 : -8 < Int.tmod (Int.tmod n m + m) m ∧ Int.tmod (Int.tmod n m + m) m < 8 := by
    have := Int.tmod_lt_of_pos (Int.tmod n m + m) (show 0 < m by omega)
    have := Int.lt_tmod_of_pos (Int.tmod n m + m) (show 0 < m by omega)
    omega
  have w1 : IntKind.i64.wrap (Int.tmod n m) = Int.tmod n m := wrap_in (by omega) (by omega)
  have w2 : IntKind.i64.wrap (Int.tmod n m + m) = Int.tmod n m + m := wrap_in (by omega) (by omega)
  have w3 : IntKind.i64.wrap (Int.tmod (Int.tmod n m + m) m) = Int.tmod (Int.tmod n m + m) m := wrap_in (by omega) (by omega)
  unfold restF
  simp only [go_sem, hz, w2]
set_option maxRecDepth 100000 in
theorem con_rRight (c : List Int) (mod : Int) (hl : c.length ≤ 1000000) (hc : SmallI 4 c) (hm : ModOk mod) : Con Tryz.prog 116 [vs 0 c, vi mod] [] fun r _ => r = vb true := by
  refine Con.intro Tryz.func116 rfl Tryz.ntmps116 Tryz.results116 (by kernel_rfl) (by simp) 0 (by simp) ?_
  simp only [go_sem]
  refine LoopK.intro (fun i : Nat => ⟨34, [(0, vs 0 c), (1, vi mod), (5, vi i)], []⟩) (fun i => c.length - i) (fun i => i ≤ c.length) 0 (by omega) ?_ ?_
  · simp only [go_sem]
  rintro i hi
  by_cases h : i < c.length
  · have hg := getv h
    have hw : IntKind.i64.wrap (i + 1) = i + 1 := wrap_in (by omega) (by omega)
    have hx := hc c[i]! (mem_bangI h)
    have x1 : ¬ c[i]! < -4 := by omega
    have x2 : ¬ (4 : Int) < c[i]! := by omega
    simp only [go_sem, h, hg, x1, x2, hw]
    refine roundK.intro (i + 1) (by omega) (by omega) ?_
    simp only [go_sem]
  · rcases hm with rfl | ⟨m1, m2⟩
    · simp only [go_sem, h]
    · have m0 : (mod == 0) = false := beq_eq_false_iff_ne.2 (by omega)
      simp only [go_sem, h, m0, m1, m2]
end Go.AM

/-! ## LCyc -/
namespace Go.AM

/-- the state behind a way -/
def atF (rules : List RD) (s : Int) (w : List Int) : Int := if w.length = 0 then s else rules[w[w.length - 1]!.toNat]!.dst
/-- the ways with one of the first rules more -/
def stepTo (rules : List RD) (s : Int) (w : List Int) : Nat → List (List Int)
  | 0 => []
  | k + 1 => if rules[k]!.src = atF rules s w then stepTo rules s w k ++ [w ++ [(k : Int)]] else stepTo rules s w k
def stepW (rules : List RD) (s : Int) (w : List Int) : List (List Int) := stepTo rules s w rules.length
def longerF (rules : List RD) (s : Int) (ways : List (List Int)) : Nat → List (List Int)
  | 0 => []
  | i + 1 => longerF rules s ways i ++ stepW rules s ways[i]!
def waysF (rules : List RD) (s : Int) : Nat → List (List Int)
  | 0 => [[]]
  | n + 1 => longerF rules s (waysF rules s n) (waysF rules s n).length
def endsB (rules : List RD) (s : Int) (w : List Int) : Bool := rules[w[w.length - 1]!.toNat]!.dst == s
def cycF (rules : List RD) (s : Int) : Nat → List (List Int)
  | 0 => []
  | n + 1 => cycF rules s n ++ (waysF rules s (n + 1)).filter (endsB rules s)

theorem stepTo_mem {rules : List RD} {s : Int} {w x : List Int} : ∀ {k : Nat}, x ∈ stepTo rules s w k ↔ ∃ r, r < k ∧ rules[r]!.src = atF rules s w ∧ x = w ++ [(r : Int)]
  | 0 => by simp [stepTo]
  | k + 1 => by
    unfold stepTo
    split
    · rename_i h
      rw [List.mem_append, stepTo_mem, List.mem_singleton]
      constructor
      · rintro (⟨r, h1, h2⟩ | h2)
        · exact ⟨r, by omega, h2⟩
        · exact ⟨k, by omega, h, h2⟩
      · rintro ⟨r, h1, h2, h3⟩
        by_cases hr : r = k
        · subst hr; exact .inr h3
        · exact .inl ⟨r, by omega, h2, h3⟩
    · rename_i h
      rw [stepTo_mem]
      constructor
      · rintro ⟨r, h1, h2⟩; exact ⟨r, by omega, h2⟩
      · rintro ⟨r, h1, h2, h3⟩
        by_cases hr : r = k
        · subst hr; exact absurd h2 h
        · exact ⟨r, by omega, h2, h3⟩
theorem stepTo_len {rules : List RD} {s : Int} {w : List Int} : ∀ k, (stepTo rules s w k).length ≤ k
  | 0 => Nat.le_refl _
  | k + 1 => by
    have := stepTo_len (rules := rules) (s := s) (w := w) k
    unfold stepTo
    split
    · rw [List.length_append]; simp; omega
    · omega
theorem longer_mem {rules : List RD} {s : Int} {ways : List (List Int)} {x : List Int} : ∀ {i : Nat}, x ∈ longerF rules s ways i ↔ ∃ j, j < i ∧ x ∈ stepW rules s ways[j]!
  | 0 => by simp [longerF]
  | i + 1 => by
    unfold longerF
    rw [List.mem_append, longer_mem]
    constructor
    · rintro (⟨j, h1, h2⟩ | h2)
      · exact ⟨j, by omega, h2⟩
      · exact ⟨i, by omega, h2⟩
    · rintro ⟨j, h1, h2⟩
      by_cases hj : j = i
      · subst hj; exact .inr h2
      · exact .inl ⟨j, by omega, h2⟩
theorem longer_len {rules : List RD} {s : Int} {ways : List (List Int)} : ∀ i, (longerF rules s ways i).length ≤ i * rules.length
  | 0 => by simp [longerF]
  | i + 1 => by
    have h1 := longer_len (rules := rules) (s := s) (ways := ways) i
    have h2 := stepTo_len (rules := rules) (s := s) (w := ways[i]!) rules.length
    unfold longerF stepW
    rw [List.length_append, Nat.add_mul]
    omega
theorem ways_len {rules : List RD} {s : Int} : ∀ n, (waysF rules s n).length ≤ rules.length ^ n
  | 0 => by simp [waysF]
  | n + 1 => by
    have h1 := ways_len (rules := rules) (s := s) n
    have h2 := longer_len (rules := rules) (s := s) (ways := waysF rules s n) (waysF rules s n).length
    unfold waysF
    rw [Nat.pow_succ]
    exact Nat.le_trans h2 (Nat.mul_le_mul_right _ h1)
theorem ways_each {rules : List RD} {s : Int} : ∀ {n : Nat} {w : List Int}, w ∈ waysF rules s n → w.length = n ∧ ∀ k ∈ w, 0 ≤ k ∧ k < rules.length
  | 0, w, h => by
    simp only [waysF, List.mem_singleton] at h
    subst h; exact ⟨rfl, fun k hk => by cases hk⟩
  | n + 1, w, h => by
    unfold waysF at h
    obtain ⟨j, hj, hx⟩ := longer_mem.1 h
    obtain ⟨r, hr, _, rfl⟩ := stepTo_mem.1 hx
    have hm : (waysF rules s n)[j]! ∈ waysF rules s n := by rw [getElem!_pos _ j hj]; exact List.getElem_mem hj
    obtain ⟨h1, h2⟩ := ways_each hm
    refine ⟨by rw [List.length_append, h1]; rfl, fun k hk => ?_⟩
    rcases List.mem_append.1 hk with hk | hk
    · exact h2 k hk
    · rw [List.mem_singleton] at hk; subst hk; omega
theorem cyc_each {rules : List RD} {s : Int} : ∀ {n : Nat} {w : List Int}, w ∈ cycF rules s n → 1 ≤ w.length ∧ w.length ≤ n ∧ w ∈ waysF rules s w.length ∧ endsB rules s w = true
  | 0, w, h => by simp [cycF] at h
  | n + 1, w, h => by
    unfold cycF at h
    rcases List.mem_append.1 h with h | h
    · have := cyc_each h; exact ⟨this.1, by omega, this.2.2⟩
    · obtain ⟨h1, h2⟩ := List.mem_filter.1 h
      have h3 := ways_each h1
      exact ⟨by omega, by omega, by rw [h3.1]; exact h1, h2⟩
theorem cyc_len {rules : List RD} {s : Int} (h : rules.length ≤ 3) : ∀ {n : Nat}, n ≤ 4 → (cycF rules s n).length ≤ 120 ∧ (waysF rules s n).length ≤ 81 := by
  have hw : ∀ n, (waysF rules s n).length ≤ 3 ^ n := fun n => Nat.le_trans (ways_len n) (Nat.pow_le_pow_left h n)
  have hf : ∀ n, ((waysF rules s n).filter (endsB rules s)).length ≤ 3 ^ n := fun n => Nat.le_trans (List.length_filter_le ..) (hw n)
  have h1 := hf 1
  have h2 := hf 2
  have h3 := hf 3
  have h4 := hf 4
  have g0 := hw 0
  have g1 := hw 1
  have g2 := hw 2
  have g3 := hw 3
  have g4 := hw 4
  intro n hn
  obtain rfl | rfl | rfl | rfl | rfl : n = 0 ∨ n = 1 ∨ n = 2 ∨ n = 3 ∨ n = 4 := by omega
  all_goals simp only [cycF, List.length_append, List.length_nil]
  all_goals simp only [Nat.reduceAdd, Nat.reducePow] at *
  all_goals omega
end Go.AM

/-! ## FG -/
namespace Go.AM
open Go Go.Proofs Go.RowKit

set_option maxRecDepth 100000 in
theorem con_rcopy (l : List Int) (h2 : l.length ≤ 1000000) : Con Tryz.prog 111 [vs 0 l] [] fun r _ => r = vs 2 l := by
  refine Con.intro Tryz.func111 rfl Tryz.ntmps111 Tryz.results111 (by kernel_rfl) (by simp) 0 (by simp) ?_
  have hr : roomFor l.length 8 := by simp only [roomFor]; omega
  simp only [go_sem, List.length_map, hr]
theorem room_more {a b c d es : Nat} (h1 : a ≤ b + d) (h2 : roomFor (c + (b + (d + 1))) es) : roomFor (c + a + 1) es := by
  unfold roomFor at *
  have h3 : (c + a + 1) * es ≤ (c + (b + (d + 1))) * es := Nat.mul_le_mul_right _ (by omega)
  exact ⟨by omega, by omega⟩
theorem ends_snoc {rules : List RD} {s : Int} {w : List Int} {k : Nat} : endsB rules s (w ++ [(k : Int)]) = (rules[k]!.dst == s) := by
  unfold endsB
  have e : (w ++ [(k : Int)])[(w ++ [(k : Int)]).length - 1]! = k := by
    have h : (w ++ [(k : Int)]).length - 1 = w.length := by rw [List.length_append]; simp
    rw [h, getElem!_pos _ w.length (by simp)]
    simp
  rw [e, Int.toNat_natCast]
set_option maxRecDepth 100000 in
set_option maxHeartbeats 4000000 in
theorem con_rCycles (m : MD) (s most : Nat) (h : GoodM m) (hst : m.rules.all stillB = true) (h3 : m.rules.length ≤ 3) (hs : s < m.states.length) (hm : most ≤ 4) :
    Con Tryz.prog 48 [vM m, vi s, vi most] [] fun r _ => r = .tup [.sl 2 1 ((cycF m.rules s most).map (vs 0)), vi 0] := by
  refine Con.intro Tryz.func48 rfl Tryz.ntmps48 Tryz.results48 (by kernel_rfl) (by simp) 0 (by simp) ?_
  have hs1 : ¬ (s : Int) < 0 := by omega
  have hs2 : ¬ (m.states.length : Int) ≤ (s : Int) := by omega
  have hm1 : ¬ (most : Int) < 0 := by omega
  have hm2 : ¬ (4 : Int) < (most : Int) := by omega
  simp only [go_sem, vM, cM, vss]
  refine CallU.free (con_rplain m h hst) (by simp only [go_sem]) (by simp only [go_sem, vM, cM, vss]) ?_
  rintro x bx rfl
  simp only [go_sem, hs1, hs2, hm1, hm2, List.length_map]
  refine LoopK.intro (fun n : Nat => ⟨119, [(1, vi s), (2, vi most), (3, .pb 0 0), (9, .sl 7296 1 ((cycF m.rules s n).map (vs 0))), (10, .sl 2560 1 ((waysF m.rules s n).map (vs 0))), (11, vi n)], [cM m]⟩)
    (fun n => most - n) (fun n => n ≤ most) 0 (by omega) ?_ ?_
  · simp only [go_sem, cM, vss, cycF, waysF, List.map_cons, List.map_nil]
    all_goals exact leV_slE rfl (fun y hy => by rw [List.mem_singleton] at hy; subst hy; rfl) (PW.cons (Sub.nil 1) (PW.nil _))
  rintro n hn
  have hcl := cyc_len (s := s) h3 hm
  by_cases hnl : n < most
  case neg =>
    obtain rfl : n = most := by omega
    simp only [go_sem, cM, vss, hnl]
  have hw : IntKind.i64.wrap (n + 1) = n + 1 := wrap_in (by omega) (by omega)
  have hwl := (cyc_len (rules := m.rules) (s := s) h3 (show n ≤ 4 by omega)).2
  have hcl0 := (cyc_len (rules := m.rules) (s := s) h3 (show n ≤ 4 by omega)).1
  have hcl1 := (cyc_len (rules := m.rules) (s := s) h3 (show n + 1 ≤ 4 by omega)).1
  have hwe := fun w => ways_each (rules := m.rules) (s := s) (n := n) (w := w)
  have ec1 : cycF m.rules s (n + 1) = cycF m.rules s n ++ (longerF m.rules s (waysF m.rules s n) (waysF m.rules s n).length).filter (endsB m.rules s) := by rw [cycF]; rfl
  have ew1 : waysF m.rules s (n + 1) = longerF m.rules s (waysF m.rules s n) (waysF m.rules s n).length := rfl
  rw [ec1] at hcl1
  generalize hcN : cycF m.rules s (n + 1) = C1 at *
  generalize hwN : waysF m.rules s (n + 1) = W1 at *
  generalize waysF m.rules s n = W at *
  generalize cycF m.rules s n = C at *
  simp only [go_sem, cM, vss, hnl]
  refine LoopK.intro (fun i : Nat => ⟨119, [(1, vi s), (2, vi most), (3, .pb 0 0), (9, .sl 7296 1 ((C ++ (longerF m.rules s W i).filter (endsB m.rules s)).map (vs 0))), (10, .sl 2560 1 (W.map (vs 0))), (11, vi n), (12, .sl 6528 1 ((longerF m.rules s W i).map (vs 0))), (13, vi i)], [cM m]⟩)
    (fun i => W.length - i) (fun i => i ≤ W.length) 0 (by omega) ?_ ?_
  · simp only [go_sem, cM, vss, longerF, List.filter_nil, List.append_nil, List.map_nil]
  rintro i hi
  by_cases hil : i < W.length
  case neg =>
    obtain rfl : i = W.length := by omega
    have hno : ¬ (128 : Int) < ((C ++ (longerF m.rules s W W.length).filter (endsB m.rules s)).length : Int) := by omega
    simp only [go_sem, cM, vss, hil, List.length_map, hno, hw]
    refine roundK.mv 6528 2560 (by omega) (by omega) (by omega) (n + 1) (by show n + 1 ≤ most; omega) (by show most - (n + 1) < most - n; omega) ?_
    simp only [go_sem, hcN, hwN, ec1, ew1]
    all_goals exact leV_refl _
  have hWi := hwe _ (mem_bangI hil)
  have hgW : (W.map (vs 0))[i]? = some (vs 0 W[i]!) := by rw [List.getElem?_map, List.getElem?_eq_getElem hil, getElem!_pos W i hil]; rfl
  have elg : longerF m.rules s W (i + 1) = longerF m.rules s W i ++ stepTo m.rules s W[i]! m.rules.length := rfl
  have hlg := longer_len (rules := m.rules) (s := s) (ways := W) i
  generalize longerF m.rules s W i = LG at *
  have elg' : LG ++ stepTo m.rules s W[i]! m.rules.length = longerF m.rules s W (i + 1) := elg.symm
  generalize W[i]! = w at *
  have hroom : ∀ k, k ≤ m.rules.length → roomFor (LG.length + k) 24 ∧ roomFor (C.length + (LG.length + k)) 24 := fun k hk => by
    simp only [roomFor]
    have hCl : C.length ≤ 120 := hcl0
    have : i * m.rules.length ≤ 81 * 3 := Nat.mul_le_mul (by omega) h3
    omega
  by_cases hw0 : w.length = 0
  case' pos =>
    have hw0' : ¬ 0 < w.length := by omega
    have eat : atF m.rules s w = s := by unfold atF; rw [if_pos hw0]
    simp only [go_sem, cM, vss, hil, List.length_map, hgW, hw0']
  case' neg =>
    have hw0' : 0 < w.length := by omega
    have hlast : w.length - 1 < w.length := by omega
    have hk := hWi.2 _ (mem_bangI hlast)
    obtain ⟨k, ek, hkl⟩ : ∃ k : Nat, w[w.length - 1]! = k ∧ k < m.rules.length := ⟨w[w.length - 1]!.toNat, by omega, by omega⟩
    have eat : atF m.rules s w = m.rules[k]!.dst := by unfold atF; rw [if_neg hw0, ek]; rfl
    have hg := getv hlast
    have hgr := getRule hkl
    have ww : IntKind.i64.wrap ((w.length : Int) - 1) = ((w.length - 1 : Nat) : Int) := by rw [wrap_in (by omega) (by omega)]; omega
    rw [ek] at hg
    simp only [go_sem, cM, vss, hil, List.length_map, hgW, hw0']
    refine DrawK.walk 18 mixed (by kernel_rfl) ?_
    simp only [go_sem, hil, List.length_map, hgW, ww, hlast, hg, hkl, hgr]
  all_goals
    refine LoopK.intro (fun k : Nat => ⟨119, [(1, vi s), (2, vi most), (3, .pb 0 0), (9, .sl 7296 1 ((C ++ (LG ++ stepTo m.rules s w k).filter (endsB m.rules s)).map (vs 0))), (10, .sl 2560 1 (W.map (vs 0))), (11, vi n), (12, .sl 6528 1 ((LG ++ stepTo m.rules s w k).map (vs 0))), (13, vi i), (14, vi (atF m.rules s w)), (15, vi k)], [cM m]⟩)
      (fun k => m.rules.length - k) (fun k => k ≤ m.rules.length) 0 (by omega) ?_ ?_
    · simp only [go_sem, cM, vss, stepTo, List.append_nil, eat]
    rintro k hk
    by_cases hkl : k < m.rules.length
    case neg =>
      obtain rfl : k = m.rules.length := by omega
      have hw2 : IntKind.i64.wrap (i + 1) = i + 1 := wrap_in (by omega) (by omega)
      simp only [go_sem, cM, vss, List.length_map, hkl, hw2]
      refine roundK.intro (i + 1) (by omega) (by omega) ?_
      simp only [go_sem, elg']
    have hgr := getRule hkl
    have hw2 : IntKind.i64.wrap (k + 1) = k + 1 := wrap_in (by omega) (by omega)
    have hsl := stepTo_len (rules := m.rules) (s := s) (w := w) k
    have hro := hroom (stepTo m.rules s w k).length (by omega)
    by_cases hsrc : m.rules[k]!.src = atF m.rules s w
    case neg =>
      have hsrc' : (m.rules[k]!.src == atF m.rules s w) = false := beq_eq_false_iff_ne.2 hsrc
      have es : stepTo m.rules s w (k + 1) = stepTo m.rules s w k := by rw [stepTo, if_neg hsrc]
      simp only [go_sem, cM, vss, List.length_map, hkl, hgr, hsrc', hw2]
      refine roundK.intro (k + 1) (by omega) (by omega) ?_
      simp only [go_sem, es]
    have hsrc' : (m.rules[k]!.src == atF m.rules s w) = true := beq_iff_eq.2 hsrc
    have es : stepTo m.rules s w (k + 1) = stepTo m.rules s w k ++ [w ++ [(k : Int)]] := by rw [stepTo, if_pos hsrc]
    have hp : vs 0 (w ++ [(k : Int)]) = .sl 0 1 (w.map vi ++ [.sc (.int .i64 k)]) := by show AV.sl 0 1 (List.map vi (w ++ [(k : Int)])) = _; rw [List.map_append]; rfl
    have hend := ends_snoc (rules := m.rules) (s := s) (w := w) (k := k)
    simp only [go_sem, cM, vss, List.length_map, hil, hgW, hkl, hgr, hsrc']
    refine CallU.free (con_rcopy w (by omega)) (by simp only [go_sem]) (by simp only [go_sem]) ?_
    rintro x bx rfl
    have hr1 : roomFor (w.length + 1) 8 := by simp only [roomFor]; omega
    have hr2 : roomFor ((LG ++ stepTo m.rules s w k).length + 1) 24 := by rw [List.length_append]; have := (hroom ((stepTo m.rules s w k).length + 1) (by omega)).1; rw [Nat.add_assoc]; exact this
    by_cases hdst : m.rules[k]!.dst = s
    · have hdst' : (m.rules[k]!.dst == (s : Int)) = true := beq_iff_eq.2 hdst
      rw [hdst'] at hend
      have eA : LG ++ stepTo m.rules s w (k + 1) = (LG ++ stepTo m.rules s w k) ++ [w ++ [(k : Int)]] := by rw [es, List.append_assoc]
      have eF : (LG ++ stepTo m.rules s w k ++ [w ++ [(k : Int)]]).filter (endsB m.rules s) = (LG ++ stepTo m.rules s w k).filter (endsB m.rules s) ++ [w ++ [(k : Int)]] := by rw [List.filter_append (l₂ := [_]), List.filter_cons, if_pos hend]; rfl
      have hBr : roomFor ((C ++ (LG ++ stepTo m.rules s w k).filter (endsB m.rules s)).length + 1) 24 := by
        have h1 := List.length_filter_le (endsB m.rules s) (LG ++ stepTo m.rules s w k)
        rw [List.length_append] at h1
        have h2 := (hroom ((stepTo m.rules s w k).length + 1) (by omega)).2
        rw [List.length_append]
        exact room_more h1 h2
      simp only [go_sem, List.length_map, hkl, hgr, hdst', hr1, hr2, hw2]
      refine ⟨hBr, roundK.intro (k + 1) (by omega) (by omega) ?_⟩
      simp only [go_sem, eA]
      rw [eF, ← List.append_assoc]
      generalize C ++ List.filter (endsB m.rules s) (LG ++ stepTo m.rules s w k) = B
      generalize LG ++ stepTo m.rules s w k = A
      rw [List.map_append, List.map_append, List.map_cons, List.map_nil, hp]
      exact ⟨leV_refl _, leV_refl _⟩
    · have hdst' : (m.rules[k]!.dst == (s : Int)) = false := beq_eq_false_iff_ne.2 hdst
      rw [hdst'] at hend
      have eA : LG ++ stepTo m.rules s w (k + 1) = (LG ++ stepTo m.rules s w k) ++ [w ++ [(k : Int)]] := by rw [es, List.append_assoc]
      have eF : (LG ++ stepTo m.rules s w k ++ [w ++ [(k : Int)]]).filter (endsB m.rules s) = (LG ++ stepTo m.rules s w k).filter (endsB m.rules s) := by rw [List.filter_append (l₂ := [_]), List.filter_cons, if_neg (by rw [hend]; simp), List.filter_nil, List.append_nil]
      simp only [go_sem, List.length_map, hkl, hgr, hdst', hr1, hr2, hw2]
      refine roundK.intro (k + 1) (by omega) (by omega) ?_
      simp only [go_sem, eA]
      rw [eF]
      generalize C ++ List.filter (endsB m.rules s) (LG ++ stepTo m.rules s w k) = B
      generalize LG ++ stepTo m.rules s w k = A
      rw [List.map_append, List.map_cons, List.map_nil, hp]
      exact ⟨leV_refl _, leV_refl _⟩
end Go.AM
