/-
  The abstract machine: a region that draws its order, among whose operations are new variables: for each a place is kept ahead.
  Walks: numbers of the dice; configurations of the dice.
  Walks: the reference's steps of counter models: one rule.
  Walks: the reference's steps: what a rule leads to.
  Walks: the reference's steps: all of them.
  Walks: slices.Repeat and slices.Clone of numbers.
  Walks: one rule, and one round of all rules, of the search for the strongest atom.
  Walks: the strongest atom.
  Walks: the sanity check of chapter 32.
  Walks: counter models of the dice.
  Counter models of the dice are right; the strongest atom as a plain law.
  Walks: what the dice's Near leads to: runs of a counter model.
  Walks: the reference of chapter 32: sums, effects, candidates.
-/
import Derived.Test.YtlldkikmjeeamaaGreatg6
import Derived.Test.YtlldkikmjeeamaaGreatg7
import Derived.Test.YtlldkikmjeeamaaGreatg8
/-! ## Am5 -/
namespace Go.AM
open Go.RowKit

/-! ### places that are kept -/
/-- no pointer to variable N -/
def noPb (N : Nat) : AV → Bool
  | .pb i _ => decide (i ≠ N)
  | .cl _ caps => caps.all fun c => match c with
    | .pb i _ => decide (i ≠ N)
    | _ => true
  | _ => true
def noPbT (N : Nat) : List (Nat × AV) → Bool
  | [] => true
  | (_, v) :: r => v.allLeaf (noPb N) && noPbT N r
def noPbB (N : Nat) : List (List AV) → Bool
  | [] => true
  | cs :: r => allLeafs (noPb N) cs && noPbB N r
theorem noPbT_look {N : Nat} : ∀ {l : List (Nat × AV)}, noPbT N l = true → ∀ s, (lookT l s).allLeaf (noPb N) = true
  | [], _, s => by simp [lookT, AV.allLeaf, noPb]
  | (k, v) :: r, h, s => by
    simp only [noPbT, Bool.and_eq_true] at h
    simp only [lookT]
    split
    · exact h.1
    · exact noPbT_look h.2 s
theorem noPbB_mem {N : Nat} : ∀ {l : List (List AV)}, noPbB N l = true → ∀ (i : Nat) cs, l[i]? = some cs → ∀ x ∈ cs, x.allLeaf (noPb N) = true
  | [], _, i, cs, h, _, _ => by simp at h
  | y :: r, h, i, cs, hi, x, hx => by
    simp only [noPbB, Bool.and_eq_true] at h
    cases i with
    | zero => simp at hi; subst hi; exact allLeafs_mem h.1 x hx
    | succ i => exact noPbB_mem h.2 i cs (by simpa using hi) x hx
theorem noPbT_put {N : Nat} {x : AV} (hx : x.allLeaf (noPb N) = true) : ∀ {l : List (Nat × AV)} {s : Nat}, noPbT N l = true → noPbT N (putT l s x) = true
  | [], s, _ => by simp [putT, noPbT, hx]
  | (s', v) :: r, s, h => by
    simp only [noPbT, Bool.and_eq_true] at h
    unfold putT
    split
    · simp [noPbT, hx, h.2]
    · simp [noPbT, h.1, noPbT_put hx h.2]
theorem noPbB_set {N : Nat} : ∀ (bx : List (List AV)) (k : Nat) (c' : List AV), noPbB N bx = true → allLeafs (noPb N) c' = true → noPbB N (bx.set k c') = true
  | [], _, _, _, _ => rfl
  | b :: bx, 0, c', h1, h2 => by simp only [List.set_cons_zero, noPbB, Bool.and_eq_true] at h1 ⊢; exact ⟨h2, h1.2⟩
  | b :: bx, k + 1, c', h1, h2 => by simp only [List.set_cons_succ, noPbB, Bool.and_eq_true] at h1 ⊢; exact ⟨h1.1, noPbB_set bx k c' h1.2 h2⟩
def unboxG (N : Nat) (G : Nat → Status) (b : Nat) : Status := if G b = .box N then .junk else G b
theorem unboxG_stable {N : Nat} {G : Nat → Status} {b : Nat} : Stable (unboxG N G) b ↔ Stable G b := by
  unfold Stable unboxG
  split
  · rename_i h; rw [h]; simp
  · exact Iff.rfl
theorem unboxG_tag {N t : Nat} {G : Nat → Status} {b : Nat} : unboxG N G b = .tag t ↔ G b = .tag t := by
  unfold unboxG
  split
  · rename_i h; rw [h]; simp
  · exact Iff.rfl
theorem unboxG_box {N i : Nat} {G : Nat → Status} {b : Nat} : unboxG N G b = .box i ↔ G b = .box i ∧ i ≠ N := by
  unfold unboxG
  split
  · rename_i h; rw [h]; simp; exact fun e => e.symm
  · rename_i h
    exact ⟨fun h' => ⟨h', fun e => h (by rw [h', e])⟩, fun h' => h'.1⟩
theorem VRel.unbox {N : Nat} {G : Nat → Status} {w : World} {x : AV} {v : Value} (h : VRel G w x v) (hq : x.allLeaf (noPb N) = true) : VRel (unboxG N G) w x v := by
  have hF : ∀ {x v}, FRel (Stable G) w x v → FRel (Stable (unboxG N G)) w x v := fun hr => hr.mono (fun b => unboxG_stable.2) (fun _ _ => rfl)
  have hsl : ∀ {t es xs v}, VRel G w (.sl t es xs) v → VRel (unboxG N G) w (.sl t es xs) v := by
    intro t es xs v h
    cases h with
    | froz h => exact .froz (hF h)
    | own _ _ _ _ e vals h1 h2 h3 h4 h0 h5 => exact .own t es xs v e vals h1 h2 (fun b hb => unboxG_tag.2 (h3 b hb)) h4 h0 (h5.mono fun x y _ hr => hF hr)
  have hso : ∀ {t xs v}, VRel G w (.so t xs) v → VRel (unboxG N G) w (.so t xs) v := by
    intro t xs v h
    have := h.so_map (f := id) (G' := unboxG N G) (w' := w) h.so_two (fun x u hx hr => ⟨hx, by
      cases hr with
      | froz hr => exact .froz (hF hr)
      | own t' es ys _ e vals h1 hrt h2 h3 h4 h0 h5 => exact .own t' es ys _ e vals h1 hrt h2 (fun b hb => unboxG_tag.2 (h3 b hb)) h4 h0 (h5.mono fun x y _ hr => hF hr)⟩)
      (fun b hb => ⟨unboxG_tag.2 hb, rfl⟩)
    simpa using this
  refine h.keepQ (fun x v hx hq h => ?_) hq
  cases x with
  | so t xs => exact hso h
  | po t xs i =>
    obtain ⟨b, off, c, h1, h2, rfl⟩ := h.po_inv
    exact (hso h1).po_of rfl h2
  | sl t es xs => exact hsl h
  | pe t es xs i o =>
    obtain ⟨b, off, c, h1, h2, rfl⟩ := h.pe_inv
    exact .pe _ _ _ _ _ _ _ _ (hsl h1) h2
  | pb i o =>
    obtain ⟨b, hb, rfl⟩ := h.pb_inv
    simp only [noPb, decide_eq_true_eq] at hq
    exact .pb _ _ _ (unboxG_box.2 ⟨hb, hq⟩)
  | ag cs => simp [AV.leafy] at hx
  | tup cs => simp [AV.leafy] at hx
  | any => exact .froz (.any _)
  | nil => rw [h.nil_inv]; exact .froz .nil
  | ub => obtain ⟨b, rfl⟩ := h.ub_inv; exact .froz (.ub b)
  | sc u => rw [h.sc_inv]; exact .froz (.sc _)
  | fn g caps => cases h with | froz h => exact .froz (hF h)
  | mp t P k e D => exact h.mpMono (fun b hb => unboxG_tag.2 hb) (fun _ _ _ _ _ => rfl)
  | cl g caps =>
    obtain ⟨vs, rfl, hp⟩ := h.cl_inv
    simp only [noPb, List.all_eq_true] at hq
    refine .cl _ _ _ (hp.mono fun x u hx hr => ?_)
    rcases hr with ⟨i, o, b, rfl, hb, rfl⟩ | hr
    · have := hq _ hx
      simp only [decide_eq_true_eq] at this
      exact .inl ⟨i, o, b, rfl, unboxG_box.2 ⟨hb, this⟩, rfl⟩
    · exact .inr (hF hr)
  | tl t es xs i =>
    obtain ⟨b, off, off', c, h1, h2, h3, _, rfl⟩ := h.tl_inv
    exact .tl _ _ _ _ _ _ _ _ (hsl h1) h2 h3
  | fp cs o => cases h with | froz h => exact .froz (hF h)
/-- a place of which the frame knows nothing: there is no variable there -/
theorem SRel.unbox {G0 w0 σ G a w} (h : SRel G0 w0 σ G a w) {N k : Nat} (hg : G0.gh N = none) (h0 : ∀ b, b < w0.heap.size → G0 b ≠ .box N) (ht : noPbT N σ.tmps = true) (hb : noPbB N σ.boxes = true) (hc : σ.boxes[N]? = some (List.replicate k .any)) :
    SRel G0 w0 σ (unboxG N G) a w ∧ ∀ b, unboxG N G b ≠ .box N := by
  have hn : ∀ b, unboxG N G b ≠ .box N := fun b hb => (unboxG_box.1 hb).2 rfl
  refine ⟨{ h with good := ?_, slots := fun s => (h.slots s).unbox (noPbT_look ht s), boxes := ⟨h.boxes.low, fun i cs hi => ?_⟩, blt := fun b i hb => h.blt b i (unboxG_box.1 hb).1, stat := fun b hbl hnt => ?_ }, hn⟩
  · refine ⟨fun b hb => h.good.lt b fun h' => hb (by unfold unboxG; rw [h']; simp), fun b b' t h1 h2 => h.good.tags b b' t (unboxG_tag.1 h1) (unboxG_tag.1 h2), fun b b' i h1 h2 => h.good.boxes b b' i (unboxG_box.1 h1).1 (unboxG_box.1 h2).1⟩
  · by_cases hiN : i = N
    · subst hiN
      rw [hc] at hi; cases hi
      exact .inr (.inr ⟨hg, hn, fun x hx v => by rw [(List.mem_replicate.1 hx).2]; exact .froz (.any _)⟩)
    · refine (h.boxes.cell i cs hi).turn rfl (fun j x y v h1 h2 hr => ?_) (fun b hb => ⟨unboxG_box.2 ⟨hb, hiN⟩, rfl⟩) fun h0 b hb => h0 b (unboxG_box.1 hb).1
      rw [h1] at h2; cases h2
      exact hr.unbox (noPbB_mem hb i cs hi x (List.mem_of_getElem? h1))
  · have h1 := h.stat b hbl hnt
    unfold unboxG
    rw [if_neg (fun h' => h0 b hbl (by rw [← h1, h'])), h1]
/-- .. and now there is one -/
theorem SRel.realize {G0 w0 σ G a w} (h : SRel G0 w0 σ G a w) {N d : Nat} {z : Value} {T : TypeId} (hg : G0.gh N = none) (hn : ∀ b, G b ≠ .box N) (hc : σ.boxes[N]? = some (List.replicate z.cells.size .any)) (hz : One z.cells.toList) (hd : d < σ.n) :
    SRel G0 w0 (σ.put (some d) (.pb N 0)) (updG G w.heap.size (.box N)) (a.put (some d) (.pointer (some ⟨w.heap.size, 0, none⟩))) (w.alloc (.cells z.cells T)) := by
  have hE : Ext G w (updG G w.heap.size (.box N)) (w.alloc (.cells z.cells T)) := .alloc _ _
  have hG : Good (updG G w.heap.size (.box N)) (w.alloc (.cells z.cells T)) := h.good.upd _ _ (Nat.le_refl _) (by simp) (by simp) (fun t ht => by cases ht) (fun i hi b hb => by cases hi; exact hn b hb)
  have hbx : ∀ b i, updG G w.heap.size (.box N) b = .box i → (b = w.heap.size ∧ i = N) ∨ G b = .box i := fun b i hb => by
    unfold updG at hb
    split at hb
    · rename_i e; cases hb; exact .inl ⟨e, rfl⟩
    · exact .inr hb
  have hNl : N < σ.boxes.length := (List.getElem?_eq_some_iff.1 hc).1
  refine { good := hG, slots := slots_put (fun s => (h.slots s).ext h.good hE) h.size (by simpa [dstOk] using hd) (.pb _ _ _ (by simp [updG])), boxes := ⟨fun i vs hv => by rw [put_boxes]; exact h.boxes.low i vs hv, fun i cs hi => ?_⟩, blt := fun b i hb => ?_, size := by rw [put_size, put_n]; exact h.size, defs := by rw [put_defers]; exact h.defs, os := hE.os.trans h.os, tape := hE.tape.trans h.tape, output := hE.output.trans h.output, hsize := Nat.le_trans h.hsize hE.size, stat := fun b hb ht => (hE.stat b (Nat.lt_of_lt_of_le hb h.hsize)).trans (h.stat b hb ht), keep := fun b hb hn' ht => (hE.keep b (Nat.lt_of_lt_of_le hb h.hsize)).trans (h.keep b hb hn' ht) }
  · rw [put_boxes] at hi
    by_cases hiN : i = N
    · subst hiN
      rw [hc] at hi; cases hi
      refine .inl ⟨hg, w.heap.size, z.cells, T, by simp [updG], heap_alloc_new w _, hz, by simp, fun j x u hx _ => ?_⟩
      rw [List.getElem?_replicate] at hx
      split at hx
      · cases hx; exact .froz (.any _)
      · cases hx
    · refine (h.boxes.cell i cs hi).same (fun x v hr => hr.ext h.good hE) (fun b hb => ?_) fun h0 b hb => ?_
      · have hbs := h.good.lt b (by rw [hb]; simp)
        exact ⟨by rw [hE.stat b hbs]; exact hb, hE.keep b hbs⟩
      · rcases hbx b i hb with ⟨_, e⟩ | h1
        · exact hiN e
        · exact h0 b h1
  · rw [put_boxes]
    rcases hbx b i hb with ⟨_, rfl⟩ | h1
    · exact hNl
    · exact h.blt b i h1

def lookA : List (Nat × Nat) → Nat → Option Nat
  | [], _ => none
  | (i, N) :: r, k => if i = k then some N else lookA r k
/-- a new variable, at the place that was kept for it -/
def AllocP (P : Program) (bx : List (List AV)) (o : Oper) (N : Nat) (y : AV) : Prop :=
  o.guard = none ∧ y = .pb N 0 ∧ ∃ T q z, o.op = .alloc T ∧ tinfo P T = some q ∧ q.2.2 = some z ∧ zeroOk q.1 z = true ∧ bx[N]? = some (List.replicate q.1 .any)

section
variable {P : Program} {ops : Array Oper} {m : Nat} {vs : List (Nat × AV)} {E : List Nat} {A : List (Nat × Nat)} {C : Nat → List AV} {i0 : Nat} {σ : St} {K : St → Prop} {G0 : Orig} {w0 : World} {Q : Exit → Act → World → Prop}

theorem head_runP {LF : List Nat} {tr : Tr} {sg : Option (Nat × Tr)} (hp : PlanL ops m E LF tr sg) (hE : PlanE ops m E) (h0 : True) (hN : ∀ e a w, e ≠ .normal → ¬ Q e a w) (hQ : ∀ σ' G' a' w', K σ' → SRel G0 w0 σ' G' a' w' → Q .normal a' w') (hvl : vs.length = m) (hap : Apart vs) (hC : ∀ j, (C j).length = (C 0).length)
    (hK : treeA P ops tr (puts { σ with boxes := σ.boxes.set i0 (C E.length) } vs) K) (hK2 : sgA P ops sg (puts { σ with boxes := σ.boxes.set i0 (C E.length) } vs) K)
    (hst : ∀ i o, i < m → ops[i]? = some o → ∃ d y, vs[i]? = some (d, y) ∧ o.dst = some d ∧ d < σ.n ∧
      if i ∈ E then EffC P σ i0 o d (puts σ (vs.take i)).ev (C (E.filter fun e => decide (e < i)).length) y (C ((E.filter fun e => decide (e < i)).length + 1)) else if i ∈ LF then FrontC P o (puts σ (vs.take i)).ev y else match lookA A i with | some N => AllocP P σ.boxes o N y | none => StepG P ops o d (puts σ (vs.take i)) (σ.boxes.set i0 (blankC E (C 0))) y)
    (hA : ∀ i N, i < m → lookA A i = some N → N ≠ i0 ∧ G0.gh N = none ∧ (∀ b, b < w0.heap.size → G0 b ≠ .box N) ∧ (∀ j d y, j ≠ i → vs[j]? = some (d, y) → y.allLeaf (noPb N) = true) ∧ ∀ j, allLeafs (noPb N) (C j) = true)
    (hfr : ∀ i o d, ops[i]? = some o → i < m → o.dst = some d → creates o.op = true → (∀ j d' y, j ≠ i → vs[j]? = some (d', y) → y.allLeaf (freeLeaf d) = true ∨ reach ops j j i = true) ∧ ∀ j, allLeafs (freeLeaf d) (C j) = true) :
    ∀ (fuel : Nat) (listed : Array Bool) (U : List Nat) (τ : St) (G : Nat → Status) (a : Act) (w : World), Left ops listed U → U.length = fuel → (∀ i, m ≤ i → listed.getD i false = false) →
      Closed ops (fun k => listed.getD k false) → AtE vs E C i0 (fun i => listed.getD i false) σ τ → SRel G0 w0 τ G a w →
      (∀ i o d, ops[i]? = some o → i < m → o.dst = some d → creates o.op = true → listed.getD i false = false → τ.free d = true) →
      (∀ i N, i < m → lookA A i = some N → i ∉ E → i ∉ LF → listed.getD i false = false → noPbT N τ.tmps = true ∧ noPbB N τ.boxes = true) → wpAny P .any ops Q fuel listed a w := by
  have posAll : ∀ {L : Nat → Bool}, (∀ i, i < m → L i = true) → posE E L = E.length := fun {L} h => by
    unfold posE
    rw [List.filter_eq_self.2 fun e he => h e (hE.lt e he)]
  have done : ∀ {τ G a w} {L : Nat → Bool}, AtE vs E C i0 L σ τ → (∀ i, i < m → L i = true) → SRel G0 w0 τ G a w → SRel G0 w0 (puts { σ with boxes := σ.boxes.set i0 (C E.length) } vs) G a w := by
    intro τ G a w L hat hall h
    have hpa := puts_at m vs { σ with boxes := σ.boxes.set i0 (C E.length) } hap
    rw [List.take_of_length_le (by omega)] at hpa
    refine h.slotsEq (by rw [hpa.n, hat.n]) (by rw [hpa.boxes, hat.boxes, posAll hall]) fun s => ?_
    by_cases hs : ∀ (i d : Nat) (y : AV), vs[i]? = some (d, y) → d ≠ s
    · rw [hpa.rest s hs, hat.rest s hs]; rfl
    · have : ∃ (i : Nat) (y : AV), vs[i]? = some (s, y) := by
        apply Classical.byContradiction
        intro hcon
        exact hs fun i d y hi hds => hcon ⟨i, y, by rw [← hds]; exact hi⟩
      obtain ⟨i, y, hi⟩ := this
      have hil : i < m := by rw [← hvl]; exact (List.getElem?_eq_some_iff.1 hi).1
      rw [hpa.dst i s y hi, hat.dst i s y hi]
      simp [hil, hall i hil]
  have done2 : ∀ {τ G a w} {L : Nat → Bool} {x dx : Nat} {yx : AV}, AtE vs E C i0 L σ τ → x ∉ E → vs[x]? = some (dx, yx) → (∀ i, i < m → i ≠ x → L i = true) → SRel G0 w0 τ G a w → SRel G0 w0 ((puts { σ with boxes := σ.boxes.set i0 (C E.length) } vs).put (some dx) .any) G a w := by
    intro τ G a w L x dx yx hat hxE hx hall h
    have hpa := puts_at m vs { σ with boxes := σ.boxes.set i0 (C E.length) } hap
    rw [List.take_of_length_le (by omega)] at hpa
    have hpos : posE E L = E.length := by
      unfold posE
      rw [List.filter_eq_self.2 fun e he => hall e (hE.lt e he) fun h' => hxE (h' ▸ he)]
    have h2 := h.reput (d := dx) (x := .any) (.froz (.any _))
    refine h2.slotsEq (by rw [put_n, put_n, hpa.n, hat.n]) (by rw [put_boxes, put_boxes, hpa.boxes, hat.boxes, hpos]) fun s => ?_
    rw [get_put, get_put]
    by_cases hds : dx = s
    · rw [if_pos hds, if_pos hds]
    rw [if_neg hds, if_neg hds]
    by_cases hs : ∀ (i d : Nat) (y : AV), vs[i]? = some (d, y) → d ≠ s
    · rw [hpa.rest s hs, hat.rest s hs]; rfl
    · have : ∃ (i : Nat) (y : AV), vs[i]? = some (s, y) := by
        apply Classical.byContradiction
        intro hcon
        exact hs fun i d y hi hds => hcon ⟨i, y, by rw [← hds]; exact hi⟩
      obtain ⟨i, y, hi⟩ := this
      have hil : i < m := by rw [← hvl]; exact (List.getElem?_eq_some_iff.1 hi).1
      have hix : i ≠ x := fun h' => by subst h'; rw [hx] at hi; cases hi; exact hds rfl
      rw [hpa.dst i s y hi, hat.dst i s y hi]
      simp [hil, hall i hil hix]
  intro fuel
  induction fuel with
  | zero =>
    intro listed U τ G a w hl hU hm hc hat h _ _
    have hUn : U = [] := List.eq_nil_of_length_eq_zero hU
    subst hUn
    have hall : ∀ i, i < ops.size → listed.getD i false = true := fun i hi => by
      cases hb : listed.getD i false
      · have := (hl.mem i).2 ⟨hi, hb⟩; simp at this
      · rfl
    have hms : m = ops.size := by
      apply Classical.byContradiction
      intro hne
      have := hp.le
      have h1 := hall m (by omega)
      rw [hm m (Nat.le_refl m)] at h1; cases h1
    exact (tree_run (P := P) h0 hp.lt hN hQ tr true (List.range m) listed [] _ G a w hp.tr hl hc (fun i hi => by rw [hall i hi]; simp; omega) hK (done hat (fun i hi => hall i (by have := hp.le; omega)) h)).1 rfl
  | succ fuel ih =>
    intro listed U τ G a w hl hU hm hc hat h hfree hph
    have hUn : U ≠ [] := by intro h; rw [h] at hU; simp at hU
    by_cases hdone : ∀ i, i < m → listed.getD i false = true
    · have := (tree_run (P := P) h0 hp.lt hN hQ tr true (List.range m) listed U _ G a w hp.tr hl hc (fun i hi => by
        simp only [List.contains_iff_mem, List.mem_range]
        refine ⟨fun hb => ?_, fun hlt => hdone i hlt⟩
        apply Classical.byContradiction
        intro hge
        rw [hm i (by omega)] at hb; cases hb) hK (done hat hdone h)).1 rfl
      rw [hU] at this; exact this
    by_cases hsg : ∃ x t, sg = some (x, t) ∧ ∀ i, i < m → i ≠ x → listed.getD i false = true
    · obtain ⟨x, t, rfl, hall⟩ := hsg
      obtain ⟨hxm, hxE, hxL, _, ht⟩ := hp.sg x t rfl
      obtain ⟨o, ho⟩ : ∃ p, ops[x]? = some p := ⟨ops[x]'(by have := hp.le; omega), by have := hp.le; simp [show x < ops.size by omega]⟩
      obtain ⟨dx, yx, hv, hd, _, _⟩ := hst x o hxm ho
      have hxf : listed.getD x false = false := by
        cases hb : listed.getD x false
        · rfl
        · exact absurd (fun i hi => by by_cases hix : i = x; · rw [hix]; exact hb
                                       · exact hall i hi hix) hdone
      simp only [sgA, ho] at hK2
      obtain ⟨d', hd', hK2⟩ := hK2
      rw [hd] at hd'; cases hd'
      have := (tree_run (P := P) h0 hp.lt hN hQ t true _ listed U _ G a w ht hl hc (fun i hi => by
        simp only [List.contains_iff_mem, List.mem_filter, List.mem_range, Bool.not_eq_true', beq_eq_false_iff_ne, ne_eq]
        refine ⟨fun hb => ⟨?_, fun hix => by rw [hix, hxf] at hb; cases hb⟩, fun ⟨h1, h2⟩ => hall i h1 h2⟩
        apply Classical.byContradiction
        intro hge
        rw [hm i (by omega)] at hb; cases hb) hK2 (done2 hat hxE hv hall h)).1 rfl
      rw [hU] at this; exact this
    · suffices key : ∀ i, i ∈ Region.ready .any ops listed → i < m → (i ∈ LF → wpAny P .any ops Q (fuel + 1) listed a w) ∧ (i ∉ LF → Go.wpOp P ops Q i (wpAny P .any ops Q fuel (listed.setIfInBounds i true)) a w) by
        by_cases hLF : ∃ j, j ∈ LF ∧ j ∈ Region.ready .any ops listed
        · obtain ⟨j, h1, h2⟩ := hLF
          exact (key j h2 (hp.fr j h1).1).1 h1
        · refine ⟨fun hr => absurd hr (some_ready hl hp.lt hUn), fun i hi => (key i hi ?_).2 fun hiL => hLF ⟨i, hiL, hi⟩⟩
          obtain ⟨o, ho, h1, h2⟩ := (ready_iff hl.size).1 hi
          apply Classical.byContradiction
          intro hge
          have hall : ∀ j, j < m → sgIs sg j = false → listed.getD j false = true := fun j => by
            refine Nat.strongRecOn (motive := fun j => j < m → sgIs sg j = false → listed.getD j false = true) j ?_
            intro j ihj hjm hjs
            by_cases hjL : j ∈ LF
            · obtain ⟨p, hpj⟩ : ∃ p, ops[j]? = some p := ⟨ops[j]'(by have := hp.le; omega), by have := hp.le; simp [show j < ops.size by omega]⟩
              cases hb : listed.getD j false
              · exact absurd ⟨j, hjL, (ready_iff hl.size).2 ⟨p, hpj, hb, fun k hk => by
                  have := hp.lt j p hpj k hk
                  refine ihj k this (by omega) ?_
                  cases hsg' : sg with
                  | none => rfl
                  | some q =>
                    obtain ⟨x, t⟩ := q
                    have := (hp.sg x t hsg').2.2.2.1 j hjL p hpj
                    simp only [sgIs, beq_eq_false_iff_ne, ne_eq]
                    exact fun hkx => this (hkx ▸ hk)⟩⟩ hLF
              · rfl
            · exact reach_listed hc ops.size i j o ho h2 (hp.tail i o ho (by omega) j hjm hjL hjs)
          cases hsg' : sg with
          | none => exact hdone fun j hj => hall j hj (by rw [hsg']; rfl)
          | some q =>
            obtain ⟨x, t⟩ := q
            exact hsg ⟨x, t, hsg', fun j hj hjx => hall j hj (by rw [hsg']; simpa [sgIs] using hjx)⟩
      intro i hi him
      obtain ⟨o, ho, h1, h2⟩ := (ready_iff hl.size).1 hi
      have hlt := (Array.getElem?_eq_some_iff.1 ho).1
      obtain ⟨d, y, hv, hd, hdn, hstep⟩ := hst i o him ho
      obtain ⟨d', hd', hself, hpair⟩ := hp.head i o ho him
      rw [hd] at hd'; cases hd'
      have hmem : i ∈ U := (hl.mem i).2 ⟨hlt, h1⟩
      obtain ⟨l1, l2⟩ := hl.step hmem
      have hsz : i < listed.size := by rw [hl.size]; exact hlt
      have hsame : ∀ s ∈ slotsG ops o, (puts σ (vs.take i)).get s = τ.get s := by
        intro s hsm
        have hpa := puts_at i vs σ hap
        by_cases hs : ∀ (i d : Nat) (y : AV), vs[i]? = some (d, y) → d ≠ s
        · rw [hpa.rest s hs, hat.rest s hs]
        · have : ∃ (j : Nat) (y : AV), vs[j]? = some (s, y) := by
            apply Classical.byContradiction
            intro hcon
            exact hs fun i d y hi hds => hcon ⟨i, y, by rw [← hds]; exact hi⟩
          obtain ⟨j, y', hj⟩ := this
          have hjl : j < m := by rw [← hvl]; exact (List.getElem?_eq_some_iff.1 hj).1
          obtain ⟨p, hpj⟩ : ∃ p, ops[j]? = some p := ⟨ops[j]'(by have := hp.le; omega), by have := hp.le; simp [show j < ops.size by omega]⟩
          obtain ⟨d'', y'', hv'', hds'', _⟩ := hst j p hjl hpj
          rw [hj] at hv''; cases hv''
          have hji : j ≠ i := fun hji => by subst hji; rw [hv] at hj; cases hj; exact hself hsm
          have hre := (hpair j p s hjl hji hpj hds'').2 hsm
          rw [hpa.dst j s y' hj, hat.dst j s y' hj]
          by_cases hjlt : j < i
          · rw [if_pos hjlt] at hre
            have := reach_listed hc ops.size i j o ho h2 hre
            simp [hjlt, this]
          · rw [if_neg hjlt] at hre
            have hjf : listed.getD j false = false := by
              cases hb : listed.getD j false
              · rfl
              · have := reach_listed hc ops.size j i p hpj (fun k hk => hc j p hpj hb k hk) hre
                rw [h1] at this; cases this
            simp [hjlt, hjf]
      have hevs : ∀ x ∈ o.op.operands, (puts σ (vs.take i)).ev x = τ.ev x := by
        intro x hx
        cases x with
        | tmp s =>
          simp only [St.ev]
          refine hsame s (List.mem_append.2 (.inr ?_))
          unfold slotsOf
          exact List.mem_filterMap.2 ⟨.tmp s, by simpa using hx, rfl⟩
        | const v => rfl
        | func f => rfl
        | global g => rfl
      -- the frame behind the step
      have hLi : (listed.setIfInBounds i true).getD i false = true := by rw [set_getD hsz]; simp
      have hLj : ∀ j, j ≠ i → (listed.setIfInBounds i true).getD j false = listed.getD j false := fun j hj => by rw [set_getD hsz, if_neg (Ne.symm hj)]
      have hpos := posE_step (L := fun k => listed.getD k false) (L' := fun k => (listed.setIfInBounds i true).getD k false) hE.nodup hLj h1 hLi
      have hgo : ∀ {τ' G' a' w'}, τ'.n = τ.n → τ'.tmps = putT τ.tmps d y → τ'.boxes = σ.boxes.set i0 (C (posE E fun k => (listed.setIfInBounds i true).getD k false)) → SRel G0 w0 τ' G' a' w' → wpAny P .any ops Q fuel (listed.setIfInBounds i true) a' w' := by
        intro τ' G' a' w' e1 e2 e3 hs'
        have hget : ∀ s, τ'.get s = if d = s then y else τ.get s := fun s => by unfold St.get; rw [e2, lookT_put]
        refine ih _ _ τ' G' _ _ l1 (by omega) (fun j hj => ?_) (hc.step hsz ho h2) ⟨by rw [e1, hat.n], e3, fun j d' y' hj => ?_, fun s hs => ?_⟩ hs' (fun j oj dj hoj hjm hdj hcr hjf => ?_) (fun j N hjm hjA hjE hjL hjf => ?_)
        · rw [set_getD hsz, if_neg (by omega)]; exact hm j hj
        · rw [hget]
          by_cases hij : j = i
          · subst hij; rw [hv] at hj; cases hj; simp [hLi]
          · rw [if_neg (hap i j d y d' y' hv hj (Ne.symm hij)), hat.dst j d' y' hj, hLj j hij]
        · rw [hget, if_neg (hs i d y hv), hat.rest s hs]
        · by_cases hij : j = i
          · subst hij; rw [hLi] at hjf; cases hjf
          · rw [hLj j hij] at hjf
            have hf := hfree j oj dj hoj hjm hdj hcr hjf
            obtain ⟨f1, f2⟩ := hfr j oj dj hoj hjm hdj hcr
            have f1 : y.allLeaf (freeLeaf dj) = true := (f1 i d y (Ne.symm hij) hv).elim id fun f1 => by
              have := reach_listed hc i i j o ho h2 f1
              rw [hjf] at this; cases this
            simp only [St.free, Bool.and_eq_true, decide_eq_true_eq] at hf ⊢
            refine ⟨hf.1, by rw [e2]; exact freeT_put f1 hf.2.1, ?_⟩
            rw [e3]
            have hfb := hf.2.2
            rw [hat.boxes] at hfb
            have hset : ∀ (bx : List (List AV)) (k : Nat) (c c' : List AV), freeB dj (bx.set k c) = true → allLeafs (freeLeaf dj) c' = true → freeB dj (bx.set k c') = true := by
              intro bx
              induction bx with
              | nil => intro k c c' _ _; rfl
              | cons b bx ihb =>
                intro k c c' h1 h2
                cases k with
                | zero => simp only [List.set_cons_zero, freeB, Bool.and_eq_true] at h1 ⊢; exact ⟨h2, h1.2⟩
                | succ k => simp only [List.set_cons_succ, freeB, Bool.and_eq_true] at h1 ⊢; exact ⟨h1.1, ihb k c c' h1.2 h2⟩
            exact hset _ _ _ _ hfb (f2 _)
        · by_cases hij : j = i
          · subst hij; rw [hLi] at hjf; cases hjf
          · rw [hLj j hij] at hjf
            obtain ⟨q1, q2⟩ := hph j N hjm hjA hjE hjL hjf
            obtain ⟨_, _, _, f1, f2⟩ := hA j N hjm hjA
            refine ⟨by rw [e2]; exact noPbT_put (f1 i d y (Ne.symm hij) hv) q1, ?_⟩
            rw [e3]
            rw [hat.boxes] at q2
            have := noPbB_set _ i0 _ q2 (f2 (posE E fun k => (listed.setIfInBounds i true).getD k false))
            rw [List.set_set] at this
            exact this
      refine ⟨fun hiL => ?_, fun hnL => ?_⟩
      · obtain ⟨_, hiE, hfr'⟩ := hp.fr i hiL
        obtain ⟨d', hfront⟩ := hfr' o ho
        obtain rfl : d = d' := by have := hfront.dst; rw [hd] at this; simpa using this
        rw [if_neg hiE, if_pos hiL] at hstep
        rw [if_neg hiE, Nat.add_zero] at hpos
        obtain ⟨v, hv', hex⟩ := hstep G a w h.good (fun x hx => by rw [hevs x hx]; exact h.ev x)
        have hs' := h.add (.refl G w) h.good (fun _ _ h => h) (d := some d) (x := y) (v := v) (by simp [dstOk, hat.n, hdn]) hv'
        exact front_run hN hfront fuel listed a w v hl.size hc hi hex (hgo (τ' := τ.put (some d) y) rfl rfl (by rw [put_boxes, hat.boxes, hpos]) hs')
      by_cases hiE : i ∈ E
      case neg =>
        rw [if_neg hiE, if_neg hnL] at hstep
        rw [if_neg hiE, Nat.add_zero] at hpos
        cases hlA : lookA A i with
        | some N =>
          rw [hlA] at hstep
          obtain ⟨hgd, rfl, T, q, z, hop, hq, hz, hzo, hbN⟩ := hstep
          obtain ⟨a1, a2, a3, _, _⟩ := hA i N him hlA
          obtain ⟨p1, p2⟩ := hph i N him hlA hiE hnL h1
          have hbN' : τ.boxes[N]? = some (List.replicate q.1 .any) := by rw [hat.boxes, List.getElem?_set_ne (Ne.symm a1)]; exact hbN
          obtain ⟨hu, hun⟩ := h.unbox a2 a3 p1 p2 hbN'
          simp only [zeroOk, Bool.and_eq_true, decide_eq_true_eq] at hzo
          obtain ⟨_, hone⟩ := ofConst_cells (S := fun _ => False) (w := w) z hzo.2
          have hr := hu.realize (d := d) (z := z) (T := T) a2 hun (by rw [hzo.1]; exact hbN') hone (by rw [hat.n]; exact hdn)
          obtain ⟨sz, by_, zz⟩ := q
          simp only at hz
          subst hz
          obtain ⟨ti, hti, _, _, hzz⟩ := tinfo_some hq
          have hrun : (execOp a.eval o).run P w = .ok (.value (.pointer (some ⟨w.heap.size, 0, none⟩))) (w.alloc (.cells z.cells T)) := by
            simp [execOp, hop, Instr.alloc, newVar, newRow, zeroValue, typeInfo, hti, hzz]
          simp only [Go.wpOp, ho]
          rw [if_pos (by simp [Region.wanted, hgd])]
          refine .inl ?_
          simp only [Oper.wp, hrun, Oper.upon, hd]
          exact hgo (τ' := τ.put (some d) (.pb N 0)) rfl rfl (by rw [put_boxes, hat.boxes, hpos]) hr
        | none =>
        rw [hlA] at hstep
        have hops : ∀ x ∈ o.op.operands, ∀ {G}, SRel G0 w0 τ G a w → VRel G w ((puts σ (vs.take i)).ev x) (a.eval x) := fun x hx G h => by rw [hevs x hx]; exact h.ev x
        have hgo2 : ∀ {G' a' w'}, SRel G0 w0 (τ.put (some d) y) G' a' w' → wpAny P .any ops Q fuel (listed.setIfInBounds i true) a' w' := fun hs' =>
          hgo (τ' := τ.put (some d) y) rfl rfl (by rw [put_boxes, hat.boxes, hpos]) hs'
        have hrun : StepOk P o d (puts σ (vs.take i)).ev (σ.boxes.set i0 (blankC E (C 0))) y → o.wp P a w (wpAny P .any ops Q fuel (listed.setIfInBounds i true)) Q := by
          intro hstep
          have key : ∀ {G}, SRel G0 w0 τ G a w → (creates o.op = true → Fresh d G) → o.wp P a w (wpAny P .any ops Q fuel (listed.setIfInBounds i true)) Q := fun {G} h hfr' =>
            hstep _ G a w h.good ((show BRel _ G w (σ.boxes.set i0 (C (posE E fun k => listed.getD k false))) from by rw [← hat.boxes]; exact h.boxes).blank (hC _) fun hE0 => by rw [hE0]; rfl) hfr' (fun x hx => hops x hx h) _ _ fun v w' G' g1 g2 g3 g4 =>
              hgo2 (by rw [hd]; exact h.add g2 g3 g4.boxes (by simp [dstOk, hat.n, hdn]) g1)
          by_cases hcr : creates o.op = true
          · obtain ⟨hs, hf⟩ := h.fresh (hfree i o d ho him hd hcr h1) h0
            exact key hs fun _ => hf
          · exact key h fun hc' => absurd hc' hcr
        simp only [Go.wpOp, ho]
        rcases hstep with ⟨hg, hstep⟩ | ⟨j, want, g, c, hg, hgs, hgv, hc2⟩ | ⟨j, want, g, vs', hg, hgs, hgv, rfl⟩
        · rw [if_pos (by simp [Region.wanted, hg])]
          exact .inl (hrun hstep)
        · have hgm : g ∈ slotsG ops o := by simp [slotsG, guardS, hg, hgs]
          have hv2 := h.slots g
          rw [← hsame g hgm, hgv] at hv2
          have hy := yielded_bool hgs hv2.sc_inv
          rcases hc2 with ⟨rfl, hstep⟩ | ⟨hne, rfl⟩
          · rw [if_pos (by simp [Region.wanted, hg, hy])]
            exact .inl (hrun hstep)
          · rw [if_neg (by simp [Region.wanted, hg, hy, hne])]
            have hs' := h.add (.refl G w) h.good (fun _ _ h => h) (d := o.dst) (x := .sc undef) (v := undef) (by rw [hd]; simp [dstOk, hat.n, hdn]) (.froz (.sc _))
            exact hgo2 (G' := G) (by rw [hd] at hs' ⊢; exact hs')
        · have hgm : g ∈ slotsG ops o := by simp [slotsG, guardS, hg, hgs]
          have hv2 := h.slots g
          rw [← hsame g hgm, hgv] at hv2
          have hy := yielded_none hgs hv2.sc_inv
          rw [if_neg (by simp [Region.wanted, hg, hy])]
          have hs' := h.add (.refl G w) h.good (fun _ _ h => h) (d := o.dst) (x := .sc undef) (v := undef) (by rw [hd]; simp [dstOk, hat.n, hdn]) (.froz (.sc _))
          exact hgo2 (G' := G) (by rw [hd] at hs' ⊢; exact hs')
      case pos =>
        rw [if_pos hiE] at hstep
        rw [if_pos hiE] at hpos
        obtain ⟨hg, fid, args, As, r, c1, hop, hpb, hnt, hnt0, hcon, hr1, hr2, hye, hce⟩ := hstep
        -- all effects ahead of it are listed, none behind it is
        have hposi : posE E (fun k => listed.getD k false) = (E.filter fun e => decide (e < i)).length := by
          unfold posE
          congr 1
          refine List.filter_congr fun e he => ?_
          rcases Nat.lt_trichotomy e i with hlt' | heq | hgt
          · have := reach_listed hc ops.size i e o ho h2 (hE.chain e he i hiE hlt')
            simp [hlt', this]
          · subst heq; simp [h1]
          · have hnl : listed.getD e false = false := by
              cases hb : listed.getD e false
              · rfl
              · have hel := hE.lt e he
                obtain ⟨p, hpe⟩ : ∃ p, ops[e]? = some p := ⟨ops[e]'(by have := hp.le; omega), by have := hp.le; simp [show e < ops.size by omega]⟩
                have := reach_listed hc ops.size e i p hpe (fun k hk => hc e p hpe hb k hk) (hE.chain i hiE e he hgt)
                rw [h1] at this; cases this
            simp [hnl]; omega
        have hargs : args.toList.map (puts σ (vs.take i)).ev = args.toList.map τ.ev := by
          refine List.map_congr_left fun x hx => hevs x ?_
          simp [hop, Op.operands, Call.operands]
          exact .inr (by simpa using hx)
        rw [hargs] at hpb hnt hcon
        have hcr : creates o.op = true := by simp [creates, hop]
        have hfd := hfree i o d ho him hd hcr h1
        -- the variable is there
        have hva : ∀ G, SRel G0 w0 τ G a w → PW (VRel G w) (args.toList.map τ.ev) (args.map a.eval).toList := fun G hs => by
          rw [Array.toList_map]
          refine ⟨by simp, fun j x u hx hu => ?_⟩
          simp only [List.getElem?_map] at hx hu
          cases hj : args.toList[j]? with
          | none => simp [hj] at hx
          | some c => simp [hj] at hx hu; subst hx; subst hu; exact hs.ev c
        have hi0 : i0 < σ.boxes.length := by
          obtain ⟨b, hb⟩ := pbss_real (i := i0) _ _ (hva G h) (dedup_mem _ (by rw [hpb]; simp))
          have := h.blt b i0 hb
          rw [hat.boxes] at this; simpa using this
        have hbx : getAll τ.boxes [i0] = some [C (posE E fun k => listed.getD k false)] := by
          simp only [getAll, hat.boxes, List.getElem?_set, if_true, hi0]
        have hlen : τ.boxes.length = σ.boxes.length := by rw [hat.boxes]; simp
        rw [← hposi] at hcon hnt0 hce
        have hcall : CallB P fid (args.toList.map τ.ev) [i0] d τ fun σ' => σ'.n = τ.n ∧ σ'.tmps = putT τ.tmps d y ∧ σ'.boxes = σ.boxes.set i0 (C (posE E (fun k => listed.getD k false) + 1)) := by
          refine ⟨hfd, by rw [hat.n]; exact hdn, hnt, rfl, _, hbx, hnt0, hcon.mono ?_⟩
          rintro r' bx ⟨rfl, rfl⟩
          refine ⟨hr1, hr2, rfl, by rw [hlen, ← hye]; rfl, ?_⟩
          rw [put_boxes]
          have hce' : mapB (outLeaf (64 * (d + 1)) [i0] σ.boxes.length) [c1] = [C (posE E (fun k => listed.getD k false) + 1)] := hce.symm
          simp only [List.length_singleton, List.take_succ_cons, List.take_zero, List.drop_succ_cons, List.drop_nil, hlen, hce', mapB, setAll, List.append_nil]
          rw [hat.boxes, List.set_set]
        obtain ⟨⟨fn, hfn, hname, hbody⟩, hcalls⟩ := CallB.sound hcall h h0 hva (fun G hs j hj => by
          simp at hj; subst hj
          exact pbss_real _ _ (hva G hs) (dedup_mem _ (by rw [hpb]; simp)))
        have hrun : (execOp a.eval o).run P w = .ok (.enter fid (args.map a.eval)) w := by
          have hname' : ¬ fn.name = "runtime.NumGoroutine" := by simpa using hname
          have hbody' : ¬ fn.body = none := by intro h; rw [h] at hbody; simp at hbody
          have hfe : a.eval (.func fid) = .func (.func fid) #[] #[] := rfl
          simp [execOp, hop, resolve, hfe, Deferred.ofValue, invoke, callFunc, hfn, hname', hbody']
        simp only [Go.wpOp, ho]
        rw [if_pos (by simp [Region.wanted, hg])]
        refine .inl ?_
        unfold Oper.wp
        rw [hrun, Oper.upon_enter]
        refine hcalls.mono ?_
        rintro e w' ⟨v, σ', G', rfl, ⟨e1, e2, e3⟩, hs'⟩
        exact hgo e1 e2 (by rw [e3, hpos]) (by rw [hd]; exact hs')
end

/-- no pointers to variables, no closures -/
def noVar : AV → Bool
  | .pb _ _ => false
  | .cl _ _ => false
  | _ => true
theorem noVar_noPb {N : Nat} : ∀ x : AV, noVar x = true → noPb N x = true := fun x h => by cases x <;> simp_all [noVar, noPb]
/-- a new variable, as the walk meets it -/
def AllocK (P : Program) (o : Oper) (N : Nat) (σ : St) (K : St → Prop) : Prop :=
  ∃ d, o.dst = some d ∧ d < σ.n ∧ AllocP P σ.boxes o N (.pb N 0) ∧ K (σ.put (some d) (.pb N 0))
def headF (P : Program) (ops : Array Oper) (n0 i0 : Nat) (E LF : List Nat) (A : List (Nat × Nat)) : Nat → List Oper → St → List AV → (St → List AV → Prop) → Prop
  | _, [], σ, c, K => K σ c
  | k, o :: r, σ, c, K => if E.contains k = true then EffK P n0 i0 o σ c fun σ' c' => allLeafs noVar c' = true ∧ headF P ops n0 i0 E LF A (k + 1) r σ' c' K else if LF.contains k = true then frB P o σ fun σ' => headF P ops n0 i0 E LF A (k + 1) r σ' c K else match lookA A k with
    | some N => AllocK P o N σ fun σ' => headF P ops n0 i0 E LF A (k + 1) r σ' c K
    | none => headG P ops o σ fun σ' => headF P ops n0 i0 E LF A (k + 1) r σ' c K

section
variable {P : Program} {ops : Array Oper} {n0 i0 : Nat} {E LF : List Nat} {A : List (Nat × Nat)}

theorem headF_vals (hn : E.Nodup) : ∀ (l : List Oper) (k : Nat) (σ : St) (c : List AV) (K : St → List AV → Prop), headF P ops n0 i0 E LF A k l σ c K → allLeafs noTag c = true → allLeafs noVar c = true → ∃ (vs : List (Nat × AV)) (C : Nat → List AV), vs.length = l.length ∧ (∀ j, j ≤ cntE E k → C j = c) ∧ (∀ j, (C j).length = c.length ∧ allLeafs noTag (C j) = true ∧ allLeafs noVar (C j) = true) ∧ K (puts σ vs) (C (cntE E (k + l.length))) ∧
    ∀ i o, l[i]? = some o → ∃ d y, vs[i]? = some (d, y) ∧ o.dst = some d ∧ d < σ.n ∧
      if k + i ∈ E then EffC P ⟨0, [], List.replicate n0 []⟩ i0 o d (puts σ (vs.take i)).ev (C (cntE E (k + i))) y (C (cntE E (k + i) + 1)) else if k + i ∈ LF then FrontC P o (puts σ (vs.take i)).ev y else match lookA A (k + i) with | some N => AllocP P σ.boxes o N y | none => StepG P ops o d (puts σ (vs.take i)) σ.boxes y
  | [], k, σ, c, K, h, hc, hn0 => ⟨[], fun _ => c, rfl, fun _ _ => rfl, fun _ => ⟨rfl, hc, hn0⟩, h, fun i o hi => by simp at hi⟩
  | o :: l, k, σ, c, K, h, hc, hn0 => by
    unfold headF at h
    have hcs := cntE_succ hn k
    by_cases hk : k ∈ E
    · rw [if_pos (by simpa using hk)] at h
      rw [if_pos hk] at hcs
      obtain ⟨d, y, c', h1, h2, h3, h4, h5, h7, h6⟩ := h
      obtain ⟨vs, C, g1, g2, g3, g4, g5⟩ := headF_vals hn l (k + 1) _ c' K h6 h5 h7
      refine ⟨(d, y) :: vs, fun j => if j ≤ cntE E k then c else C j, by simp [g1], fun j hj => if_pos hj, fun j => ?_, ?_, fun i o' hi => ?_⟩
      · simp only
        split
        · exact ⟨rfl, hc, hn0⟩
        · exact ⟨(g3 j).1.trans h4, (g3 j).2⟩
      · simp only [puts, List.length_cons]
        rw [show k + (l.length + 1) = k + 1 + l.length by omega]
        have : ¬ cntE E (k + 1 + l.length) ≤ cntE E k := by
          have : ∀ t, cntE E (k + 1) ≤ cntE E (k + 1 + t) := fun t => by
            induction t with
            | zero => exact Nat.le_refl _
            | succ t ih => have := cntE_succ hn (k + 1 + t); rw [show k + 1 + (t + 1) = k + 1 + t + 1 by omega]; omega
          have := this l.length; omega
        rw [if_neg this]; exact g4
      · cases i with
        | zero =>
          simp at hi; subst hi
          refine ⟨d, y, rfl, h1, h2, ?_⟩
          rw [Nat.add_zero, if_pos hk]
          dsimp only
          rw [if_pos (Nat.le_refl _), if_neg (by omega), ← hcs, g2 _ (Nat.le_refl _)]
          exact h3
        | succ i =>
          obtain ⟨d', y', k1, k2, k3, k4⟩ := g5 i o' (by simpa using hi)
          rw [put_n] at k3
          refine ⟨d', y', by simpa using k1, k2, k3, ?_⟩
          rw [show k + (i + 1) = k + 1 + i by omega]
          have hge : ∀ t, cntE E (k + 1) ≤ cntE E (k + 1 + t) := fun t => by
            induction t with
            | zero => exact Nat.le_refl _
            | succ t ih => have := cntE_succ hn (k + 1 + t); rw [show k + 1 + (t + 1) = k + 1 + t + 1 by omega]; omega
          have := hge i
          dsimp only
          rw [if_neg (show ¬ cntE E (k + 1 + i) ≤ cntE E k by omega), if_neg (show ¬ cntE E (k + 1 + i) + 1 ≤ cntE E k by omega)]
          rw [put_boxes] at k4
          exact k4
    · rw [if_neg (by simpa using hk)] at h
      rw [if_neg hk, Nat.add_zero] at hcs
      obtain ⟨d, y, h1, h2, h3, h4⟩ : ∃ d y, o.dst = some d ∧ d < σ.n ∧ headF P ops n0 i0 E LF A (k + 1) l (σ.put (some d) y) c K ∧ if k ∈ LF then FrontC P o σ.ev y else match lookA A k with | some N => AllocP P σ.boxes o N y | none => StepG P ops o d σ σ.boxes y := by
        by_cases hkL : k ∈ LF
        · rw [if_pos (by simpa using hkL)] at h
          obtain ⟨d, y, h1, h2, h3, h4⟩ := frB_sound h
          exact ⟨d, y, h1, h2, h3, by rw [if_pos hkL]; exact h4⟩
        · rw [if_neg (by simpa using hkL)] at h
          cases hlA : lookA A k with
          | some N =>
            rw [hlA] at h
            obtain ⟨d, h1, h2, h4, h3⟩ := h
            exact ⟨d, _, h1, h2, h3, by rw [if_neg hkL]; exact h4⟩
          | none =>
            rw [hlA] at h
            obtain ⟨d, y, h1, h2, h3, h4⟩ := headG_sound h
            exact ⟨d, y, h1, h2, h3, by rw [if_neg hkL]; exact h4⟩
      obtain ⟨vs, C, g1, g2, g3, g4, g5⟩ := headF_vals hn l (k + 1) _ c K h3 hc hn0
      refine ⟨(d, y) :: vs, C, by simp [g1], fun j hj => g2 j (by omega), g3, ?_, fun i o' hi => ?_⟩
      · simp only [puts, List.length_cons]
        rw [show k + (l.length + 1) = k + 1 + l.length by omega]; exact g4
      · cases i with
        | zero =>
          simp at hi; subst hi
          refine ⟨d, y, rfl, h1, h2, ?_⟩
          rw [Nat.add_zero, if_neg hk]; exact h4
        | succ i =>
          obtain ⟨d', y', k1, k2, k3, k4⟩ := g5 i o' (by simpa using hi)
          rw [put_n] at k3
          rw [put_boxes] at k4
          refine ⟨d', y', by simpa using k1, k2, k3, ?_⟩
          rw [show k + (i + 1) = k + 1 + i by omega]; exact k4

/-- no other slot points to the variable at a kept place -/
def pbBut (N d : Nat) : List (Nat × AV) → Bool
  | [] => true
  | (s, v) :: r => (s == d || v.allLeaf (noPb N)) && pbBut N d r
theorem pbBut_look {N d : Nat} : ∀ {l : List (Nat × AV)}, pbBut N d l = true → ∀ s, s ≠ d → (lookT l s).allLeaf (noPb N) = true
  | [], _, _, _ => rfl
  | (s', v) :: r, h, s, hs => by
    simp only [pbBut, Bool.and_eq_true, Bool.or_eq_true, beq_iff_eq] at h
    unfold lookT
    split
    · rename_i he
      rcases h.1 with h1 | h1
      · exact absurd (he.symm.trans h1) (by intro e; exact hs e)
      · exact h1
    · exact pbBut_look h.2 s hs
/-- of all kept places: the slots of their variables -/
def keptOk (ops : Array Oper) (l : List (Nat × AV)) : List (Nat × Nat) → Bool
  | [] => true
  | (i, N) :: r => (match (ops[i]?).bind (·.dst) with
    | some d => pbBut N d l
    | none => false) && keptOk ops l r
/-- .. and ahead of the region nothing points to them -/
def keptFree (σ : St) : List (Nat × Nat) → Bool
  | [] => true
  | (_, N) :: r => (decide (σ.boxes.length ≤ N) && (noPbT N σ.tmps && noPbB N σ.boxes)) && keptFree σ r
theorem keptOk_mem {l : List (Nat × AV)} : ∀ {A : List (Nat × Nat)}, keptOk ops l A = true → ∀ i N, lookA A i = some N → ∃ d, (ops[i]?).bind (·.dst) = some d ∧ pbBut N d l = true
  | [], _, i, N, h => by simp [lookA] at h
  | (k, M) :: r, h, i, N, hi => by
    simp only [keptOk, Bool.and_eq_true] at h
    simp only [lookA] at hi
    split at hi
    · rename_i e; subst e; cases hi
      have h1 := h.1
      split at h1
      · rename_i d hd; exact ⟨d, hd, h1⟩
      · cases h1
    · exact keptOk_mem h.2 i N hi
theorem keptFree_mem {σ : St} : ∀ {A : List (Nat × Nat)}, keptFree σ A = true → ∀ i N, lookA A i = some N → σ.boxes.length ≤ N ∧ noPbT N σ.tmps = true ∧ noPbB N σ.boxes = true
  | [], _, i, N, h => by simp [lookA] at h
  | (k, M) :: r, h, i, N, hi => by
    simp only [keptFree, Bool.and_eq_true, decide_eq_true_eq] at h
    simp only [lookA] at hi
    split at hi
    · cases hi; exact h.1
    · exact keptFree_mem h.2 i N hi
def anyB (ph : List Nat) : List (List AV) := ph.map fun k => List.replicate k .any
theorem noPbB_any {N : Nat} : ∀ ph : List Nat, noPbB N (anyB ph) = true
  | [] => rfl
  | k :: r => by
    show (allLeafs (noPb N) (List.replicate k .any) && noPbB N (anyB r)) = true
    rw [noPbB_any r, Bool.and_true]
    induction k with
    | zero => rfl
    | succ k ih => rw [List.replicate_succ]; simp only [allLeafs, ih, Bool.and_true]; rfl
theorem noPbB_app {N : Nat} : ∀ (x y : List (List AV)), noPbB N (x ++ y) = (noPbB N x && noPbB N y)
  | [], y => by simp [noPbB]
  | c :: x, y => by rw [List.cons_append, noPbB, noPbB, noPbB_app x y, Bool.and_assoc]
/-- places kept -/
theorem SRel.kept {G0 w0 σ G a w} (h : SRel G0 w0 σ G a w) (ph : List Nat) : SRel G0 w0 { σ with boxes := σ.boxes ++ anyB ph } G a w :=
  { h with
    boxes := ⟨fun i vs hv => by have := h.boxes.low i vs hv; simp only [List.length_append]; omega, fun i cs hi => by
      simp only at hi
      by_cases hlt : i < σ.boxes.length
      · rw [List.getElem?_append_left hlt] at hi; exact h.boxes.cell i cs hi
      · rw [List.getElem?_append_right (by omega)] at hi
        refine .inr (.inr ⟨by cases hgh : G0.gh i with | none => rfl | some vs => have := h.boxes.low _ vs hgh; omega, fun b hb => by have := h.blt b i hb; omega, fun x hx v => ?_⟩)
        unfold anyB at hi
        rw [List.getElem?_map] at hi
        cases hp : ph[i - σ.boxes.length]? with
        | none => simp [hp] at hi
        | some k => simp [hp] at hi; subst hi; rw [(List.mem_replicate.1 hx).2]; exact .froz (.any _)⟩
    blt := fun b i hb => by have := h.blt b i hb; simp only [List.length_append]; omega }

theorem freeB_kept {d : Nat} : ∀ ph : List Nat, freeB d (anyB ph) = true
  | [] => rfl
  | k :: r => by
    show (allLeafs (freeLeaf d) (List.replicate k .any) && freeB d (anyB r)) = true
    rw [freeB_kept r, Bool.and_true]
    induction k with
    | zero => rfl
    | succ k ih => rw [List.replicate_succ]; simp only [allLeafs, ih, Bool.and_true]; rfl
theorem freeB_two {d : Nat} : ∀ (x y : List (List AV)), freeB d (x ++ y) = (freeB d x && freeB d y)
  | [], y => by simp [freeB]
  | c :: x, y => by rw [List.cons_append, freeB, freeB, freeB_two x y, Bool.and_assoc]
theorem freeAll_kept {σ : St} (ph : List Nat) : ∀ {ds : List Nat}, freeAll σ ds = true → freeAll { σ with boxes := σ.boxes ++ anyB ph } ds = true
  | [], _ => rfl
  | d :: r, h => by
    simp only [freeAll, Bool.and_eq_true] at h ⊢
    refine ⟨?_, freeAll_kept ph h.2⟩
    have h1 := h.1
    simp only [St.free, Bool.and_eq_true] at h1 ⊢
    exact ⟨h1.1, h1.2.1, by rw [freeB_two, h1.2.2, freeB_kept]; rfl⟩
def hasD (d s : Nat) : List (Nat × Nat) → Bool
  | [] => false
  | (a, b) :: r => (a == d && b == s) || hasD d s r
/-- no other slot bears these tags, but those that D names: they are filled later in every order -/
def freeButD (D : List (Nat × Nat)) (d : Nat) : List (Nat × AV) → Bool
  | [] => true
  | (s, v) :: r => (s == d || (hasD d s D || v.allLeaf (freeLeaf d))) && freeButD D d r
def freeOthersD (D : List (Nat × Nat)) (l : List (Nat × AV)) : List Nat → Bool
  | [] => true
  | d :: r => freeButD D d l && freeOthersD D l r
theorem freeButD_look {D : List (Nat × Nat)} {d : Nat} : ∀ {l : List (Nat × AV)}, freeButD D d l = true → ∀ s, s ≠ d → hasD d s D = true ∨ (lookT l s).allLeaf (freeLeaf d) = true
  | [], _, _, _ => .inr rfl
  | (s', v) :: r, h, s, hs => by
    simp only [freeButD, Bool.and_eq_true, Bool.or_eq_true, beq_iff_eq] at h
    unfold lookT
    split
    · rename_i he
      rcases h.1 with h1 | h1 | h1
      · exact absurd (he.symm.trans h1) (by intro e; exact hs e)
      · rw [← he]; exact .inl h1
      · exact .inr h1
    · exact freeButD_look h.2 s hs
theorem freeOthersD_mem {D : List (Nat × Nat)} {l : List (Nat × AV)} : ∀ {ds : List Nat}, freeOthersD D l ds = true → ∀ d ∈ ds, freeButD D d l = true
  | d' :: r, h, d, hd => by
    simp only [freeOthersD, Bool.and_eq_true] at h
    rcases List.mem_cons.1 hd with rfl | hd
    · exact h.1
    · exact freeOthersD_mem h.2 d hd
def lateP (ops : Array Oper) (m d s : Nat) : Bool := (List.range m).all fun i => match ops[i]? with
  | some o => (o.dst != some s) || (List.range m).all fun j => match ops[j]? with
    | some o' => (o'.dst != some d) || reach ops i i j
    | none => true
  | none => true
/-- for each pair (d, s) the slot s is filled after d in every order -/
def lateD (ops : Array Oper) (m : Nat) : List (Nat × Nat) → Bool
  | [] => true
  | (d, s) :: r => lateP ops m d s && lateD ops m r
theorem lateD_has {ops : Array Oper} {m d s : Nat} : ∀ {D : List (Nat × Nat)}, lateD ops m D = true → hasD d s D = true → lateP ops m d s = true
  | (a, b) :: r, h, hd => by
    simp only [lateD, Bool.and_eq_true] at h
    simp only [hasD, Bool.or_eq_true, Bool.and_eq_true, beq_iff_eq] at hd
    rcases hd with ⟨rfl, rfl⟩ | hd
    · exact h.1
    · exact lateD_has h.2 hd
theorem lateP_spec {ops : Array Oper} {m d s i j : Nat} {o o' : Oper} (h : lateP ops m d s = true) (hi : ops[i]? = some o) (him : i < m) (hd : o.dst = some s) (hj : ops[j]? = some o') (hjm : j < m) (hd' : o'.dst = some d) : reach ops i i j = true := by
  unfold lateP at h
  have h1 := List.all_eq_true.1 h i (List.mem_range.2 him)
  rw [hi] at h1
  simp only [hd, bne_self_eq_false, Bool.false_or] at h1
  have h2 := List.all_eq_true.1 h1 j (List.mem_range.2 hjm)
  rw [hj] at h2
  simpa only [hd', bne_self_eq_false, Bool.false_or] using h2
/-- A DRAWN REGION with effects and new variables: A: each one's operation, and the place kept for it behind the boxes; ph: the kept places' sizes. -/
theorem DrawN.effP {σ0 : St} {K : St → Prop} (A : List (Nat × Nat)) (ph : List Nat) (D : List (Nat × Nat)) (i0 : Nat) (E LF : List Nat) (m : Nat) (tr : Tr) (sg : Option (Nat × Tr)) (c : List AV) (hok : lateOk ops m E LF tr sg = true) (hE : effOk ops m E = true) (hD : lateD ops m D = true) (hc : (σ0.boxes ++ anyB ph)[i0]? = some c) (hi0 : i0 < σ0.boxes.length) (hnt : allLeafs noTag c = true) (hnv : allLeafs noVar c = true) (hfree : freeAll σ0 (creators ops m) = true) (hkf : keptFree σ0 A = true)
    (h : headF P ops (σ0.boxes ++ anyB ph).length i0 E LF A 0 (ops.toList.take m) { σ0 with boxes := (σ0.boxes ++ anyB ph).set i0 (blankC E c) } c fun σ' c' => (freeOthersD D σ'.tmps (creators ops m) = true ∧ keptOk ops σ'.tmps A = true) ∧ treeA P ops tr { σ' with boxes := σ'.boxes.set i0 c' } K ∧ sgA P ops sg { σ' with boxes := σ'.boxes.set i0 c' } K) : DrawN P ops σ0 K := by
  intro G0 w0 G a w Q h0 hs0 hN hQ
  have hs := hs0.kept ph
  have hkf := fun i N => keptFree_mem hkf i N
  have hfree : freeAll { σ0 with boxes := σ0.boxes ++ anyB ph } (creators ops m) = true := freeAll_kept ph hfree
  have hall : ∀ N, noPbB N σ0.boxes = true → noPbB N (σ0.boxes ++ anyB ph) = true := fun N hN => by rw [noPbB_app, hN, noPbB_any]; rfl
  obtain ⟨σ, hσ⟩ : ∃ σ : St, σ = { σ0 with boxes := σ0.boxes ++ anyB ph } := ⟨_, rfl⟩
  have hσb : σ.boxes = σ0.boxes ++ anyB ph := by rw [hσ]
  have hσt : σ.tmps = σ0.tmps := by rw [hσ]
  have hσn : σ.n = σ0.n := by rw [hσ]
  rw [← hσ] at hs hfree
  have h : headF P ops σ.boxes.length i0 E LF A 0 (ops.toList.take m) { σ with boxes := σ.boxes.set i0 (blankC E c) } c fun σ' c' => (freeOthersD D σ'.tmps (creators ops m) = true ∧ keptOk ops σ'.tmps A = true) ∧ treeA P ops tr { σ' with boxes := σ'.boxes.set i0 c' } K ∧ sgA P ops sg { σ' with boxes := σ'.boxes.set i0 c' } K := by
    rw [hσ]; exact h
  rw [← hσb] at hc
  have hp := lateOk_plan hok
  simp only [effOk, Bool.and_eq_true, List.all_eq_true, decide_eq_true_eq, Bool.or_eq_true, Bool.not_eq_true', decide_eq_false_iff_not] at hE
  have hpE : PlanE ops m E := ⟨nodupE_spec hE.1.1, hE.1.2, fun e he e' he' hlt => (hE.2 e he e' he').resolve_left (fun hn => hn hlt)⟩
  obtain ⟨vs, C, hvl, hC0, hC, ⟨⟨hoth, hkp⟩, hK, hK2⟩, hst⟩ := headF_vals hpE.nodup _ _ _ _ _ h hnt hnv
  have hlen : (ops.toList.take m).length = m := by have := hp.le; simp; omega
  rw [hlen] at hvl
  have hcm : cntE E (0 + (ops.toList.take m).length) = E.length := by
    rw [hlen, Nat.zero_add]
    unfold cntE posE
    rw [List.filter_eq_self.2 fun e he => by simpa using hpE.lt e he]
  rw [hcm] at hK hK2
  have hst' : ∀ i o, i < m → ops[i]? = some o → ∃ d y, vs[i]? = some (d, y) ∧ o.dst = some d ∧ d < σ.n ∧
      if i ∈ E then EffC P σ i0 o d (puts σ (vs.take i)).ev (C (E.filter fun e => decide (e < i)).length) y (C ((E.filter fun e => decide (e < i)).length + 1)) else if i ∈ LF then FrontC P o (puts σ (vs.take i)).ev y else match lookA A i with | some N => AllocP P σ.boxes o N y | none => StepG P ops o d (puts σ (vs.take i)) (σ.boxes.set i0 (blankC E (C 0))) y := fun i o hi ho => by
    obtain ⟨d, y, k1, k2, k3, k4⟩ := hst i o (by rw [List.getElem?_take, if_pos hi]; simpa using ho)
    refine ⟨d, y, k1, k2, k3, ?_⟩
    rw [Nat.zero_add] at k4
    split
    · rename_i hiE
      rw [if_pos hiE, puts_ev] at k4
      unfold EffC at k4 ⊢
      simp only [List.length_replicate] at k4
      exact k4
    · rename_i hiE
      rw [if_neg hiE] at k4
      rw [hC0 0 (Nat.zero_le _)]
      split
      · rename_i hiL
        rw [if_pos hiL, puts_ev] at k4
        exact k4
      rename_i hiL
      rw [if_neg hiL] at k4
      cases hlA : lookA A i with
      | some N =>
        rw [hlA] at k4
        have hNi : i0 ≠ N := fun e => by have := (hkf i N hlA).1; omega
        obtain ⟨q1, q2, T, q, z, q3, q4, q5, q6, q7⟩ := k4
        simp only [List.getElem?_set_ne hNi] at q7
        exact ⟨q1, q2, T, q, z, q3, q4, q5, q6, q7⟩
      | none =>
      rw [hlA] at k4
      unfold StepG at k4 ⊢
      rw [puts_ev] at k4
      simp only [puts_get] at k4
      exact k4
  have hap : Apart vs := by
    intro i j d y d' y' h1 h2 hij
    have hil : i < m := by have := (List.getElem?_eq_some_iff.1 h1).1; omega
    have hjl : j < m := by have := (List.getElem?_eq_some_iff.1 h2).1; omega
    have hle := hp.le
    obtain ⟨oi, hoi⟩ : ∃ p, ops[i]? = some p := ⟨ops[i]'(by omega), by simp [show i < ops.size by omega]⟩
    obtain ⟨oj, hoj⟩ : ∃ p, ops[j]? = some p := ⟨ops[j]'(by omega), by simp [show j < ops.size by omega]⟩
    obtain ⟨_, _, k1, k2, _⟩ := hst' i oi hil hoi
    obtain ⟨_, _, k3, k4, _⟩ := hst' j oj hjl hoj
    rw [h1] at k1; cases k1
    rw [h2] at k3; cases k3
    obtain ⟨d1, e1, _, e2⟩ := hp.head j oj hoj hjl
    rw [k4] at e1; cases e1
    exact (e2 i oi d hil hij hoi k2).1
  have hs' := hs
  have hgd : ∀ i, (Array.replicate ops.size false).getD i false = false := fun i => by
    by_cases hi : i < ops.size <;> simp [hi]
  have hcrm : ∀ i o d, ops[i]? = some o → i < m → o.dst = some d → creates o.op = true → d ∈ creators ops m := fun i o d ho hi hd hcr => by
    unfold creators
    refine List.mem_filterMap.2 ⟨o, ?_, by rw [if_pos hcr]; exact hd⟩
    refine List.mem_of_getElem? (i := i) ?_
    rw [List.getElem?_take, if_pos hi]; simpa using ho
  have hset : ∀ c', (puts { σ with boxes := σ.boxes.set i0 (blankC E c) } vs).boxes.set i0 c' = σ.boxes.set i0 c' := fun c' => by rw [puts_boxes, List.set_set]
  refine head_runP (P := P) (A := A) hp hpE h0 hN hQ hvl hap (fun j => by rw [(hC j).1, (hC 0).1]) ?_ ?_ hst' (fun i N hi hlA => ⟨fun e => by have := (hkf i N hlA).1; omega, ?_, fun b hb e => ?_, fun j d' y hji hj => ?_, fun j => allLeafs_mono noVar_noPb _ (hC j).2.2⟩) (fun i o d ho hi hd hcr => ⟨fun j d' y hji hj => ?_, fun j => allLeafs_mono noTag_free _ (hC j).2.1⟩) ops.size (Array.replicate ops.size false) (List.range ops.size) σ G a _ ⟨by simp, List.nodup_range, fun i => ?_⟩ (by simp) (fun i _ => hgd i)
    (fun i o _ hi => absurd (show (Array.replicate ops.size false).getD i false = true from hi) (by rw [hgd]; simp)) ⟨rfl, ?_, fun i d y _ => by simp only [hgd]; simp, fun _ _ => rfl⟩ hs' (fun i o d ho hi hd hcr _ => freeAll_mem hfree d (hcrm i o d ho hi hd hcr)) (fun i N hi hlA _ _ _ => ⟨by rw [hσt]; exact (hkf i N hlA).2.1, by rw [hσb]; exact hall N (hkf i N hlA).2.2⟩)
  · rw [hset] at hK
    rw [puts_eq] at hK ⊢
    exact hK
  · rw [hset] at hK2
    rw [puts_eq] at hK2 ⊢
    exact hK2
  · have := (hkf i N hlA).1
    cases hgh : G0.gh N with
    | none => rfl
    | some vs => have := hs0.boxes.low _ vs hgh; omega
  · have h1 := hs0.stat b hb (fun t ht => by rw [e] at ht; cases ht)
    rw [e] at h1
    have := hs0.blt b N h1
    have := (hkf i N hlA).1
    omega
  · obtain ⟨di, hdi, hbut⟩ := keptOk_mem hkp i N hlA
    obtain ⟨oi, hoi⟩ : ∃ p, ops[i]? = some p := ⟨ops[i]'(by have := hp.le; omega), by have := hp.le; simp [show i < ops.size by omega]⟩
    rw [hoi, Option.bind_some] at hdi
    obtain ⟨_, yi, k1, k2, _⟩ := hst' i oi hi hoi
    rw [hdi] at k2; cases k2
    have hne := hap i j di yi d' y k1 hj (Ne.symm hji)
    have hpa := puts_at m vs { σ with boxes := σ.boxes.set i0 (blankC E c) } hap
    rw [List.take_of_length_le (by omega)] at hpa
    have hjm : j < m := by have := (List.getElem?_eq_some_iff.1 hj).1; omega
    have hg := hpa.dst j d' y hj
    simp only [hjm, decide_true, if_true] at hg
    rw [← hg]
    exact pbBut_look hbut d' (Ne.symm hne)
  · have hb := freeOthersD_mem hoth d (hcrm i o d ho hi hd hcr)
    obtain ⟨oi, yi, k1, k2, _⟩ := hst' i o hi ho
    rw [hd] at k2; cases k2
    have hne := hap i j d yi d' y k1 hj (Ne.symm hji)
    have hpa := puts_at m vs { σ with boxes := σ.boxes.set i0 (blankC E c) } hap
    rw [List.take_of_length_le (by omega)] at hpa
    have hjm : j < m := by have := (List.getElem?_eq_some_iff.1 hj).1; omega
    have hg := hpa.dst j d' y hj
    simp only [hjm, decide_true, if_true] at hg
    rw [← hg]
    rcases freeButD_look hb d' (Ne.symm hne) with h1 | h1
    · obtain ⟨oj, hoj⟩ : ∃ p, ops[j]? = some p := ⟨ops[j]'(by have := hp.le; omega), by have := hp.le; simp [show j < ops.size by omega]⟩
      obtain ⟨_, yj, q1, q2, _⟩ := hst' j oj hjm hoj
      rw [hj] at q1; cases q1
      exact .inr (lateP_spec (lateD_has hD h1) hoj hjm q2 ho hi hd)
    · exact .inl h1
  · rw [List.mem_range, hgd]; simp
  · have : posE E (fun i => (Array.replicate ops.size false).getD i false) = 0 := by
      unfold posE
      rw [List.filter_eq_nil_iff.2 fun e _ => by rw [hgd]; simp]; rfl
    rw [this, hC0 0 (Nat.zero_le _)]
    have hi := (List.getElem?_eq_some_iff.1 hc).1
    rw [← (List.getElem?_eq_some_iff.1 hc).2, List.set_getElem_self]
end

/-! ### as rules -/
def headZ (P : Program) (ops : Array Oper) (n0 i0 : Nat) (E LF : List Nat) (A : List (Nat × Nat)) (D : List (Nat × Nat)) (ds : List Nat) (tr : Tr) (sg : Option (Nat × Tr)) (σ : St) (c : List AV) (K : St → Prop) : Prop :=
  (freeOthersD D σ.tmps ds = true ∧ keptOk ops σ.tmps A = true) ∧ treeA P ops tr { σ with boxes := σ.boxes.set i0 c } K ∧ sgA P ops sg { σ with boxes := σ.boxes.set i0 c } K
def headY (P : Program) (ops : Array Oper) (n0 i0 : Nat) (E LF : List Nat) (A : List (Nat × Nat)) (D : List (Nat × Nat)) (ds : List Nat) (tr : Tr) (sg : Option (Nat × Tr)) : Nat → Nat → List Oper → St → List AV → (St → Prop) → Prop
  | _, 0, _, σ, c, K => headZ P ops n0 i0 E LF A D ds tr sg σ c K
  | _, _ + 1, [], σ, c, K => headZ P ops n0 i0 E LF A D ds tr sg σ c K
  | k, m + 1, o :: r, σ, c, K => if E.contains k = true then EffK P n0 i0 o σ c fun σ' c' => allLeafs noVar c' = true ∧ headY P ops n0 i0 E LF A D ds tr sg (k + 1) m r σ' c' K else if LF.contains k = true then frB P o σ fun σ' => headY P ops n0 i0 E LF A D ds tr sg (k + 1) m r σ' c K else match lookA A k with
    | some N => AllocK P o N σ fun σ' => headY P ops n0 i0 E LF A D ds tr sg (k + 1) m r σ' c K
    | none => headG P ops o σ fun σ' => headY P ops n0 i0 E LF A D ds tr sg (k + 1) m r σ' c K
theorem headY_eq {P : Program} {ops : Array Oper} {n0 i0 : Nat} {E LF : List Nat} {A D : List (Nat × Nat)} {ds : List Nat} {tr : Tr} {sg : Option (Nat × Tr)} {K : St → Prop} : ∀ (m k : Nat) (l : List Oper) (σ : St) (c : List AV), headY P ops n0 i0 E LF A D ds tr sg k m l σ c K =
    headF P ops n0 i0 E LF A k (l.take m) σ c fun σ' c' => headZ P ops n0 i0 E LF A D ds tr sg σ' c' K
  | 0, k, l, σ, c => by cases l <;> rfl
  | m + 1, k, [], σ, c => rfl
  | m + 1, k, o :: l, σ, c => by
    have ih : ∀ σ' c', headY P ops n0 i0 E LF A D ds tr sg (k + 1) m l σ' c' K = headF P ops n0 i0 E LF A (k + 1) (l.take m) σ' c' fun σ' c' => headZ P ops n0 i0 E LF A D ds tr sg σ' c' K := fun σ' c' => headY_eq m (k + 1) l σ' c'
    simp only [headY, List.take_succ_cons, headF, ih]
/-- A DRAWN REGION with effects and new variables, its operations put into the row π -/
theorem DrawK.news {P : Program} {l l' : List Oper} {σ : St} {K : St → Prop} (π : List Nat) (A : List (Nat × Nat)) (ph : List Nat) (D : List (Nat × Nat)) (i0 : Nat) (E LF : List Nat) (m : Nat) (tr : Tr) (sg : Option (Nat × Tr)) (c : List AV) (hm : P.follows .mixedOrders = true) (hπ : permOk l π = true) (hl : permG π l π = l') (hok : lateOk l'.toArray m E LF tr sg = true) (hE : effOk l'.toArray m E = true) (hD : lateD l'.toArray m D = true) (hc : (σ.boxes ++ anyB ph)[i0]? = some c) (hi0 : i0 < σ.boxes.length) (hnt : allLeafs noTag c = true ∧ allLeafs noVar c = true)
    (hfree : freeAll σ (crs (l'.take m)) = true ∧ keptFree σ A = true)
    (h : headY P l'.toArray (σ.boxes ++ anyB ph).length i0 E LF A D (crs (l'.take m)) tr sg 0 m l' ⟨σ.n, σ.tmps, (σ.boxes ++ anyB ph).set i0 (blankC E c)⟩ c K) : DrawK P l.toArray σ K :=
  DrawK.ofN hm (DrawN.perm π hπ hl (DrawN.effP A ph D i0 E LF m tr sg c hok hE hD hc hi0 hnt.1 hnt.2 (by rw [crs_creators]; exact hfree.1) hfree.2 (by rw [crs_creators]; rw [headY_eq] at h; exact h)))
/-- .. in the text's row -/
theorem DrawK.news0 {P : Program} {l : List Oper} {σ : St} {K : St → Prop} (A : List (Nat × Nat)) (ph : List Nat) (D : List (Nat × Nat)) (i0 : Nat) (E LF : List Nat) (m : Nat) (tr : Tr) (sg : Option (Nat × Tr)) (c : List AV) (hm : P.follows .mixedOrders = true) (hok : lateOk l.toArray m E LF tr sg = true) (hE : effOk l.toArray m E = true) (hD : lateD l.toArray m D = true) (hc : (σ.boxes ++ anyB ph)[i0]? = some c) (hi0 : i0 < σ.boxes.length) (hnt : allLeafs noTag c = true ∧ allLeafs noVar c = true)
    (hfree : freeAll σ (crs (l.take m)) = true ∧ keptFree σ A = true)
    (h : headY P l.toArray (σ.boxes ++ anyB ph).length i0 E LF A D (crs (l.take m)) tr sg 0 m l ⟨σ.n, σ.tmps, (σ.boxes ++ anyB ph).set i0 (blankC E c)⟩ c K) : DrawK P l.toArray σ K :=
  DrawK.ofN hm (DrawN.effP A ph D i0 E LF m tr sg c hok hE hD hc hi0 hnt.1 hnt.2 (by rw [crs_creators]; exact hfree.1) hfree.2 (by rw [crs_creators]; rw [headY_eq] at h; exact h))

section
variable {P : Program} {n : Nat} {t : List (Nat × AV)} {b : List (List AV)} {ops : Array Oper} {n0 i0 k m : Nat} {E LF ds : List Nat} {A D : List (Nat × Nat)} {tr : Tr} {sg : Option (Nat × Tr)} {l : List Oper} {c : List AV} {K : St → Prop}
variable {d : Nat} {T : TypeId} {pos : String} {af : Array Edge} {g : Option (Nat × Bool)}
@[congr] theorem headY_congr {n0' k' : Nat} {σ σ' : St} {c' : List AV} (h0 : n0 = n0') (h1 : k = k') (h : mkd σ = σ') (h2 : c = c') : headY P ops n0 i0 E LF A D ds tr sg k m l σ c K = headY P ops n0' i0 E LF A D ds tr sg k' m l σ' c' K := by subst_vars; rfl
def selN (o : Option Nat) (f : Nat → Prop) (p : Prop) : Prop := match o with
  | some N => f N
  | none => p
@[congr] theorem selN_congr {o o' : Option Nat} {f : Nat → Prop} {p : Prop} (h : o = o') : selN o f p = selN o' f p := by subst_vars; rfl
@[go_sem] theorem selN_some {N : Nat} {f : Nat → Prop} {p : Prop} : selN (some N) f p = f N := rfl
@[go_sem] theorem selN_none {f : Nat → Prop} {p : Prop} : selN none f p = p := rfl
@[go_sem] theorem headY_zero : headY P ops n0 i0 E LF A D ds tr sg k 0 l ⟨n, t, b⟩ c K = andK (freeOthersD D t ds = true) (andK (keptOk ops t A = true) (andK (treeA P ops tr ⟨n, t, b.set i0 c⟩ K) (sgA P ops sg ⟨n, t, b.set i0 c⟩ K))) := by
  cases l <;> (simp only [headY, headZ, andK]; exact propext and_assoc)
@[go_sem] theorem headY_nil : headY P ops n0 i0 E LF A D ds tr sg k (m + 1) [] ⟨n, t, b⟩ c K = andK (freeOthersD D t ds = true) (andK (keptOk ops t A = true) (andK (treeA P ops tr ⟨n, t, b.set i0 c⟩ K) (sgA P ops sg ⟨n, t, b.set i0 c⟩ K))) := by
  simp only [headY, headZ, andK]; exact propext and_assoc
@[go_sem] theorem headY_succ {dst : Option Tmp} {op : Op} : headY P ops n0 i0 E LF A D ds tr sg k (m + 1) (⟨dst, op, T, pos, af, none⟩ :: l) ⟨n, t, b⟩ c K = selK (E.contains k) (EffK P n0 i0 ⟨dst, op, T, pos, af, none⟩ ⟨n, t, b⟩ c fun σ' c' => andK (allLeafs noVar c' = true) (headY P ops n0 i0 E LF A D ds tr sg (k + 1) m l σ' c' K))
    (selK (LF.contains k) (frB P ⟨dst, op, T, pos, af, none⟩ ⟨n, t, b⟩ fun σ' => headY P ops n0 i0 E LF A D ds tr sg (k + 1) m l σ' c K) (selN (lookA A k) (fun N => AllocK P ⟨dst, op, T, pos, af, none⟩ N ⟨n, t, b⟩ fun σ' => headY P ops n0 i0 E LF A D ds tr sg (k + 1) m l σ' c K) (headOp P ⟨dst, op, T, pos, af, none⟩ ⟨n, t, b⟩ fun σ' => headY P ops n0 i0 E LF A D ds tr sg (k + 1) m l σ' c K))) := by
  rw [selK_ite, selK_ite]
  show (if E.contains k = true then _ else if LF.contains k = true then _ else _) = _
  cases lookA A k <;> rfl
@[congr] theorem AllocK_congr {o : Oper} {N : Nat} {σ σ' : St} {K : St → Prop} (h : mkd σ = σ') : AllocK P o N σ K = AllocK P o N σ' K := by subst_vars; rfl
@[go_sem] theorem AllocK_eq {N : Nat} : AllocK P ⟨some d, .alloc T, k, pos, af, none⟩ N ⟨n, t, b⟩ K = andK (d < n) (caseO (tinfo P T) fun q => caseO q.2.2 fun z => andK (zeroOk q.1 z = true) (caseO b[N]? fun cs => andK (cs = List.replicate q.1 .any) (K (St.put ⟨n, t, b⟩ (some d) (.pb N 0))))) := by
  unfold AllocK AllocP andK caseO
  apply propext
  constructor
  · rintro ⟨d', hd, h1, ⟨_, _, T', q, z, h3, h4, h5, h6, h7⟩, h8⟩
    cases hd; cases h3
    exact ⟨h1, q, h4, z, h5, h6, _, h7, rfl, h8⟩
  · rintro ⟨h1, q, h4, z, h5, h6, cs, h7, rfl, h8⟩
    exact ⟨d, rfl, h1, ⟨rfl, rfl, T, q, z, rfl, h4, h5, h6, h7⟩, h8⟩
attribute [go_sem] freeOthersD freeButD hasD lookA keptOk pbBut keptFree noPbT noPbB noPb noVar anyB
end
end Go.AM

/-! ## CmZ -/
namespace Go.AM
open Go Go.Proofs Go.RowKit

/-! ### the numbers that the dice give, one after the other -/
def rollA (l : List Int) (at_ : Nat) : Nat → Nat
  | 0 => at_
  | n + 1 => pickA l (rollA l at_ n)
def rollV (l : List Int) (at_ : Nat) (most : Int) : Nat → List Int
  | 0 => []
  | n + 1 => rollV l at_ most n ++ [pickV l (rollA l at_ n) (most + 1)]
theorem rollA_le {l : List Int} {at_ : Nat} (h : at_ ≤ l.length) : ∀ n, rollA l at_ n ≤ l.length
  | 0 => h
  | n + 1 => pickA_le (rollA_le h n)
theorem rollV_len {l : List Int} {at_ : Nat} {most : Int} : ∀ n, (rollV l at_ most n).length = n
  | 0 => rfl
  | n + 1 => by rw [rollV, List.length_append, rollV_len n]; rfl
theorem rollV_low {l : List Int} {at_ : Nat} {most : Int} (h : 0 ≤ most) : ∀ n, ∀ x ∈ rollV l at_ most n, 0 ≤ x ∧ x ≤ most
  | 0 => fun x hx => by cases hx
  | n + 1 => fun x hx => by
    rw [rollV, List.mem_append] at hx
    rcases hx with hx | hx
    · exact rollV_low h n x hx
    · simp only [List.mem_cons, List.not_mem_nil, or_false] at hx
      have := pickV_lt (l := l) (at_ := rollA l at_ n) (n := most + 1) (by omega)
      subst hx; omega

/-- what a callee hands back, and its variables, never written again -/
theorem Con.freezeB {P : Program} {f : FuncId} {args : List AV} {bx : List (List AV)} {post : AV → List (List AV) → Prop} (p : Nat → Bool) (h : Con P f args bx post) : Con P f args bx fun r' b' => ∃ r b, post r b ∧ r' = r.freeze p ∧ b' = b.map fun cs => cs.map (AV.freeze p) :=
  ⟨h.1, fun G w vs h1 h2 h3 h4 h5 => (h.2 G w vs h1 h2 h3 h4 h5).mono fun e w' ⟨v, r, bx', G', he, hq, hr, hg, hbx, hlt, e1, e2, e3, e4, e5, e6⟩ => by
    have hbox : ∀ k i, freezeG p G' k = .box i ↔ G' k = .box i := fun k i => by
      unfold freezeG; split
      · rename_i t ht; split <;> simp [ht]
      · exact Iff.rfl
    refine ⟨v, _, bx'.map (fun cs => cs.map (AV.freeze p)), freezeG p G', he, ⟨r, bx', hq, rfl, rfl⟩, hr.freeze, hg.freeze, ⟨fun i vs hv => by simp [noGh] at hv, fun i cs hi => ?_⟩, fun k i hk => by simpa using hlt k i ((hbox k i).1 hk), e1, e2, e3, e4, fun k hk => ?_, e6⟩
    · rw [List.getElem?_map] at hi
      cases hc : bx'[i]? with
      | none => simp [hc] at hi
      | some cs' =>
        simp [hc] at hi; subst hi
        exact (hbx.cell i cs' hc).map (fun x v hr => hr.freeze) (fun k hk => ⟨(hbox k i).2 hk, rfl⟩) fun h0 k hk => h0 k ((hbox k i).1 hk)
    · have := e5 k hk
      unfold freezeG
      split
      · rename_i t ht; rw [this] at ht; exact absurd ht (h2 k t)
      · exact this⟩

set_option maxRecDepth 100000 in
theorem con_ints (l : List Int) (at_ : Nat) (n : Nat) (most : Int) (hs : Seeds l) (ha : at_ ≤ l.length) (hn : n ≤ 6) (hm : 0 ≤ most ∧ most ≤ 100) : Con Tryz.prog 63 [.pb 0 0, vi n, vi most] [diceA l at_]
    fun r b => r = vs 2 (rollV l at_ most n) ∧ b = [diceA l (rollA l at_ n)] := by
  refine Con.intro Tryz.func63 rfl Tryz.ntmps63 Tryz.results63 (by kernel_rfl) (by simp) 1 (by simp) ?_
  simp only [go_sem]
  refine LoopK.intro (fun i : Nat => ⟨22, [(0, .pb 0 0), (1, vi n), (2, vi most), (7, vs 1344 (rollV l at_ most i)), (8, vi i)], [diceA l (rollA l at_ i)]⟩)
    (fun i => n - i) (fun i => i ≤ n) 0 (by omega) ?_ ?_
  · simp only [go_sem, rollV, rollA, List.map_nil]
  rintro i hi
  by_cases h : i < n
  · have hw : IntKind.i64.wrap (i + 1) = i + 1 := wrap_in (by omega) (by omega)
    have hw2 : IntKind.i64.wrap (most + 1) = most + 1 := wrap_in (by omega) (by omega)
    simp only [go_sem, h, hw2]
    refine CallU.boxes (i := 0) (is := []) (bx0 := [diceA l (rollA l at_ i)]) (con_pickF l (rollA l at_ i) (most + 1) hs (rollA_le ha i) (by omega)) (by simp only [go_sem]) (by simp only [go_sem]) (by simp only [go_sem]) (by simp only [go_sem]) (by simp only [go_sem]) ?_
    rintro r b ⟨rfl, rfl⟩
    have hr : roomFor ((rollV l at_ most i).length + 1) 8 := by rw [rollV_len]; simp only [roomFor]; omega
    simp only [go_sem, hr, hw]
    refine roundK.intro (i + 1) (by omega) (by omega) ?_
    simp only [go_sem, rollV, rollA, List.map_append, List.map_cons, List.map_nil]
  · have e : i = n := by omega
    subst e
    simp only [go_sem, h]
theorem con_intsF (l : List Int) (at_ : Nat) (n : Nat) (most : Int) (hs : Seeds l) (ha : at_ ≤ l.length) (hn : n ≤ 6) (hm : 0 ≤ most ∧ most ≤ 100) : Con Tryz.prog 63 [.pb 0 0, vi n, vi most] [diceA l at_]
    fun r b => r = vs 0 (rollV l at_ most n) ∧ b = [diceA l (rollA l at_ n)] :=
  ((con_ints l at_ n most hs ha hn hm).freezeB fun _ => true).mono fun r b ⟨r1, b1, ⟨h1, h2⟩, h3, h4⟩ => by
    subst h1; subst h2; subst h3; subst h4
    refine ⟨?_, ?_⟩
    · rfl
    · rfl

/-! ### configurations as they are built: what is empty is nil -/
def kidN (n : Int) : AV := .ag [vi n, .nil]
def cfgN (t s : Nat) (v : List Int) : AV := .ag [vi 0, .sl t 2 (((s : Int) :: v).map kidN)]
attribute [go_sem] kidN cfgN

set_option maxRecDepth 100000 in
theorem con_config28 (s : Nat) (v : List Int) (hv : v.length ≤ 100) : Con Tryz.prog 21 [vi s, vs 0 v] [] fun r _ => r = cfgN 2 s v := by
  refine Con.intro Tryz.func21 rfl Tryz.ntmps21 Tryz.results21 (by kernel_rfl) (by simp) 0 (by simp) ?_
  simp only [go_sem]
  refine LoopK.intro (fun i : Nat => ⟨28, [(0, vi s), (1, vs 0 v), (4, .pb 0 0), (5, .pb 1 0), (6, vi i)], [[.any, .any], [vi 0, .sl 640 2 (((s : Int) :: v.take i).map kidN)]]⟩)
    (fun i => v.length - i) (fun i => i ≤ v.length) 0 (by omega) ?_ ?_
  · simp only [go_sem, List.take_zero, List.map_cons, List.map_nil]
  rintro i hi
  by_cases h : i < v.length
  · have hw : IntKind.i64.wrap (i + 1) = i + 1 := wrap_in (by omega) (by omega)
    have hg := getv h
    have e : v.take (i + 1) = v.take i ++ [v[i]!] := by rw [List.take_add_one, List.getElem?_eq_getElem h, getElem!_pos v i h]; rfl
    simp only [go_sem, h, List.map_cons]
    refine DrawK.walk 8 mixed (by kernel_rfl) ?_
    simp only [go_sem, h, hw, hg, List.map_cons]
    refine ⟨by simp only [roomFor, List.length_take]; omega, roundK.intro (i + 1) (by omega) (by omega) ?_⟩
    simp only [go_sem, e, List.map_append, List.map_cons, List.map_nil]
  · have e : i = v.length := by omega
    subst e
    simp only [go_sem, h, List.take_length, List.map_cons]

/-- a configuration of the dice -/
def rollS (l : List Int) (at_ ns : Nat) : Nat := (pickV l at_ ns).toNat
theorem rollS_lt {l : List Int} {at_ ns : Nat} (h : 1 ≤ ns) : rollS l at_ ns < ns ∧ pickV l at_ ns = rollS l at_ ns := by
  have := pickV_lt (l := l) (at_ := at_) (n := ns) (by omega)
  unfold rollS; omega
set_option maxRecDepth 100000 in
theorem con_Config (l : List Int) (at_ : Nat) (m : MD) (hs : Seeds l) (ha : at_ ≤ l.length) (hk : m.kind = 1) (h1 : 1 ≤ m.states.length ∧ m.states.length ≤ 8) (h2 : 1 ≤ m.places.length ∧ m.places.length ≤ 6) :
    Con Tryz.prog 38 [.pb 0 0, vM m] [diceA l at_]
    fun r b => r = cfgN 2 (rollS l at_ m.states.length) (rollV l (pickA l at_) 3 m.places.length) ∧ b = [diceA l (rollA l (pickA l at_) m.places.length)] := by
  refine Con.intro Tryz.func38 rfl Tryz.ntmps38 Tryz.results38 (by kernel_rfl) (by simp) 1 (by simp) ?_
  have hN := rollS_lt (l := l) (at_ := at_) h1.1
  have ei := con_intsF l (pickA l at_) m.places.length 3 hs (pickA_le ha) h2.2 (by omega)
  unfold vM cM
  rw [hk]
  simp only [go_sem, vss]
  refine DrawK.effs0 0 [4, 9] [] 10 (.one 10 (.one 11 .done)) none (diceA l at_) mixed (by kernel_rfl) (by kernel_rfl) (by simp only [go_sem]) (by simp only [go_sem]) ?_
  simp only [go_sem, List.length_map]
  refine EffK.mk (con_pickF l at_ m.states.length hs ha (by omega)) (by simp only [go_sem]) (by simp only [go_sem]) (by simp only [go_sem]) (by simp only [go_sem]) ?_
  simp only [go_sem, List.length_map]
  refine EffK.mk ei (by simp only [go_sem]) (by simp only [go_sem]) (by simp only [go_sem]) (by simp only [go_sem]) ?_
  simp only [go_sem, hN.2]
  refine ⟨CallU.free (con_config28 (rollS l at_ m.states.length) (rollV l (pickA l at_) 3 m.places.length) (by rw [rollV_len]; omega)) (by simp only [go_sem]) (by simp only [go_sem]) ?_, ?_⟩
  · rintro r bx rfl
    simp only [go_sem]
  · exact trivial
end Go.AM

/-! ## CrM -/
namespace Go.AM
open Go Go.Proofs Go.RowKit

set_option maxRecDepth 100000 in
set_option maxHeartbeats 1000000 in
theorem con_rEnabled (m : MD) (i s : Nat) (v : List Int) (h : GoodM m) (hi : i < m.rules.length) (hc : GoodC m s v) : Con Tryz.prog 135 [vM m, vi i, vV (cfgC s v)] [] fun x _ => x = .tup [vb (enF m.rules[i]! s v), vi 0] := by
  have e0 := vV_eq (cfgC s v)
  rw [e0]
  refine Con.intro Tryz.func135 rfl Tryz.ntmps135 Tryz.results135 (by kernel_rfl) (by simp) 0 (by simp) ?_
  have h2 := h.places
  have hg := getRule hi
  have hr := (rule_fine (h.rules _ (mem_bangI hi)).1).right
  unfold RightR at hr
  have hl := hc.len
  simp only [go_sem, vM, cM, vss]
  refine CallU.free (con_rfault m i h hi) (by simp only [go_sem]) (by simp only [go_sem, vM, cM, vss]) ?_
  rintro r bx rfl
  simp only [go_sem]
  refine CallU.free (con_rmvalid m (cfgC s v) h hc.conf) (by simp only [go_sem]) (by simp only [go_sem, vM, cM, vss, e0]) ?_
  rintro r bx rfl
  simp only [go_sem]
  refine DrawK.walk 7 mixed (by kernel_rfl) ?_
  simp only [go_sem, hi, hg]
  refine CallY.mk (con_renabled m.rules[i]! s v (by omega) (by omega)) (by simp only [go_sem, e0]) (by simp only [go_sem]) (.inl (by simp only [go_sem])) ?_
  simp only [go_sem]
theorem fill_round {L : List Int} {i k : Nat} (hl : L.length = k) (h : i < k) : ((L.take i ++ List.replicate (k - i) 0).map vi).modify i (updElem 0 [.sc (.int .i64 L[i]!)]) = (L.take (i + 1) ++ List.replicate (k - (i + 1)) 0).map vi := by
  have h1 : (L.take i).length = i := by rw [List.length_take]; omega
  have e1 : List.replicate (k - i) (0 : Int) = 0 :: List.replicate (k - (i + 1)) 0 := by rw [show k - i = (k - (i + 1)) + 1 by omega, List.replicate_succ]
  have e2 : L.take (i + 1) = L.take i ++ [L[i]!] := by rw [List.take_add_one, List.getElem?_eq_getElem (by omega), getElem!_pos L i (by omega)]; rfl
  rw [modify_vi, e2, e1, List.set_append_right _ _ (by omega), h1, Nat.sub_self, List.set_cons_zero, List.append_assoc]
  rfl
theorem fill_at {L : List Int} {i k : Nat} (hl : L.length = k) (h : i < k) : ((L.take i ++ List.replicate (k - i) 0).map vi)[i]? = some (.sc (.int .i64 0)) := by
  have h1 : (L.take i).length = i := by rw [List.length_take]; omega
  have e1 : List.replicate (k - i) (0 : Int) = 0 :: List.replicate (k - (i + 1)) 0 := by rw [show k - i = (k - (i + 1)) + 1 by omega, List.replicate_succ]
  rw [List.getElem?_map, List.getElem?_append_right (by omega), h1, Nat.sub_self, e1]; rfl
theorem fill_len {L : List Int} {i k : Nat} (hl : L.length = k) (h : i ≤ k) : (L.take i ++ List.replicate (k - i) 0).length = k := by
  rw [List.length_append, List.length_take, List.length_replicate]; omega
/-- what is left behind the needs -/
def leftL (v n : List Int) : List Int := (List.range v.length).map fun i => v[i]! - n[i]!
theorem left_len (v n : List Int) : (leftL v n).length = v.length := by simp [leftL]
theorem left_at {v n : List Int} {i : Nat} (h : i < v.length) : (leftL v n)[i]! = v[i]! - n[i]! := by
  rw [getElem!_pos _ i (by rw [left_len]; exact h)]; simp [leftL]
set_option maxRecDepth 100000 in
set_option maxHeartbeats 4000000 in
theorem con_rapply (m : MD) (i s : Nat) (v : List Int) (h : GoodM m) (hst : m.rules.all stillB = true) (hi : i < m.rules.length) (hc : GoodC m s v) (hb : ∀ x ∈ v, x ≤ 1000000) (he : enF m.rules[i]! s v = true) :
    Con Tryz.prog 74 [vM m, vi i, vV (cfgC s v)] [] fun x _ => x = .tup [cfgN 2 m.rules[i]!.dst.toNat (fireF m.rules[i]! v), vi 0] := by
  have e0 := vV_eq (cfgC s v)
  have hE := con_rEnabled m i s v h hi hc
  rw [he] at hE
  rw [e0] at hE ⊢
  refine Con.intro Tryz.func74 rfl Tryz.ntmps74 Tryz.results74 (by kernel_rfl) (by simp) 0 (by simp) ?_
  have h2 := h.places
  have hg := getRule hi
  have hfr := rule_fine (h.rules _ (mem_bangI hi)).1
  have hmv : m.rules[i]!.move = [] := by
    have := List.all_eq_true.1 hst _ (mem_bangI hi)
    unfold stillB at this
    rw [beq_iff_eq] at this
    exact List.eq_nil_of_length_eq_zero this
  have hl := hc.len
  have hlow := hc.low
  have hgv : ∀ x ∈ m.rules[i]!.give, 0 ≤ x ∧ x ≤ 16 := by
    have h3 := (h.rules _ (mem_bangI hi)).1
    unfold ruleB changesB smallB betweenB at h3
    simp only [Bool.and_eq_true, decide_eq_true_eq, List.all_eq_true] at h3
    exact h3.1.2.2
  have hnd : ∀ x ∈ m.rules[i]!.need, 0 ≤ x ∧ x ≤ 16 := by
    have h3 := (h.rules _ (mem_bangI hi)).1
    unfold ruleB changesB smallB betweenB at h3
    simp only [Bool.and_eq_true, decide_eq_true_eq, List.all_eq_true] at h3
    exact h3.1.2.1.2
  generalize m.rules[i]! = r at *
  obtain ⟨r1, r2, r3, r4, r5, r6⟩ := hfr.right
  have hnl : r.need.length = v.length := by omega
  have hgl : r.give.length = v.length := by omega
  simp only [go_sem, vM, cM, vss]
  refine CallU.free hE (by simp only [go_sem]) (by simp only [go_sem, vM, cM, vss]) ?_
  rintro x bx rfl
  simp only [go_sem, hi, hg, hmv, List.map_nil, List.length_nil]
  refine ⟨Nat.le_refl _, by omega, by omega, ?_⟩
  have hrep : List.replicate r.need.length (AV.sc (.int .i64 0)) = (List.replicate v.length (0 : Int)).map vi := by rw [List.map_replicate, hnl]; rfl
  rw [hrep]
  have hll := left_len v r.need
  refine LoopK.intro (fun j : Nat => ⟨116, [(3, .pb 0 0), (5, .pb 1 0), (6, .pb 2 0), (7, vi 0), (10, .pb 3 0), (11, vs 2496 ((leftL v r.need).take j ++ List.replicate (v.length - j) 0)), (12, vi j)], [cM m, [vi (cfgC s v).n, .sl 0 2 ((cfgC s v).kids.map vV)], [.any, .any], [vStr r.name, vi r.src, vi r.dst, vs 0 r.need, vs 0 r.give, .sl 0 1 [], vi r.channel, vi r.act, vi r.letter, vs 0 r.path, vs 0 r.next, .sl 0 3 (r.takes.map vTake), vs 0 r.makes, vi r.second]]⟩)
    (fun j => v.length - j) (fun j => j ≤ v.length) 0 (by omega) ?_ ?_
  · simp only [go_sem, List.take_zero, List.nil_append, Nat.sub_zero, cM, vss]
  rintro j hj
  have hfl := fill_len (L := leftL v r.need) (i := j) hll hj
  by_cases hjl : j < v.length
  · have gn := getv (l := r.need) (i := j) (by omega)
    have hjn : j < r.need.length := by omega
    have hk := cfg_kid (s := s) (v := v) (i := j) hjl
    have hw : IntKind.i64.wrap (j + 1) = j + 1 := wrap_in (by omega) (by omega)
    have hw2 : IntKind.i64.wrap (1 + (j : Int)) = ((j + 1 : Nat) : Int) := by rw [wrap_in (by omega) (by omega)]; omega
    have ht : ((j : Int) + 1).toNat = j + 1 := by omega
    have hk2 : Option.map vV (cfgC s v).kids[j + 1]? = some (.ag [.sc (.int .i64 v[j]!), .sl 0 2 []]) := by rw [← List.getElem?_map]; exact hk
    have kl := cfg_klen (s := s) (v := v)
    have hkl2 : (j : Int) + 1 < ((cfgC s v).kids.length : Int) := by omega
    have hf1 := fill_at (L := leftL v r.need) hll hjl
    have hf2 := fill_round (L := leftL v r.need) hll hjl
    rw [left_at hjl] at hf2
    have hv1 := hlow _ (mem_bangI hjl)
    have hn1 := hfr.need _ (mem_bangI hjn)
    have w1 : IntKind.i64.wrap (v[j]! - r.need[j]!) = v[j]! - r.need[j]! := wrap_in (by omega) (by omega)
    have w2 : IntKind.i64.wrap (0 + (v[j]! - r.need[j]!)) = v[j]! - r.need[j]! := by rw [wrap_in (by omega) (by omega)]; omega
    simp only [go_sem, hfl, hjl, cM, vss, List.length_nil]
    refine DrawK.walk 19 mixed (by kernel_rfl) ?_
    simp only [go_sem, hfl, hjl, hf1, hw2, ht, hk2, hkl2, hjn, gn, w1, w2, hf2, hw]
    refine ⟨by omega, roundK.intro (j + 1) (by omega) (by omega) ?_⟩
    simp only [go_sem]
  · have e1 : (leftL v r.need).take j ++ List.replicate (v.length - j) 0 = leftL v r.need := by
      rw [List.take_of_length_le (by omega), show v.length - j = 0 by omega]; simp
    rw [e1]
    simp only [go_sem, hll, hjl, cM, vss]
    have hds : r.dst = ((r.dst.toNat : Nat) : Int) := by omega
    have hfl2 : (fireF r v).length = v.length := fireL_len hnl hgl
    refine LoopK.intro (fun j : Nat => ⟨116, [(3, .pb 0 0), (5, .pb 1 0), (6, .pb 2 0), (7, vi 0), (10, .pb 3 0), (11, vs 2496 (leftL v r.need)), (14, .pb 4 0), (15, vi j)], [cM m, [vi (cfgC s v).n, .sl 0 2 ((cfgC s v).kids.map vV)], [.any, .any], [vStr r.name, vi r.src, vi r.dst, vs 0 r.need, vs 0 r.give, .sl 0 1 [], vi r.channel, vi r.act, vi r.letter, vs 0 r.path, vs 0 r.next, .sl 0 3 (r.takes.map vTake), vs 0 r.makes, vi r.second], [vi 0, .sl 5120 2 ((r.dst :: (fireF r v).take j).map kidN)]]⟩)
      (fun j => v.length - j) (fun j => j ≤ v.length) 0 (by omega) ?_ ?_
    · simp only [go_sem, List.take_zero, List.map_cons, List.map_nil, cM, vss]
    rintro j hj
    by_cases hjl : j < v.length
    · have g1 := getv (l := leftL v r.need) (i := j) (by omega)
      have g2 := getv (l := r.give) (i := j) (by omega)
      have hjL : j < (leftL v r.need).length := by omega
      have hjG : j < r.give.length := by omega
      rw [left_at hjl] at g1
      have hw : IntKind.i64.wrap (j + 1) = j + 1 := wrap_in (by omega) (by omega)
      have hv1 := hlow _ (mem_bangI hjl)
      have hv2 := hb _ (mem_bangI hjl)
      have hg1 := hgv _ (mem_bangI hjG)
      have hn1 := hnd _ (mem_bangI (show j < r.need.length by omega))
      have hF : (fireF r v)[j]! = v[j]! - r.need[j]! + r.give[j]! := fireL_at hnl hgl hjl
      have w1 : IntKind.i64.wrap (v[j]! - r.need[j]! + r.give[j]!) = (fireF r v)[j]! := by rw [hF]; exact wrap_in (by omega) (by omega)
      have hnot : ¬ (1048576 : Int) < (fireF r v)[j]! := by omega
      have e : (fireF r v).take (j + 1) = (fireF r v).take j ++ [(fireF r v)[j]!] := by rw [List.take_add_one, List.getElem?_eq_getElem (by omega), getElem!_pos _ j (by omega)]; rfl
      have hro : roomFor (((fireF r v).take j).length + 1 + 1) 32 := by simp only [roomFor, List.length_take]; omega
      simp only [go_sem, hll, hjl, cM, vss, List.map_cons]
      refine DrawK.walk 11 mixed (by kernel_rfl) ?_
      simp only [go_sem, hjG, hjl, hll, g1, g2, w1, hnot]
      refine DrawK.walk 14 mixed (by kernel_rfl) ?_
      simp only [go_sem, hjG, hjl, hll, g1, g2, w1, hw, hro]
      refine roundK.intro (j + 1) (by omega) (by omega) ?_
      simp only [go_sem, cM, vss, e, List.map_append, List.map_cons, List.map_nil]
    · have e2 : (fireF r v).take j = fireF r v := List.take_of_length_le (by omega)
      rw [hds]
      simp only [go_sem, hll, hjl, cM, vss, e2, List.map_cons]
set_option maxRecDepth 100000 in
theorem con_rapplyNo (m : MD) (i s : Nat) (v : List Int) (h : GoodM m) (hi : i < m.rules.length) (hc : GoodC m s v) (he : enF m.rules[i]! s v = false) :
    Con Tryz.prog 74 [vM m, vi i, vV (cfgC s v)] [] fun x _ => x = .tup [.ag [vi 0, .nil], vi 18] := by
  have e0 := vV_eq (cfgC s v)
  have hE := con_rEnabled m i s v h hi hc
  rw [he] at hE
  rw [e0] at hE ⊢
  refine Con.intro Tryz.func74 rfl Tryz.ntmps74 Tryz.results74 (by kernel_rfl) (by simp) 0 (by simp) ?_
  simp only [go_sem, vM, cM, vss]
  refine CallU.free hE (by simp only [go_sem]) (by simp only [go_sem, vM, cM, vss]) ?_
  rintro x bx rfl
  simp only [go_sem]
end Go.AM

/-! ## CrN -/
namespace Go.AM
open Go Go.Proofs Go.RowKit

set_option maxRecDepth 100000 in
set_option maxHeartbeats 1000000 in
theorem con_r22quiet (m : MD) (s : Nat) (v : List Int) (h : GoodM m) (hc : GoodC m s v) : Con Tryz.prog 22 [vM m, vi (-1), vV (cfgC s v)] [] fun x _ => x = .tup [.nil, vi 0] := by
  have e0 := vV_eq (cfgC s v)
  rw [e0]
  refine Con.intro Tryz.func22 rfl Tryz.ntmps22 Tryz.results22 (by kernel_rfl) (by simp) 0 (by simp) ?_
  have hk := h.kind
  have h3 := h.few
  have a2 : ¬ ((m.rules.length : Int) ≤ -1) := by omega
  simp only [go_sem, vM, cM, vss, hk]
  refine CallU.free (con_rkind m h) (by simp only [go_sem]) (by simp only [go_sem, vM, cM, vss, hk]) ?_
  rintro x bx rfl
  simp only [go_sem, a2, List.length_map]
  refine CallU.free (con_rmvalid m (cfgC s v) h hc.conf) (by simp only [go_sem]) (by simp only [go_sem, vM, cM, vss, hk, e0]) ?_
  rintro x bx rfl
  simp only [go_sem]
  refine CallU.free (con_rquiet m (cfgC s v) h hc.conf) (by simp only [go_sem]) (by simp only [go_sem, vM, cM, vss, hk, e0]) ?_
  rintro x bx rfl
  simp only [go_sem]
set_option maxRecDepth 100000 in
set_option maxHeartbeats 1000000 in
theorem con_r22no (m : MD) (i s : Nat) (v : List Int) (h : GoodM m) (hi : i < m.rules.length) (hc : GoodC m s v) (he : enF m.rules[i]! s v = false) : Con Tryz.prog 22 [vM m, vi i, vV (cfgC s v)] [] fun x _ => x = .tup [.nil, vi 0] := by
  have e0 := vV_eq (cfgC s v)
  have hA := con_rapplyNo m i s v h hi hc he
  rw [e0] at hA ⊢
  refine Con.intro Tryz.func22 rfl Tryz.ntmps22 Tryz.results22 (by kernel_rfl) (by simp) 0 (by simp) ?_
  have hk := h.kind
  have a1 : ¬ ((i : Int) < -1) := by omega
  have a2 : ¬ ((m.rules.length : Int) ≤ (i : Int)) := by omega
  have a3 : ((i : Int) == -1) = false := beq_eq_false_iff_ne.2 (by omega)
  simp only [go_sem, vM, cM, vss, hk]
  refine CallU.free (con_rkind m h) (by simp only [go_sem]) (by simp only [go_sem, vM, cM, vss, hk]) ?_
  rintro x bx rfl
  simp only [go_sem, a1, a2, List.length_map]
  refine CallU.free (con_rmvalid m (cfgC s v) h hc.conf) (by simp only [go_sem]) (by simp only [go_sem, vM, cM, vss, hk, e0]) ?_
  rintro x bx rfl
  simp only [go_sem, a3]
  refine CallU.free hA (by simp only [go_sem]) (by simp only [go_sem, vM, cM, vss, hk]) ?_
  rintro x bx rfl
  simp only [go_sem]
set_option maxRecDepth 100000 in
set_option maxHeartbeats 1000000 in
theorem con_r22yes (m : MD) (i s : Nat) (v : List Int) (h : GoodM m) (hst : m.rules.all stillB = true) (hi : i < m.rules.length) (hc : GoodC m s v) (hb : ∀ x ∈ v, x ≤ 1000000) (he : enF m.rules[i]! s v = true) : Con Tryz.prog 22 [vM m, vi i, vV (cfgC s v)] [] fun x _ => x = .tup [.sl 2 2 [cfgN 0 m.rules[i]!.dst.toNat (fireF m.rules[i]! v)], vi 0] := by
  have e0 := vV_eq (cfgC s v)
  have hA := con_rapply m i s v h hst hi hc hb he
  rw [e0] at hA ⊢
  refine Con.intro Tryz.func22 rfl Tryz.ntmps22 Tryz.results22 (by kernel_rfl) (by simp) 0 (by simp) ?_
  have hk := h.kind
  have a1 : ¬ ((i : Int) < -1) := by omega
  have a2 : ¬ ((m.rules.length : Int) ≤ (i : Int)) := by omega
  have a3 : ((i : Int) == -1) = false := beq_eq_false_iff_ne.2 (by omega)
  simp only [go_sem, vM, cM, vss, hk]
  refine CallU.free (con_rkind m h) (by simp only [go_sem]) (by simp only [go_sem, vM, cM, vss, hk]) ?_
  rintro x bx rfl
  simp only [go_sem, a1, a2, List.length_map]
  refine CallU.free (con_rmvalid m (cfgC s v) h hc.conf) (by simp only [go_sem]) (by simp only [go_sem, vM, cM, vss, hk, e0]) ?_
  rintro x bx rfl
  simp only [go_sem, a3]
  refine CallU.free hA (by simp only [go_sem]) (by simp only [go_sem, vM, cM, vss, hk]) ?_
  rintro x bx rfl
  simp only [go_sem]
end Go.AM

/-! ## CrO -/
namespace Go.AM
open Go Go.Proofs Go.RowKit

/-- a step: the rule's number, the configuration behind it -/
structure StD where
  rule : Nat
  state : Nat
  v : List Int
  deriving Inhabited
def vSt (x : StD) : AV := .ag [vi x.rule, vi 0, .sl 0 2 (((x.state : Int) :: x.v).map kidN)]
attribute [go_sem] vSt
/-- the steps of the first rules -/
def stepsF (rules : List RD) (s : Nat) (v : List Int) : Nat → List StD
  | 0 => []
  | n + 1 => if enF rules[n]! s v then stepsF rules s v n ++ [⟨n, rules[n]!.dst.toNat, fireF rules[n]! v⟩] else stepsF rules s v n
theorem steps_len (rules : List RD) (s : Nat) (v : List Int) : ∀ n, (stepsF rules s v n).length ≤ n
  | 0 => by simp [stepsF]
  | n + 1 => by
    have := steps_len rules s v n
    unfold stepsF
    split
    · rw [List.length_append]; simp; omega
    · omega
set_option maxRecDepth 100000 in
set_option maxHeartbeats 4000000 in
theorem con_rAll (m : MD) (s : Nat) (v : List Int) (h : GoodM m) (hst : m.rules.all stillB = true) (hc : GoodC m s v) (hb : ∀ x ∈ v, x ≤ 1000000) : Con Tryz.prog 93 [vM m, vV (cfgC s v)] [] fun x _ => x = .tup [.sl 2 3 ((stepsF m.rules s v m.rules.length).map vSt), vi 0] := by
  have e0 := vV_eq (cfgC s v)
  rw [e0]
  refine Con.intro Tryz.func93 rfl Tryz.ntmps93 Tryz.results93 (by kernel_rfl) (by simp) 0 (by simp) ?_
  have h3 := h.few
  simp only [go_sem, vM, cM, vss]
  refine CallU.free (con_rkind m h) (by simp only [go_sem]) (by simp only [go_sem, vM, cM, vss]) ?_
  rintro x bx rfl
  simp only [go_sem]
  refine CallU.free (con_rmvalid m (cfgC s v) h hc.conf) (by simp only [go_sem]) (by simp only [go_sem, vM, cM, vss, e0]) ?_
  rintro x bx rfl
  simp only [go_sem]
  refine LoopK.intro (fun j : Nat => ⟨57, [(2, .pb 0 0), (3, .pb 1 0), (7, .sl 3392 3 ((stepsF m.rules s v (j - 1)).map vSt)), (8, vi ((j : Int) - 1))], [cM m, [vi (cfgC s v).n, .sl 0 2 ((cfgC s v).kids.map vV)]]⟩)
    (fun j => m.rules.length + 1 - j) (fun j => j ≤ m.rules.length + 1) 0 (by omega) ?_ ?_
  · simp only [go_sem, cM, vss, stepsF, Nat.zero_sub, List.map_nil]
  rintro j hj
  have hsl := steps_len m.rules s v (j - 1)
  by_cases hjl : (j : Int) - 1 < (m.rules.length : Int)
  case neg =>
    have hje : j - 1 = m.rules.length := by omega
    have hle := steps_len m.rules s v m.rules.length
    have h256 : ¬ (256 : Int) < ((stepsF m.rules s v m.rules.length).length : Int) := by omega
    rw [hje]
    simp only [go_sem, cM, vss, List.length_map, hjl, h256]
  have hw : IntKind.i64.wrap ((j : Int) - 1 + 1) = ((j + 1 : Nat) : Int) - 1 := by rw [wrap_in (by omega) (by omega)]; omega
  cases j with
  | zero =>
    have hq := con_r22quiet m s v h hc
    rw [e0] at hq
    have e1 : (((0 : Nat) : Int) - 1) = -1 := by omega
    rw [e1] at hjl hw ⊢
    have hw0 : IntKind.i64.wrap (-1 + 1) = ((1 : Nat) : Int) - 1 := rfl
    simp only [go_sem, cM, vss, List.length_map, hjl]
    refine CallU.free hq (by simp only [go_sem]) (by simp only [go_sem, vM, cM, vss]) ?_
    rintro x bx rfl
    simp only [go_sem]
    refine LoopK.intro (fun _ : Nat => ⟨57, [(2, .pb 0 0), (3, .pb 1 0), (7, .sl 3392 3 []), (8, vi (-1)), (9, .nil), (11, vi 0)], [cM m, [vi (cfgC s v).n, .sl 0 2 ((cfgC s v).kids.map vV)]]⟩) (fun i => i) (fun _ => True) 0 trivial ?_ ?_
    · simp only [go_sem, cM, vss, stepsF, List.map_nil]
    rintro q _
    simp only [go_sem, cM, vss]
    refine roundK.intro 1 (by omega) (by omega) ?_
    simp only [go_sem, stepsF, List.map_nil]
    all_goals exact leV_int rfl
  | succ i =>
    have hil : i < m.rules.length := by omega
    have e1 : (((i + 1 : Nat) : Int) - 1) = (i : Int) := by omega
    rw [e1] at hjl hw ⊢
    cases he : enF m.rules[i]! s v
    · have hq := con_r22no m i s v h hil hc he
      rw [e0] at hq
      simp only [go_sem, cM, vss, List.length_map, hjl]
      refine CallU.free hq (by simp only [go_sem]) (by simp only [go_sem, vM, cM, vss]) ?_
      rintro x bx rfl
      simp only [go_sem]
      refine LoopK.intro (fun _ : Nat => ⟨57, [(2, .pb 0 0), (3, .pb 1 0), (7, .sl 3392 3 ((stepsF m.rules s v i).map vSt)), (8, vi i), (9, .nil), (11, vi 0)], [cM m, [vi (cfgC s v).n, .sl 0 2 ((cfgC s v).kids.map vV)]]⟩) (fun i => i) (fun _ => True) 0 trivial ?_ ?_
      · simp only [go_sem, cM, vss, Nat.add_sub_cancel]
      rintro q _
      have hwi : IntKind.i64.wrap ((i : Int) + 1) = i + 1 := wrap_in (by omega) (by omega)
      have es : stepsF m.rules s v (i + 1) = stepsF m.rules s v i := by rw [stepsF, he]; rfl
      simp only [go_sem, cM, vss, hwi]
      refine roundK.intro (i + 1 + 1) (by omega) (by omega) ?_
      simp only [go_sem, Nat.add_sub_cancel, es]
      all_goals exact leV_int (by omega)
    · have hq := con_r22yes m i s v h hst hil hc hb he
      rw [e0] at hq
      simp only [go_sem, cM, vss, List.length_map, hjl]
      refine CallU.free hq (by simp only [go_sem]) (by simp only [go_sem, vM, cM, vss]) ?_
      rintro x bx rfl
      have es : stepsF m.rules s v (i + 1) = stepsF m.rules s v i ++ [⟨i, m.rules[i]!.dst.toNat, fireF m.rules[i]! v⟩] := by rw [stepsF, he]; rfl
      have hwi : IntKind.i64.wrap ((i : Int) + 1) = i + 1 := wrap_in (by omega) (by omega)
      have hlen := steps_len m.rules s v i
      have hro : roomFor ((stepsF m.rules s v i).length + 1) 40 := by simp only [roomFor]; omega
      simp only [go_sem]
      refine LoopK.intro (fun k : Nat => ⟨57, [(2, .pb 0 0), (3, .pb 1 0), (7, .sl 3392 3 ((stepsF m.rules s v (i + k)).map vSt)), (8, vi i), (9, .sl 2114 2 [cfgN 0 m.rules[i]!.dst.toNat (fireF m.rules[i]! v)]), (11, vi k)], [cM m, [vi (cfgC s v).n, .sl 0 2 ((cfgC s v).kids.map vV)]]⟩) (fun k => 1 - k) (fun k => k ≤ 1) 0 (by omega) ?_ ?_
      · simp only [go_sem, cM, vss, Nat.add_sub_cancel, Nat.add_zero]
        all_goals exact leV_refl _
      rintro k hk
      obtain rfl | rfl : k = 0 ∨ k = 1 := by omega
      · simp only [go_sem, cM, vss, Nat.add_zero, List.length_cons, List.length_nil, hro]
        refine roundK.intro 1 (by omega) (by omega) ?_
        simp only [go_sem, es, List.map_append, List.map_cons, List.map_nil]
        all_goals exact leV_int rfl
      · simp only [go_sem, cM, vss, List.length_cons, List.length_nil, hwi]
        refine roundK.intro (i + 1 + 1) (by omega) (by omega) ?_
        simp only [go_sem, Nat.add_sub_cancel]
        all_goals exact leV_int (by omega)
end Go.AM

/-! ## CmU -/
namespace Go.AM
open Go Go.Proofs Go.RowKit

def vq (x : Int) : AV := .sc (.int .u64 x)
attribute [go_sem] vq
set_option maxRecDepth 100000 in
theorem con_mul64 (n : Nat) (hn : n ≤ 8) : Con Tryz.prog 201 [vq 1, vq n] [] fun r _ => r = .tup [vq 0, vq n] := by
  refine Con.intro Tryz.func201 rfl Tryz.ntmps201 Tryz.results201 (by kernel_rfl) (by simp) 0 (by simp) ?_
  simp only [go_sem]
  have h : n = 0 ∨ n = 1 ∨ n = 2 ∨ n = 3 ∨ n = 4 ∨ n = 5 ∨ n = 6 ∨ n = 7 ∨ n = 8 := by omega
  rcases h with rfl | rfl | rfl | rfl | rfl | rfl | rfl | rfl | rfl <;> (show AV.tup _ = AV.tup _; first | rfl | kernel_rfl)
set_option maxRecDepth 100000 in
theorem con_mul (n : Nat) (hn : n ≤ 8) : Con Tryz.prog 159 [vq 1, vq n] [] fun r _ => r = .tup [vq 0, vq n] := by
  refine Con.intro Tryz.func159 rfl Tryz.ntmps159 Tryz.results159 (by kernel_rfl) (by simp) 0 (by simp) ?_
  simp only [go_sem]
  refine CallU.free (con_mul64 n hn) (by simp only [go_sem]) (by simp only [go_sem]) ?_
  rintro r bx rfl
  simp only [go_sem]
theorem rep_zero (n : Nat) : List.replicate n (AV.sc (.int .i64 0)) = (List.replicate n (0 : Int)).map vi := by simp [vi]
theorem leafAll_vi (l : List Int) : leafAll (l.map vi) = true := by simp [leafAll, vi, AV.leafy]
theorem setSeg_all {y : Int} {l m : List Int} {k : Nat} (hf : k + m.length ≤ l.length) (hl : ∀ j, j < k → l[j]! = y) (hm : ∀ x ∈ m, x = y) : ∀ j, j < k + m.length → (setSeg l k m)[j]! = y := by
  intro j hj
  rw [setSeg_eq _ _ _ hf]
  have hk : k ≤ l.length := by omega
  by_cases h : j < k
  · have h2 := hl j h
    rw [getElem!_pos l j (by omega)] at h2
    rw [List.append_assoc, getElem!_pos _ j (by simp; omega), List.getElem_append_left (by simp; omega), List.getElem_take]; exact h2
  · rw [getElem!_pos _ j (by simp; omega), List.getElem_append_left (by simp; omega), List.getElem_append_right (by simp; omega)]
    exact hm _ (List.getElem_mem _)
set_option maxRecDepth 100000 in
theorem con_repeat (y : Int) (n : Nat) (h1 : 1 ≤ n) (hn : n ≤ 8) : Con Tryz.prog 98 [vs 0 [y], vi n] [] fun r _ => r = vs 2 (List.replicate n y) := by
  refine Con.intro Tryz.func98 rfl Tryz.ntmps98 Tryz.results98 (by kernel_rfl) (by simp) 0 (by simp) ?_
  have g0 : ¬ (n : Int) < 0 := by omega
  have w1 : IntKind.u64.wrap (1 : Int) = 1 := by kernel_rfl
  have w2 : IntKind.u64.wrap (n : Int) = n := by rw [IntKind.wrap_u64]; omega
  have w3 : IntKind.i64.wrap (n : Int) = n := wrap_in (by omega) (by omega)
  have g1 : ¬ (9223372036854775807 : Int) < n := by omega
  simp only [go_sem, g0, w1, w2]
  refine CallU.free (con_mul n hn) (by simp only [go_sem]) (by simp only [go_sem]) ?_
  rintro r bx rfl
  have t1 : List.take (n - 0) [AV.sc (Value.int .i64 y)] = [y].map vi := by
    rw [List.take_of_length_le (by simp; omega)]; simp [vi]
  have hl1 : leafAll [AV.sc (Value.int .i64 y)] = true := rfl
  have m1 : min 1 (n - 0) = 1 := by omega
  simp only [go_sem, g1, w3, rep_zero, List.length_replicate, t1, m1, List.map_cons, List.map_nil]
  refine ⟨Nat.le_refl _, by omega, by omega, by omega, ?_⟩
  refine LoopK.intro (fun p : List Int × Nat => ⟨48, [(4, .nil), (7, .sl 1984 1 (p.1.map vi)), (8, .sc (.int .i64 p.2))], []⟩)
    (fun p => n - p.2) (fun p => 1 ≤ p.2 ∧ p.2 ≤ n ∧ p.1.length = n ∧ ∀ j, j < p.2 → p.1[j]! = y) (setSeg (List.replicate n 0) 0 [y], 1) ⟨by simp, h1, by simp [setSeg_length], fun j hj => ?_⟩ ?_ ?_
  · have : j = 0 := by simp at hj; exact hj
    subst this
    have h0 : 0 < n := by omega
    simp [setSeg, h0]
  · simp only [go_sem, setSeg, List.map_set]
  rintro ⟨l, k⟩ ⟨k1, k2, k3, k4⟩
  simp only at k1 k2 k3 k4
  by_cases hk : k < n
  case neg =>
    have e : l = List.replicate n y := by
      apply List.ext_getElem?
      intro j
      by_cases hj : j < n
      · have := k4 j (by omega)
        rw [List.getElem?_replicate, if_pos hj, ← this]; simp [k3, hj]
      · rw [List.getElem?_eq_none (by omega), List.getElem?_eq_none (by simp; omega)]
    simp only [go_sem, hk, k3]
    rw [e]
  simp only [go_sem, hk, k3]
  refine DrawK.front [0] 7 mixed (by kernel_rfl) ?_
  have q0 : ¬ k = 0 := by omega
  have tk : ∀ m : Nat, List.take m (List.map vi l) = (List.take m l).map vi := fun m => List.map_take.symm
  have tk2 : List.take (n - k) (List.map vi (List.take k l)) = ((l.take k).take (n - k)).map vi := List.map_take.symm
  have hmin : min (min k n) (n - k) = min k (n - k) := by omega
  have hw : IntKind.i64.wrap (k + (min k (n - k) : Nat)) = (k + min k (n - k) : Nat) := by rw [wrap_in (by omega) (by omega)]; omega
  simp only [go_sem, hk, k3, k2, List.length_take, tk, tk2, setSeg_map, hmin, hw]
  have hml : ((l.take k).take (n - k)).length = min k (n - k) := by simp only [List.length_take]; omega
  have hmt : ∀ x ∈ (l.take k).take (n - k), x = y := fun x hx => by
    have hx := List.mem_of_mem_take hx
    obtain ⟨j, hj⟩ := List.getElem?_of_mem hx
    rw [List.getElem?_take] at hj
    split at hj
    · rename_i hjk
      have := k4 j hjk
      rw [bang_of hj] at this; exact this
    · cases hj
  have hset := setSeg_all (l := l) (m := (l.take k).take (n - k)) (k := k) (by rw [hml]; omega) k4 hmt
  rw [hml] at hset
  refine ⟨by omega, leafAll_vi _, roundK.intro (setSeg l k ((l.take k).take (n - k)), k + min k (n - k)) ⟨by show 1 ≤ k + min k (n - k); omega, by show k + min k (n - k) ≤ n; omega, by show (setSeg _ _ _).length = n; rw [setSeg_length]; exact k3, hset⟩ (by show n - (k + min k (n - k)) < n - k; omega) ?_⟩
  simp only [go_sem]
set_option maxRecDepth 100000 in
theorem con_clone (l : List Int) (h1 : 1 ≤ l.length) (h2 : l.length ≤ 1000000) : Con Tryz.prog 68 [vs 0 l] [] fun r _ => r = vs 2 l := by
  refine Con.intro Tryz.func68 rfl Tryz.ntmps68 Tryz.results68 (by kernel_rfl) (by simp) 0 (by simp) ?_
  cases l with
  | nil => simp at h1
  | cons x l =>
    simp only [List.length_cons] at h2
    simp only [go_sem]
    simp only [roomFor]
    omega
end Go.AM

/-! ## CmV -/
namespace Go.AM
open Go Go.Proofs Go.RowKit

@[go_sem] theorem mapB_killS_Rk {ts : List Nat} {c k : Nat} : mapB (killS ts) (Rk c k) = Rk c k := mapB_Rk rfl c k
@[go_sem] theorem mapB_mv_Rk {a b c k : Nat} : mapB (mvLeaf a b) (Rk c k) = Rk c k := mapB_Rk rfl c k
/-- the search's variable -/
def spreadC (m : MD) (c : List Int) (mod : Int) (t : Nat) (v : List Int) : List AV := [vi m.kind, vss m.states, vss m.places, vss m.letters, vs 0 m.ranks, vi m.levels, vi m.age, .sl 0 14 (m.rules.map vRule), vi m.start.n, .sl 0 2 (m.start.kids.map vV), vs 0 c, vi mod, vs t v]
attribute [go_sem] spreadC
set_option maxRecDepth 100000 in
set_option maxHeartbeats 4000000 in
theorem con_flow (m : MD) (c : List Int) (mod : Int) (v : List Int) (r : RD) (ns np : Nat) (hr : FineR ns np r) (hc : c.length = np) (hp : np ≤ 6) (h4 : SmallI 4 c) (hm : ModOk mod) (hv : v.length = ns) (hB : InB 1125899906842624 v) :
    ConX Tryz.prog 160 [.pb 0 0, vRule r] [spreadC m c mod 2 v] fun x b => x = .tup [vb (flowF mod c r v).1, vb (flowF mod c r v).2.1] ∧ b = [spreadC m c mod 2 (flowF mod c r v).2.2] := by
  refine ConX.intro Tryz.func160 rfl Tryz.ntmps160 Tryz.results160 (by kernel_rfl) (by simp) 1 (by simp) ?_
  obtain ⟨r1, r2, r3, r4, r5, r6⟩ := hr.right
  have hmo := hm
  unfold ModOk at hmo
  have hsl : r.src.toNat < v.length := by omega
  have hdl : r.dst.toNat < v.length := by omega
  have gs := getv hsl
  have gd := getv hdl
  simp only [go_sem]
  refine DrawK.walk 19 mixed (by kernel_rfl) ?_
  simp only [go_sem, r1, r3, gs]
  refine ⟨by omega, by omega, ?_⟩
  by_cases ho : v[r.src.toNat]! = 1099511627776
  · have e : flowF mod c r v = (false, true, v) := by unfold flowF omegaI; rw [if_pos ho]
    have ho' : (v[r.src.toNat]! == 1099511627776) = true := beq_iff_eq.2 ho
    simp only [go_sem, ho', e]
  have ho' : (v[r.src.toNat]! == 1099511627776) = false := beq_eq_false_iff_ne.2 ho
  have hE := effect_small hr (by omega) h4
  have hV := (hB r.src.toNat).resolve_left ho
  have hw2 : IntKind.i64.wrap (v[r.src.toNat]! + effectF c r) = v[r.src.toNat]! + effectF c r := wrap_in (by omega) (by omega)
  have hset : (List.map vi v).modify r.dst.toNat (updElem 0 [AV.sc (.int .i64 (nextF mod c r v))]) = (v.set r.dst.toNat (nextF mod c r v)).map vi := modify_vi
  simp only [go_sem, ho']
  refine DrawK.walk 10 mixed (by kernel_rfl) ?_
  simp only [go_sem]
  refine CallY.mk (con_effect c r (by omega) (by omega) (by omega) h4 hr.give hr.need) (by simp only [go_sem]) (by simp only [go_sem]) (.inl (by simp only [go_sem])) ?_
  by_cases hp0 : 0 < mod
  · have hm0 : (mod == 0) = false := beq_eq_false_iff_ne.2 (by omega)
    have hn : restF (v[r.src.toNat]! + effectF c r) mod = nextF mod c r v := by unfold nextF; rw [if_pos hp0]
    simp only [go_sem, hw2, hp0]
    refine CallU.free (con_rest (v[r.src.toNat]! + effectF c r) mod (by omega) (by omega)) (by simp only [go_sem]) (by simp only [go_sem]) ?_
    rintro x bx rfl
    by_cases hd : v[r.dst.toNat]! = 1099511627776
    · have e : flowF mod c r v = (true, true, v.set r.dst.toNat (nextF mod c r v)) := by unfold flowF omegaI; rw [if_neg ho, if_pos (.inl hd)]
      have hd' : (v[r.dst.toNat]! == 1099511627776) = true := beq_iff_eq.2 hd
      simp only [go_sem, hn, gd, hd', hset, e]
    have hd' : (v[r.dst.toNat]! == 1099511627776) = false := beq_eq_false_iff_ne.2 hd
    by_cases hq : nextF mod c r v = v[r.dst.toNat]!
    · have e : flowF mod c r v = (false, true, v) := by unfold flowF omegaI; rw [if_neg ho, if_neg (by omega), if_neg (fun h => h.2 hq)]
      have hq' : (nextF mod c r v != v[r.dst.toNat]!) = false := by rw [hq]; simp
      simp only [go_sem, hn, gd, hd', hm0, hp0, hq', e]
    · have e : flowF mod c r v = (false, false, v) := by unfold flowF omegaI; rw [if_neg ho, if_neg (by omega), if_pos ⟨hp0, hq⟩]
      have hq' : (nextF mod c r v != v[r.dst.toNat]!) = true := bne_iff_ne.2 hq
      simp only [go_sem, hn, gd, hd', hm0, hp0, hq', e]
  · have hz : mod = 0 := by omega
    have hm0 : (mod == 0) = true := beq_iff_eq.2 hz
    have hn : v[r.src.toNat]! + effectF c r = nextF mod c r v := by unfold nextF; rw [if_neg hp0]
    have hw3 : IntKind.i64.wrap (nextF mod c r v) = nextF mod c r v := by rw [← hn]; exact hw2
    by_cases hd : v[r.dst.toNat]! = 1099511627776
    · have e : flowF mod c r v = (true, true, v.set r.dst.toNat (nextF mod c r v)) := by unfold flowF omegaI; rw [if_neg ho, if_pos (.inl hd)]
      have hd' : (v[r.dst.toNat]! == 1099511627776) = true := beq_iff_eq.2 hd
      simp only [go_sem, hw3, hp0, hn, gd, hd', hset, e]
    have hd' : (v[r.dst.toNat]! == 1099511627776) = false := beq_eq_false_iff_ne.2 hd
    by_cases hq : nextF mod c r v < v[r.dst.toNat]!
    · have e : flowF mod c r v = (true, true, v.set r.dst.toNat (nextF mod c r v)) := by unfold flowF omegaI; rw [if_neg ho, if_pos (.inr ⟨hz, hq⟩)]
      simp only [go_sem, hw3, hp0, hn, gd, hd', hm0, hq, hset, e]
    · have e : flowF mod c r v = (false, true, v) := by unfold flowF omegaI; rw [if_neg ho, if_neg (by omega), if_neg (fun h => hp0 h.1)]
      simp only [go_sem, hw3, hp0, hn, gd, hd', hm0, hq, e]
set_option maxRecDepth 100000 in
set_option maxHeartbeats 4000000 in
theorem con_round (m : MD) (c : List Int) (mod : Int) (v : List Int) (ns np : Nat) (hr : ∀ r ∈ m.rules, FineR ns np r) (hrl : m.rules.length ≤ 12) (hc : c.length = np) (hp : np ≤ 6) (h4 : SmallI 4 c) (hm : ModOk mod) (hv : v.length = ns) (hB : InB 562949953421312 v) :
    ConX Tryz.prog 102 [.pb 0 0] [spreadC m c mod 2 v] fun x b => (∃ ch w, roundF mod c m.rules false v = some (ch, w) ∧ x = .tup [vb ch, vb true] ∧ b = [spreadC m c mod 2 w]) ∨ (∃ w, roundF mod c m.rules false v = none ∧ x = .tup [vb false, vb false] ∧ b = [spreadC m c mod 2 w]) := by
  refine ConX.intro Tryz.func102 rfl Tryz.ntmps102 Tryz.results102 (by kernel_rfl) (by simp) 1 (by simp) ?_
  have hmo := hm
  unfold ModOk at hmo
  simp only [go_sem]
  refine LoopK.intro (fun q : Nat × Bool × List Int => ⟨33, [(0, .pb 0 0), (2, vb false), (3, vb false), (4, vb q.2.1), (13, .sl 0 14 (m.rules.map vRule)), (14, vi m.rules.length), (15, vi q.1)], spreadC m c mod 2 q.2.2 :: Rk 14 q.1⟩)
    (fun q => m.rules.length - q.1) (fun q => q.1 ≤ m.rules.length ∧ q.2.2.length = ns ∧ InB (562949953421312 + q.1 * 50331648) q.2.2 ∧ roundF mod c (m.rules.drop q.1) q.2.1 q.2.2 = roundF mod c m.rules false v) (0, false, v) ⟨by simp, hv, by simpa using hB, rfl⟩ ?_ ?_
  · simp only [go_sem]
    exact leB_self _
  rintro ⟨i, ch, w⟩ ⟨hi, hw, hBw, he⟩
  simp only at hi hw hBw he
  by_cases h : i < m.rules.length
  · have hg := getRule h
    have hwi : IntKind.i64.wrap (i + 1) = i + 1 := wrap_in (by omega) (by omega)
    have hB' := Rk_len 14 i
    have n0 := fun L : List (List AV) => app_at0 (L := L) hB'
    have s0' := fun (L : List (List AV)) z => app_set0 (L := L) (z := z) hB'
    have hf := hr m.rules[i]! (mem_bangI h)
    obtain ⟨r1, r2, r3, r4, r5, r6⟩ := hf.right
    have hfl := con_flow m c mod w m.rules[i]! ns np hf hc hp h4 hm hw (hBw.mono (by omega))
    have ed : m.rules.drop i = m.rules[i]! :: m.rules.drop (i + 1) := by rw [List.drop_eq_getElem_cons h, getElem!_pos m.rules i h]
    rw [ed, roundF] at he
    simp only [go_sem, h, hg, hB', n0, s0']
    refine CallU.own (i := 0) (is := []) (bx0 := [spreadC m c mod 2 w]) hfl (by simp only [go_sem]) (by simp only [go_sem]) [2] (by simp only [go_sem]) (by simp only [go_sem]) (by simp only [go_sem]) (by simp only [go_sem]) ?_
    rintro x b ⟨rfl, rfl⟩
    cases hok : (flowF mod c m.rules[i]! w).2.1
    · rw [hok] at he
      simp only [go_sem]
      exact .inr ⟨_, he.symm, rfl⟩
    rw [hok, if_pos rfl] at he
    have hb2 := flow_bnd (mod := mod) (coefs := c) (r := m.rules[i]!) (v := w) (by omega) (by omega) (by omega) (effect_small hf (by omega) h4) hBw
    have hl2 := flow_len mod c m.rules[i]! w
    cases hch : ch
    · rw [hch, Bool.false_or] at he
      simp only [go_sem, hwi]
      refine roundK.mv 1474 2 (by omega) (by omega) (by omega) (i + 1, (flowF mod c m.rules[i]! w).1, (flowF mod c m.rules[i]! w).2.2) ⟨by show i + 1 ≤ _; omega, by show (flowF mod c m.rules[i]! w).2.2.length = ns; omega, hb2.mono (by show _ ≤ (562949953421312 : Int) + ((i + 1 : Nat) : Int) * 50331648; omega), he⟩ (by show m.rules.length - (i + 1) < m.rules.length - i; omega) ?_
      simp only [go_sem, Rk_succ]
      exact ⟨leV_refl _, leB_RkA ⟨leC_any _ 14 rfl, trivial⟩⟩
    · rw [hch, Bool.true_or] at he
      simp only [go_sem, hwi]
      refine roundK.mv 1474 2 (by omega) (by omega) (by omega) (i + 1, true, (flowF mod c m.rules[i]! w).2.2) ⟨by show i + 1 ≤ _; omega, by show (flowF mod c m.rules[i]! w).2.2.length = ns; omega, hb2.mono (by show _ ≤ (562949953421312 : Int) + ((i + 1 : Nat) : Int) * 50331648; omega), he⟩ (by show m.rules.length - (i + 1) < m.rules.length - i; omega) ?_
      simp only [go_sem, Rk_succ]
      exact ⟨leV_refl _, leB_RkA ⟨leC_any _ 14 rfl, trivial⟩⟩
  · obtain rfl : i = m.rules.length := by omega
    rw [List.drop_length, roundF] at he
    simp only [go_sem, h]
    exact .inl ⟨ch, w, he.symm, rfl, rfl⟩
end Go.AM

/-! ## CmW -/
namespace Go.AM
open Go Go.Proofs Go.RowKit

theorem con_cloneF (l : List Int) (h1 : 1 ≤ l.length) (h2 : l.length ≤ 1000000) : Con Tryz.prog 68 [vs 0 l] [] fun r _ => r = vs 0 l :=
  (Con.freezeR (fun _ => true) (con_clone l h1 h2)).weak fun r b ⟨r0, h0, h1⟩ => by
    subst h0; subst h1
    exact ⟨_, rfl, leV_refl _⟩
theorem memless_vi (l : List Int) : (l.map vi).all memless = true := by rw [List.all_map, List.all_eq_true]; exact fun _ _ => rfl
/-- what the search answers -/
def potR (mod : Int) (c : List Int) (rules : List RD) (ns : Nat) (v0 : List Int) : Option (List Int) := potF mod c rules ns (beginF mod ns (sumF c v0))
def noA : AV := .ag [.nil, vi 0, .nil]
def potV (c : List Int) (mod : Int) : Option (List Int) → AV
  | some w => .tup [.ag [vs 0 c, vi mod, vs 2 w], vb true, vi 0]
  | none => .tup [noA, vb false, vi 0]
attribute [go_sem] noA
theorem begin_set {mod : Int} {ns : Nat} {f0 : Int} : (List.map vi (List.replicate ns 1099511627776)).modify 0 (updElem 0 [AV.sc (.int .i64 (firstF mod f0))]) = (beginF mod ns f0).map vi := modify_vi
theorem begin_bnd {mod : Int} {ns : Nat} {f0 : Int} (hns : 0 < ns) (hm : ModOk mod) (hf : -25165824 ≤ f0 ∧ f0 ≤ 25165824) : InB 25165824 (beginF mod ns f0) := fun s => by
  by_cases hs : s < ns
  · cases s with
    | zero =>
      rw [begin_zero hns]
      right
      unfold firstF ModOk at *
      split
      · rename_i h
        rw [restF_emod h]
        have h1 := Int.emod_nonneg f0 (show mod ≠ 0 by omega)
        have h2 := Int.emod_lt_of_pos f0 h
        omega
      · exact hf
    | succ s => exact .inl (begin_succ hns hs)
  · have : (beginF mod ns f0)[s]! = 0 := by rw [getElem!_neg _ s (by rw [begin_len]; exact hs)]; rfl
    rw [this]; right; omega
set_option maxRecDepth 100000 in
set_option maxHeartbeats 4000000 in
theorem con_Potential (m : MD) (c : List Int) (mod : Int) (v0 : List Int) (h : PlainM m 0 v0) (hc : c.length = m.places.length) (h4 : SmallI 4 c) (hm : ModOk mod) :
    Con Tryz.prog 37 [vM m, vs 0 c, vi mod] [] fun x _ => x = potV c mod (potR mod c m.rules m.states.length v0) := by
  refine Con.intro Tryz.func37 rfl Tryz.ntmps37 Tryz.results37 (by kernel_rfl) (by simp) 0 (by simp) ?_
  have h1 := h.good.states
  have h2 := h.good.places
  have h3 := h.good.few
  have hmo := hm
  unfold ModOk at hmo
  have c1 : ((c.length : Int) != (m.places.length : Int)) = false := by rw [hc]; simp
  have hsum := sum_small h4 h.conf.small
  have hs6 := mul_le6 (n := c.length) (by omega)
  have hl0 := h.conf.len
  have hk : m.start.kids = .mk 0 [] :: v0.map fun n => .mk n [] := by rw [h.start]; rfl
  have hn0 : m.start.n = 0 := by rw [h.start]; rfl
  have hg0 : (m.start.kids.map vV)[0]? = some (.ag [.sc (.int .i64 0), .sl 0 2 []]) := by rw [hk]; exact getvV (l := .mk 0 [] :: v0.map fun n => CV.mk n []) (by simp)
  have hkl : 0 < m.start.kids.length := by rw [hk]; simp
  have hn := con_numbers m.start.n (.mk 0 []) (v0.map fun n => .mk n []) (by simp; omega)
  rw [cfg_nums, ← hk] at hn
  simp only [go_sem]
  refine CallU.free (con_counts m h.good h.still) (by simp only [go_sem]) (by simp only [go_sem]) ?_
  rintro r bx rfl
  simp only [go_sem, c1]
  refine CallU.free (con_fits c h4 (by omega)) (by simp only [go_sem]) (by simp only [go_sem]) ?_
  rintro r bx rfl
  simp only [go_sem]
  refine CallU.free (con_modulus mod hm) (by simp only [go_sem]) (by simp only [go_sem]) ?_
  rintro r bx rfl
  simp only [go_sem]
  refine DrawK.walk 11 mixed (by kernel_rfl) ?_
  simp only [go_sem]
  refine CallY.mk (con_cloneF c (by omega) (by omega)) (by simp only [go_sem]) (by simp only [go_sem]) (.inl (by simp only [go_sem])) ?_
  simp only [go_sem]
  refine CallY.mk (con_repeat 1099511627776 m.states.length h1.1 h1.2) (by simp only [go_sem, List.map_cons, List.map_nil]) (by simp only [go_sem]) (.inr (by simp only [go_sem, memless_vi])) ?_
  simp only [go_sem]
  refine CallU.free hn (by simp only [go_sem]) (by simp only [go_sem]) ?_
  rintro r bx rfl
  simp only [go_sem]
  refine CallU.flat (con_sum c v0 (by omega) (by omega) h4 h.conf.small) (by simp only [go_sem]) (by simp only [go_sem]) ?_
  rintro r bx rfl
  by_cases hp0 : 0 < mod
  case' pos =>
    simp only [go_sem, hp0]
    refine CallU.free (con_rest (sumF c v0) mod (by omega) (by omega)) (by simp only [go_sem]) (by simp only [go_sem]) ?_
    rintro r bx rfl
    have hf : restF (sumF c v0) mod = firstF mod (sumF c v0) := by unfold firstF; rw [if_pos hp0]
    rw [hf]
    simp only [go_sem]
  case' neg =>
    have hf : sumF c v0 = firstF mod (sumF c v0) := by unfold firstF; rw [if_neg hp0]
    rw [hf]
    simp only [go_sem, hp0]
  all_goals
    refine DrawK.meet ⟨110, [(3, .pb 0 0), (6, .pb 1 0), (7, vb false), (8, vi 0), (10, .pb 2 0)], [cM m, [.any, .any, .any], spreadC m c mod 3138 (beginF mod m.states.length (sumF c v0))]⟩ ?_ ?_
    · refine DrawK.walk 13 mixed (by kernel_rfl) ?_
      simp only [go_sem, hkl, hg0, List.length_replicate]
      refine ⟨by omega, ?_⟩
      rw [begin_set]
      exact leV_refl _
    · simp only [go_sem]
      refine LoopK.intro (fun q : Nat × List Int => ⟨110, [(3, .pb 0 0), (6, .pb 1 0), (7, vb false), (8, vi 0), (10, .pb 2 0), (77, vi m.states.length), (78, vi q.1)], [cM m, [.any, .any, .any], spreadC m c mod 3138 q.2]⟩)
        (fun q => m.states.length - q.1) (fun q => q.1 ≤ m.states.length ∧ q.2.length = m.states.length ∧ InB (25165824 + q.1 * 603979776) q.2 ∧ potF mod c m.rules (m.states.length - q.1) q.2 = potR mod c m.rules m.states.length v0) (0, beginF mod m.states.length (sumF c v0)) ⟨by simp, begin_len _ _ _, by simpa using begin_bnd (by omega) hm ⟨by omega, by omega⟩, rfl⟩ ?_ ?_
      · simp only [go_sem]
      rintro ⟨i, w⟩ ⟨hi, hw, hB, he⟩
      simp only at hi hw hB he
      have hR : RulesIn m.states.length m.rules := fun r hr => by have := (h.fine r hr).right; unfold RightR at this; omega
      have hE : ∀ r ∈ m.rules, -50331648 ≤ effectF c r ∧ effectF c r ≤ 50331648 := fun r hr => effect_small (h.fine r hr) (by omega) h4
      have hrd := con_round m c mod w m.states.length m.places.length h.fine h3 hc (by omega) h4 hm hw (hB.mono (by omega))
      by_cases hlt : i < m.states.length
      · have hwi : IntKind.i64.wrap (i + 1) = i + 1 := wrap_in (by omega) (by omega)
        rw [show m.states.length - i = (m.states.length - (i + 1)) + 1 by omega, potF] at he
        simp only [go_sem, hlt]
        refine CallU.own (i := 2) (is := []) (bx0 := [spreadC m c mod 3138 w]) hrd (by simp only [go_sem]) (by simp only [go_sem]) [3138] (by simp only [go_sem]) (by simp only [go_sem]) (by simp only [go_sem]) (by simp only [go_sem]) ?_
        rintro x b (⟨ch, w', hq, rfl, rfl⟩ | ⟨w', hq, rfl, rfl⟩)
        · cases ch
          · rw [hq] at he
            simp only at he
            rw [← he]
            simp only [go_sem, potV]
          · rw [hq] at he
            simp only at he
            have hb2 := round_bnd (by omega) hR hE hw (by omega) hB hq
            simp only [go_sem, hwi]
            refine roundK.mv 5314 3138 (by omega) (by omega) (by omega) (i + 1, w') ⟨by show i + 1 ≤ _; omega, hb2.1, hb2.2.mono (by show _ ≤ (25165824 : Int) + ((i + 1 : Nat) : Int) * 603979776; omega), he⟩ (by show m.states.length - (i + 1) < m.states.length - i; omega) ?_
            simp only [go_sem]
            exact leV_refl _
        · rw [hq] at he
          simp only at he
          rw [← he]
          simp only [go_sem, potV]
      · obtain rfl : i = m.states.length := by omega
        rw [Nat.sub_self, potF] at he
        simp only [go_sem, hlt]
        refine CallU.own (i := 2) (is := []) (bx0 := [spreadC m c mod 3138 w]) hrd (by simp only [go_sem]) (by simp only [go_sem]) [3138] (by simp only [go_sem]) (by simp only [go_sem]) (by simp only [go_sem]) (by simp only [go_sem]) ?_
        rintro x b (⟨ch, w', hq, rfl, rfl⟩ | ⟨w', hq, rfl, rfl⟩)
        · cases ch
          · rw [hq] at he
            simp only at he
            rw [← he]
            simp only [go_sem, potV]
          · rw [hq] at he
            simp only at he
            rw [← he]
            simp only [go_sem, potV]
        · rw [hq] at he
          simp only at he
          rw [← he]
          simp only [go_sem, potV]
end Go.AM

/-! ## CmX -/
namespace Go.AM
open Go Go.Proofs Go.RowKit

/-! ### configurations and models as they are built: what is empty is nil -/
theorem flat_cons (x : AV) (l : List AV) : flat (x :: l) = x.cells ++ flat l := by simp [flat]
theorem kids_pw : ∀ l : List Int, PW Sub (flat (l.map kidN)) (flat ((l.map fun n => CV.mk n []).map vV))
  | [] => PW.nil _
  | n :: l => by
    rw [List.map_cons, List.map_cons, List.map_cons, flat_cons, flat_cons, vV_eq]
    exact PW.append (PW.cons (Sub.refl _) (PW.cons (Sub.nil 2) (PW.nil _))) (kids_pw l)
theorem cfg_le (s : Nat) (v : List Int) : leV (cfgN 0 s v) (vV (cfgC s v)) := by
  rw [vV_eq]
  refine leV_ag ⟨leV_refl _, ?_, trivial⟩
  show leV (.sl 0 2 (((s : Int) :: v).map kidN)) (.sl 0 2 ((((s : Int) :: v).map fun n => CV.mk n []).map vV))
  exact leV_slE (by simp) (fun y hy => by
    obtain ⟨x, _, rfl⟩ := List.mem_map.1 hy
    rw [vV_eq]; rfl) (kids_pw _)
/-- a counter model's rule without moves -/
def ruleN (r : RD) : AV := .ag [vStr r.name, vi r.src, vi r.dst, vs 0 r.need, vs 0 r.give, .nil, vi 0, vi 0, vi 0, .nil, .nil, .nil, .nil, vi 0]
attribute [go_sem] ruleN
def ThinR (r : RD) : Prop := r = bareR r.name r.src r.dst r.need r.give []
theorem rules_pw : ∀ l : List RD, (∀ r ∈ l, ThinR r) → PW Sub (flat (l.map ruleN)) (flat (l.map vRule))
  | [], _ => PW.nil _
  | r :: l, h => by
    rw [List.map_cons, List.map_cons, flat_cons, flat_cons]
    refine PW.append ?_ (rules_pw l fun x hx => h x (List.mem_cons_of_mem _ hx))
    rw [h r (List.mem_cons_self ..)]
    have e1 : Sub .nil (vs 0 []) := Sub.nil 1
    have e3 : Sub .nil (.sl 0 3 (([] : List (Int × Int × Int)).map vTake)) := Sub.nil 3
    exact PW.cons (Sub.refl _) (PW.cons (Sub.refl _) (PW.cons (Sub.refl _) (PW.cons (Sub.refl _) (PW.cons (Sub.refl _) (PW.cons e1 (PW.cons (Sub.refl _) (PW.cons (Sub.refl _) (PW.cons (Sub.refl _) (PW.cons e1 (PW.cons e1 (PW.cons e3 (PW.cons e1 (PW.cons (Sub.refl _) (PW.nil _))))))))))))))
/-- a counter model without moves, as it is built -/
def modelN (m : MD) (t s0 : Nat) (v0 : List Int) : AV := .ag [vi 1, vss m.states, vss m.places, .nil, .nil, vi 0, vi 0, .sl t 14 (m.rules.map ruleN), vi 0, .sl t 2 (((s0 : Int) :: v0).map kidN)]
attribute [go_sem] modelN
theorem model_le {m : MD} {s0 : Nat} {v0 : List Int} (h : GoodM m) (hr : ∀ r ∈ m.rules, ThinR r) (hs : m.start = cfgC s0 v0) : leV (modelN m 0 s0 v0) (vM m) := by
  have hc := cfg_le s0 v0
  rw [vV_eq] at hc
  unfold modelN vM cM
  rw [h.kind, h.letters, h.ranks, h.levels, h.age, hs]
  refine leV_ag ⟨leV_refl _, leV_refl _, leV_refl _, leV_nil 0 1, leV_nil 0 1, leV_refl _, leV_refl _, ?_, leV_refl _, ?_, trivial⟩
  · exact leV_slE (by simp) (fun y hy => by obtain ⟨x, _, rfl⟩ := List.mem_map.1 hy; rfl) (rules_pw _ hr)
  · show leV (.sl 0 2 (((s0 : Int) :: v0).map kidN)) (.sl 0 2 ((((s0 : Int) :: v0).map fun n => CV.mk n []).map vV))
    exact leV_slE (by simp) (fun y hy => by
      obtain ⟨x, _, rfl⟩ := List.mem_map.1 hy
      rw [vV_eq]; rfl) (kids_pw _)

def saneR : RD := ⟨⟨#[114]⟩, 0, 0, [1], [3], [], 0, 0, 0, [], [], [], [], 0⟩
def saneM : MD := { kind := 1, states := [⟨#[97]⟩], places := [⟨#[120]⟩], rules := [saneR], start := cfgC 0 [2] }
theorem sane_plain : PlainM saneM 0 [2] := by
  refine ⟨⟨rfl, by decide, by decide, by decide, rfl, rfl, rfl, rfl, by decide +kernel, ?_, by decide +kernel⟩, by decide +kernel, rfl, ⟨by decide, by decide, ?_⟩⟩
  · intro r hr
    have : r = saneR := by simpa [saneM] using hr
    subst this
    decide +kernel
  · intro x hx
    have : x = 2 := by simpa using hx
    subst this; omega
theorem sane_le : leV (modelN saneM 0 0 [2]) (vM saneM) := model_le sane_plain.good (fun r hr => by
  have : r = saneR := by simpa [saneM] using hr
  subst this; rfl) rfl
def saneA : AtomD := ⟨[1], 2, [0]⟩
theorem one_mem {x y : Int} (h : x ∈ [y]) : x = y := by simpa using h
theorem sane_form : FormA saneM saneA := ⟨rfl, fun x hx => by rw [one_mem (y := 1) hx]; omega, .inr ⟨by decide, by decide⟩, rfl⟩
set_option maxRecDepth 100000 in
set_option maxHeartbeats 4000000 in
theorem con_sane32 : Con Tryz.prog 31 [] [] fun r _ => r = vb true := by
  refine Con.intro Tryz.func31 rfl Tryz.ntmps31 Tryz.results31 (by kernel_rfl) (by simp) 0 (by simp) ?_
  have hp : potR 2 [1] saneM.rules saneM.states.length [2] = some [0] := by decide +kernel
  have hP := con_Potential saneM [1] 2 [2] sane_plain rfl sane_form.small (.inr ⟨by decide, by decide⟩)
  rw [hp] at hP
  have x5 : (valuesB saneA.mod saneA.values && (!holdsF saneA 0 [5]) && closedF saneM.rules 0 [2] saneA == 0) = true := by decide +kernel
  have x6 : (valuesB saneA.mod saneA.values && (!holdsF saneA 0 [6]) && closedF saneM.rules 0 [2] saneA == 0) = false := by decide +kernel
  have xa : acheckF saneA = 0 := by decide +kernel
  have h5 := con_Excludes saneM saneA 0 [2] 0 [5] sane_plain sane_form ⟨by decide, by decide, fun x hx => by rw [one_mem hx]; omega⟩
  have h6 := con_Excludes saneM saneA 0 [2] 0 [6] sane_plain sane_form ⟨by decide, by decide, fun x hx => by rw [one_mem hx]; omega⟩
  rw [x5, xa] at h5
  rw [x6, xa] at h6
  simp only [go_sem]
  refine CallU.freeze (hP.leA (args' := [modelN saneM 0 0 [2], vs 0 [1], vi 2]) ⟨sane_le, leV_refl _, leV_refl _, trivial⟩) (by simp only [go_sem]) (by simp only [go_sem, saneM, saneR, List.map_cons, List.map_nil]) ?_
  rintro r bx rfl
  simp only [go_sem, potV, List.map_cons, List.map_nil]
  refine CallU.freeze (h5.leA (args' := [modelN saneM 0 0 [2], vAtom saneA, cfgN 0 0 [5]]) ⟨sane_le, leV_refl _, cfg_le 0 [5], trivial⟩) (by simp only [go_sem]) (by simp only [go_sem, saneM, saneR, saneA, List.map_cons, List.map_nil]) ?_
  rintro r bx rfl
  simp only [go_sem]
  refine CallU.freeze (h6.leA (args' := [modelN saneM 0 0 [2], vAtom saneA, cfgN 0 0 [6]]) ⟨sane_le, leV_refl _, cfg_le 0 [6], trivial⟩) (by simp only [go_sem]) (by simp only [go_sem, saneM, saneR, saneA, List.map_cons, List.map_nil]) ?_
  rintro r bx rfl
  simp only [go_sem]
  refine CallU.free (con_candidates 1 (by omega) (by omega)) (by simp only [go_sem]) (by simp only [go_sem]) ?_
  rintro r bx rfl
  simp only [go_sem]
  rfl
end Go.AM

/-! ## CnA -/
namespace Go.AM
open Go Go.Proofs Go.RowKit

def statesL : List ByteArray := [⟨#[97]⟩, ⟨#[98]⟩]
def placesL : List ByteArray := [⟨#[120]⟩, ⟨#[121]⟩]
def ruleNames : List ByteArray := [⟨#[114]⟩, ⟨#[115]⟩, ⟨#[116]⟩]
/-- a rule of the dice -/
structure DealR (ns np : Nat) (r : RD) : Prop where
  thin : ThinR r
  src : 0 ≤ r.src ∧ r.src < ns
  dst : 0 ≤ r.dst ∧ r.dst < ns
  need : r.need.length = np ∧ ∀ x ∈ r.need, 0 ≤ x ∧ x ≤ 2
  give : r.give.length = np ∧ ∀ x ∈ r.give, 0 ≤ x ∧ x ≤ 2
def dealM (ns np : Nat) (rules : List RD) (v0 : List Int) : MD := { kind := 1, states := statesL.take ns, places := placesL.take np, rules := rules, start := cfgC 0 v0 }
/-- what the dice deal -/
structure DealM (ns np : Nat) (rules : List RD) (v0 : List Int) : Prop where
  hns : 1 ≤ ns ∧ ns ≤ 2
  hnp : 1 ≤ np ∧ np ≤ 2
  len : 1 ≤ rules.length ∧ rules.length ≤ 3
  names : rules.map RD.name = ruleNames.take rules.length
  rules : ∀ r ∈ rules, DealR ns np r
  start : v0.length = np ∧ ∀ x ∈ v0, 0 ≤ x ∧ x ≤ 3

set_option maxRecDepth 100000 in
set_option maxHeartbeats 4000000 in
theorem con_counter (l : List Int) (at_ : Nat) (hs : Seeds l) (ha : at_ ≤ l.length) :
    Con Tryz.prog 15 [.pb 0 0, vb false] [diceA l at_]
    fun r b => ∃ (ns np : Nat) (rules : List RD) (v0 : List Int) (at' : Nat), DealM ns np rules v0 ∧ at' ≤ l.length ∧ b = [diceA l at'] ∧ r = .ag [vi 1, .sl 2 1 ((statesL.take ns).map vStr), .sl 3 1 ((placesL.take np).map vStr), .nil, .nil, vi 0, vi 0, .sl 4 14 (rules.map ruleN), vi 0, .sl 5 2 (((0 : Int) :: v0).map kidN)] := by
  refine Con.intro Tryz.func15 rfl Tryz.ntmps15 Tryz.results15 (by kernel_rfl) (by simp) 1 (by simp) ?_
  have hp1 := pickA_le ha
  simp only [go_sem]
  refine DrawK.news0 [(11, 2)] [10] [(10, 14), (10, 20), (15, 19), (15, 20)] 0 [2, 7] [] 12 (.one 12 .done) none (diceA l at_) mixed (by kernel_rfl) (by kernel_rfl) (by kernel_rfl) (by simp only [go_sem]) (by simp only [go_sem]) ⟨by simp only [go_sem], by simp only [go_sem]⟩ ⟨by simp only [go_sem], by simp only [go_sem]⟩ ?_
  simp only [go_sem]
  refine EffK.mk (con_pickF l at_ 2 hs ha (by omega)) (by simp only [go_sem]) (by simp only [go_sem]) (by simp only [go_sem]) (by simp only [go_sem]) ?_
  obtain ⟨ns, ens, hns1, hns2⟩ : ∃ ns : Nat, 1 + pickV l at_ 2 = ns ∧ 1 ≤ ns ∧ ns ≤ 2 := by
    have := pickV_lt (l := l) (at_ := at_) (show (1 : Int) ≤ 2 by omega)
    exact ⟨(1 + pickV l at_ 2).toNat, by omega, by omega, by omega⟩
  obtain ⟨np, enp, hnp1, hnp2⟩ : ∃ np : Nat, 1 + pickV l (pickA l at_) 2 = np ∧ 1 ≤ np ∧ np ≤ 2 := by
    have := pickV_lt (l := l) (at_ := pickA l at_) (show (1 : Int) ≤ 2 by omega)
    exact ⟨(1 + pickV l (pickA l at_) 2).toNat, by omega, by omega, by omega⟩
  have hw1 : IntKind.i64.wrap (1 + pickV l at_ 2) = ns := by rw [wrap_in (by omega) (by omega), ens]
  have hw2 : IntKind.i64.wrap (1 + pickV l (pickA l at_) 2) = np := by rw [wrap_in (by omega) (by omega), enp]
  simp only [go_sem, hw1, hns2]
  refine EffK.mk (con_pickF l (pickA l at_) 2 hs hp1 (by omega)) (by simp only [go_sem]) (by simp only [go_sem]) (by simp only [go_sem]) (by simp only [go_sem]) ?_
  have hp2 := pickA_le hp1
  have hrep : List.replicate 10 AV.any = [.any, .any, .any, .any, .any, .any, .any, .any, .any, .any] := rfl
  have est : List.take ns [AV.sc (Value.string { data := #[97] }), AV.sc (Value.string { data := #[98] })] = (statesL.take ns).map vStr := by rw [List.map_take]; rfl
  have epl : List.take np [AV.sc (Value.string { data := #[120] }), AV.sc (Value.string { data := #[121] })] = (placesL.take np).map vStr := by rw [List.map_take]; rfl
  have lst : (statesL.take ns).length = ns := by rw [List.length_take]; simp only [statesL, List.length_cons, List.length_nil]; omega
  have lpl : (placesL.take np).length = np := by rw [List.length_take]; simp only [placesL, List.length_cons, List.length_nil]; omega
  simp only [go_sem, hw2, hnp2, hrep, est, epl, lpl]
  refine ⟨?_, trivial⟩
  refine LoopK.intro (fun p : List RD × Nat => ⟨85, [(0, .pb 0 0), (1, vb false), (4, .pb 1 0), (5, .pb 2 0), (6, vi np), (7, vi p.1.length)], [diceA l p.2, [.any, .any, .any, .any, .any, .any, .any, .any, .any, .any], [vi 1, .sl 704 1 ((statesL.take ns).map vStr), .sl 1024 1 ((placesL.take np).map vStr), .nil, .nil, vi 0, vi 0, .sl 4992 14 (p.1.map ruleN), vi 0, .nil]] ++ Rk 14 p.1.length⟩)
    (fun p => 3 - p.1.length) (fun p => p.1.length ≤ 3 ∧ p.1.map RD.name = ruleNames.take p.1.length ∧ (∀ r ∈ p.1, DealR ns np r) ∧ p.2 ≤ l.length) ([], pickA l (pickA l at_)) ⟨by simp, rfl, by simp, hp2⟩ ?_ ?_
  · simp only [go_sem, List.length_nil, Rk, List.replicate_zero, List.append_nil, List.map_nil]
  rintro ⟨rules, at1⟩ ⟨h1, h2, h3, h4⟩
  simp only at h1 h2 h3 h4
  have hpk := pickV_lt (l := l) (at_ := at1) (show (1 : Int) ≤ 3 by omega)
  obtain ⟨k, ek, hk1, hk2⟩ : ∃ k : Nat, 1 + pickV l at1 3 = k ∧ 1 ≤ k ∧ k ≤ 3 := ⟨(1 + pickV l at1 3).toNat, by omega, by omega, by omega⟩
  have hw3 : IntKind.i64.wrap (1 + pickV l at1 3) = k := by rw [wrap_in (by omega) (by omega), ek]
  simp only [go_sem, List.cons_append, List.nil_append]
  refine CallU.boxes (i := 0) (is := []) (bx0 := [diceA l at1]) (con_pickF l at1 3 hs h4 (by omega)) (by simp only [go_sem]) (by simp only [go_sem]) (by simp only [go_sem]) (by simp only [go_sem]) (by simp only [go_sem]) ?_
  rintro r b ⟨rfl, rfl⟩
  have h5 := pickA_le h4
  generalize pickA l at1 = at2 at h5
  by_cases h : rules.length < k
  · simp only [go_sem, hw3, h]
    obtain ⟨i, hi⟩ : ∃ i, i = rules.length := ⟨_, rfl⟩
    rw [← hi]
    have : i = 0 ∨ i = 1 ∨ i = 2 := by omega
    have hp3 := pickA_le h5
    have hp4 := pickA_le hp3
    have hp5 := rollA_le hp4 np
    have hs1 := rollS_lt (l := l) (at_ := at2) hns1
    have hs2 := rollS_lt (l := l) (at_ := pickA l at2) hns1
    have e1 := con_intsF l (pickA l (pickA l at2)) np 2 hs hp4 (by omega) (by omega)
    have e2 := con_intsF l (rollA l (pickA l (pickA l at2)) np) np 2 hs hp5 (by omega) (by omega)
    have hrep : List.replicate 14 AV.any = [.any, .any, .any, .any, .any, .any, .any, .any, .any, .any, .any, .any, .any, .any] := rfl
    rcases this with rfl | rfl | rfl
    · have hr : DealR ns np (bareR ruleNames[0]! (rollS l at2 ns) (rollS l (pickA l at2) ns) (rollV l (pickA l (pickA l at2)) 2 np) (rollV l (rollA l (pickA l (pickA l at2)) np) 2 np) []) :=
        ⟨rfl, ⟨by show (0 : Int) ≤ (rollS l at2 ns : Int); omega, by show (rollS l at2 ns : Int) < ns; omega⟩, ⟨by show (0 : Int) ≤ (rollS l (pickA l at2) ns : Int); omega, by show (rollS l (pickA l at2) ns : Int) < ns; omega⟩, ⟨rollV_len np, rollV_low (by omega) np⟩, ⟨rollV_len np, rollV_low (by omega) np⟩⟩
      have hln : (rules ++ [bareR ruleNames[0]! (rollS l at2 ns) (rollS l (pickA l at2) ns) (rollV l (pickA l (pickA l at2)) 2 np) (rollV l (rollA l (pickA l (pickA l at2)) np) 2 np) []]).length = 1 := by rw [List.length_append, ← hi]; rfl
      have hnm : ruleNames[0]! = ⟨#[114]⟩ := rfl
      simp only [Rk, List.replicate]
      refine DrawK.news0 [(21, 3)] [14] [(31, 33)] 0 [8, 13, 16, 19] [] 22 (.one 22 .done) none (diceA l at2) mixed (by kernel_rfl) (by kernel_rfl) (by kernel_rfl) (by simp only [go_sem]) (by simp only [go_sem]) ⟨by simp only [go_sem], by simp only [go_sem]⟩ ⟨by simp only [go_sem], by simp only [go_sem]⟩ ?_
      simp only [go_sem, List.length_map, lst]
      refine EffK.mk (con_pickF l at2 ns hs h5 (by omega)) (by simp only [go_sem]) (by simp only [go_sem]) (by simp only [go_sem]) (by simp only [go_sem]) ?_
      simp only [go_sem, List.length_map, lst, hs1.2]
      refine EffK.mk (con_pickF l (pickA l at2) ns hs hp3 (by omega)) (by simp only [go_sem]) (by simp only [go_sem]) (by simp only [go_sem]) (by simp only [go_sem]) ?_
      simp only [go_sem, hs2.2]
      refine EffK.mk e1 (by simp only [go_sem]) (by simp only [go_sem]) (by simp only [go_sem]) (by simp only [go_sem]) ?_
      simp only [go_sem]
      refine EffK.mk e2 (by simp only [go_sem]) (by simp only [go_sem]) (by simp only [go_sem]) (by simp only [go_sem]) ?_
      simp only [go_sem, hrep, ← hi]
      refine ⟨⟨by unfold roomFor; omega, ?_⟩, trivial⟩
      refine roundK.intro (rules ++ [bareR ruleNames[0]! (rollS l at2 ns) (rollS l (pickA l at2) ns) (rollV l (pickA l (pickA l at2)) 2 np) (rollV l (rollA l (pickA l (pickA l at2)) np) 2 np) []], rollA l (rollA l (pickA l (pickA l at2)) np) np) ⟨by rw [hln]; omega, ?_, fun x hx => ?_, rollA_le hp5 np⟩ (by show 3 - (rules ++ [_]).length < 3 - rules.length; rw [hln]; omega) ?_
      · rw [hln, List.map_append, h2, ← hi]; rfl
      · rcases List.mem_append.1 hx with hx | hx
        · exact h3 x hx
        · rw [List.mem_singleton] at hx; subst hx; exact hr
      · simp only [go_sem, hln, List.replicate, List.map_append, List.map_cons, List.map_nil]
        exact ⟨leV_int rfl, by rw [hnm]; exact leV_refl _⟩
    · have hr : DealR ns np (bareR ruleNames[1]! (rollS l at2 ns) (rollS l (pickA l at2) ns) (rollV l (pickA l (pickA l at2)) 2 np) (rollV l (rollA l (pickA l (pickA l at2)) np) 2 np) []) :=
        ⟨rfl, ⟨by show (0 : Int) ≤ (rollS l at2 ns : Int); omega, by show (rollS l at2 ns : Int) < ns; omega⟩, ⟨by show (0 : Int) ≤ (rollS l (pickA l at2) ns : Int); omega, by show (rollS l (pickA l at2) ns : Int) < ns; omega⟩, ⟨rollV_len np, rollV_low (by omega) np⟩, ⟨rollV_len np, rollV_low (by omega) np⟩⟩
      have hln : (rules ++ [bareR ruleNames[1]! (rollS l at2 ns) (rollS l (pickA l at2) ns) (rollV l (pickA l (pickA l at2)) 2 np) (rollV l (rollA l (pickA l (pickA l at2)) np) 2 np) []]).length = 2 := by rw [List.length_append, ← hi]; rfl
      have hnm : ruleNames[1]! = ⟨#[115]⟩ := rfl
      simp only [Rk, List.replicate]
      refine DrawK.news0 [(21, 4)] [14] [(31, 33)] 0 [8, 13, 16, 19] [] 22 (.one 22 .done) none (diceA l at2) mixed (by kernel_rfl) (by kernel_rfl) (by kernel_rfl) (by simp only [go_sem]) (by simp only [go_sem]) ⟨by simp only [go_sem], by simp only [go_sem]⟩ ⟨by simp only [go_sem], by simp only [go_sem]⟩ ?_
      simp only [go_sem, List.length_map, lst]
      refine EffK.mk (con_pickF l at2 ns hs h5 (by omega)) (by simp only [go_sem]) (by simp only [go_sem]) (by simp only [go_sem]) (by simp only [go_sem]) ?_
      simp only [go_sem, List.length_map, lst, hs1.2]
      refine EffK.mk (con_pickF l (pickA l at2) ns hs hp3 (by omega)) (by simp only [go_sem]) (by simp only [go_sem]) (by simp only [go_sem]) (by simp only [go_sem]) ?_
      simp only [go_sem, hs2.2]
      refine EffK.mk e1 (by simp only [go_sem]) (by simp only [go_sem]) (by simp only [go_sem]) (by simp only [go_sem]) ?_
      simp only [go_sem]
      refine EffK.mk e2 (by simp only [go_sem]) (by simp only [go_sem]) (by simp only [go_sem]) (by simp only [go_sem]) ?_
      simp only [go_sem, hrep, ← hi]
      refine ⟨⟨by unfold roomFor; omega, ?_⟩, trivial⟩
      refine roundK.intro (rules ++ [bareR ruleNames[1]! (rollS l at2 ns) (rollS l (pickA l at2) ns) (rollV l (pickA l (pickA l at2)) 2 np) (rollV l (rollA l (pickA l (pickA l at2)) np) 2 np) []], rollA l (rollA l (pickA l (pickA l at2)) np) np) ⟨by rw [hln]; omega, ?_, fun x hx => ?_, rollA_le hp5 np⟩ (by show 3 - (rules ++ [_]).length < 3 - rules.length; rw [hln]; omega) ?_
      · rw [hln, List.map_append, h2, ← hi]; rfl
      · rcases List.mem_append.1 hx with hx | hx
        · exact h3 x hx
        · rw [List.mem_singleton] at hx; subst hx; exact hr
      · simp only [go_sem, hln, List.replicate, List.map_append, List.map_cons, List.map_nil]
        exact ⟨leV_int rfl, by rw [hnm]; exact leV_refl _⟩
    · have hr : DealR ns np (bareR ruleNames[2]! (rollS l at2 ns) (rollS l (pickA l at2) ns) (rollV l (pickA l (pickA l at2)) 2 np) (rollV l (rollA l (pickA l (pickA l at2)) np) 2 np) []) :=
        ⟨rfl, ⟨by show (0 : Int) ≤ (rollS l at2 ns : Int); omega, by show (rollS l at2 ns : Int) < ns; omega⟩, ⟨by show (0 : Int) ≤ (rollS l (pickA l at2) ns : Int); omega, by show (rollS l (pickA l at2) ns : Int) < ns; omega⟩, ⟨rollV_len np, rollV_low (by omega) np⟩, ⟨rollV_len np, rollV_low (by omega) np⟩⟩
      have hln : (rules ++ [bareR ruleNames[2]! (rollS l at2 ns) (rollS l (pickA l at2) ns) (rollV l (pickA l (pickA l at2)) 2 np) (rollV l (rollA l (pickA l (pickA l at2)) np) 2 np) []]).length = 3 := by rw [List.length_append, ← hi]; rfl
      have hnm : ruleNames[2]! = ⟨#[116]⟩ := rfl
      simp only [Rk, List.replicate]
      refine DrawK.news0 [(21, 5)] [14] [(31, 33)] 0 [8, 13, 16, 19] [] 22 (.one 22 .done) none (diceA l at2) mixed (by kernel_rfl) (by kernel_rfl) (by kernel_rfl) (by simp only [go_sem]) (by simp only [go_sem]) ⟨by simp only [go_sem], by simp only [go_sem]⟩ ⟨by simp only [go_sem], by simp only [go_sem]⟩ ?_
      simp only [go_sem, List.length_map, lst]
      refine EffK.mk (con_pickF l at2 ns hs h5 (by omega)) (by simp only [go_sem]) (by simp only [go_sem]) (by simp only [go_sem]) (by simp only [go_sem]) ?_
      simp only [go_sem, List.length_map, lst, hs1.2]
      refine EffK.mk (con_pickF l (pickA l at2) ns hs hp3 (by omega)) (by simp only [go_sem]) (by simp only [go_sem]) (by simp only [go_sem]) (by simp only [go_sem]) ?_
      simp only [go_sem, hs2.2]
      refine EffK.mk e1 (by simp only [go_sem]) (by simp only [go_sem]) (by simp only [go_sem]) (by simp only [go_sem]) ?_
      simp only [go_sem]
      refine EffK.mk e2 (by simp only [go_sem]) (by simp only [go_sem]) (by simp only [go_sem]) (by simp only [go_sem]) ?_
      simp only [go_sem, hrep, ← hi]
      refine ⟨⟨by unfold roomFor; omega, ?_⟩, trivial⟩
      refine roundK.intro (rules ++ [bareR ruleNames[2]! (rollS l at2 ns) (rollS l (pickA l at2) ns) (rollV l (pickA l (pickA l at2)) 2 np) (rollV l (rollA l (pickA l (pickA l at2)) np) 2 np) []], rollA l (rollA l (pickA l (pickA l at2)) np) np) ⟨by rw [hln]; omega, ?_, fun x hx => ?_, rollA_le hp5 np⟩ (by show 3 - (rules ++ [_]).length < 3 - rules.length; rw [hln]; omega) ?_
      · rw [hln, List.map_append, h2, ← hi]; rfl
      · rcases List.mem_append.1 hx with hx | hx
        · exact h3 x hx
        · rw [List.mem_singleton] at hx; subst hx; exact hr
      · simp only [go_sem, hln, List.replicate, List.map_append, List.map_cons, List.map_nil]
        exact ⟨leV_int rfl, by rw [hnm]; exact leV_refl _⟩
  · simp only [go_sem, hw3, h]
    refine CallU.boxes (i := 0) (is := []) (bx0 := [diceA l at2]) (con_intsF l at2 np 3 hs h5 (by omega) (by omega)) (by simp only [go_sem]) (by simp only [go_sem]) (by simp only [go_sem]) (by simp only [go_sem]) (by simp only [go_sem]) ?_
    rintro r b ⟨rfl, rfl⟩
    simp only [go_sem]
    have hcf : Con Tryz.prog 21 [vi 0, vs 0 (rollV l at2 3 np)] [] fun r _ => r = cfgN 2 0 (rollV l at2 3 np) := con_config28 0 (rollV l at2 3 np) (by rw [rollV_len]; omega)
    refine CallU.free hcf (by simp only [go_sem]) (by simp only [go_sem]) ?_
    rintro r b rfl
    simp only [go_sem]
    have hge : 1 ≤ rules.length := by omega
    exact ⟨ns, np, rules, rollV l at2 3 np, rollA l at2 np, ⟨⟨hns1, hns2⟩, ⟨hnp1, hnp2⟩, ⟨hge, h1⟩, h2, h3, ⟨rollV_len np, rollV_low (by omega) np⟩⟩, rollA_le h5 np, rfl, rfl⟩
end Go.AM

/-! ## CnB -/
namespace Go.AM
open Go Go.Proofs Go.RowKit

theorem deal_names {ns np k : Nat} (h1 : 1 ≤ ns ∧ ns ≤ 2) (h2 : 1 ≤ np ∧ np ≤ 2) (h3 : 1 ≤ k ∧ k ≤ 3) : namesB (statesL.take ns ++ placesL.take np ++ [] ++ ruleNames.take k) = true := by
  obtain rfl | rfl : ns = 1 ∨ ns = 2 := by omega
  all_goals obtain rfl | rfl : np = 1 ∨ np = 2 := by omega
  all_goals obtain rfl | rfl | rfl : k = 1 ∨ k = 2 ∨ k = 3 := by omega
  all_goals decide +kernel
theorem states_len {ns : Nat} (h : ns ≤ 2) : (statesL.take ns).length = ns := by rw [List.length_take]; simp only [statesL, List.length_cons, List.length_nil]; omega
theorem places_len {np : Nat} (h : np ≤ 2) : (placesL.take np).length = np := by rw [List.length_take]; simp only [placesL, List.length_cons, List.length_nil]; omega
theorem deal_rule {ns np : Nat} {r : RD} (h : DealR ns np r) : ruleB ns np r = true ∧ bareB r = true ∧ stillB r = true := by
  have h0 := h.thin
  unfold ThinR at h0
  have hmv : r.move = [] := by rw [h0]
  refine ⟨?_, by rw [h0]; rfl, by rw [h0]; rfl⟩
  unfold ruleB changesB movesB smallB indexB betweenB
  rw [hmv]
  simp only [Bool.and_eq_true, decide_eq_true_eq, List.all_eq_true, Bool.or_eq_true]
  have hs := h.src; have hd := h.dst
  refine ⟨⟨⟨⟨hd.1, hd.2⟩, ⟨hs.1, hs.2⟩⟩, ⟨⟨⟨h.need.1, h.give.1⟩, fun x hx => ?_⟩, fun x hx => ?_⟩⟩, .inl rfl⟩
  · have := h.need.2 x hx; omega
  · have := h.give.2 x hx; omega
theorem deal_conf {ns np : Nat} {rules : List RD} {v0 : List Int} (h : DealM ns np rules v0) {s : Nat} {v : List Int} (hs : s < ns) (hl : v.length = np) (hv : ∀ x ∈ v, 0 ≤ x ∧ x ≤ 1048576) : GoodC (dealM ns np rules v0) s v :=
  ⟨by show s < (statesL.take ns).length; rw [states_len h.hns.2]; exact hs, by show v.length = (placesL.take np).length; rw [places_len h.hnp.2]; exact hl, hv⟩
theorem deal_plain {ns np : Nat} {rules : List RD} {v0 : List Int} (h : DealM ns np rules v0) : PlainM (dealM ns np rules v0) 0 v0 := by
  have l1 : (dealM ns np rules v0).states.length = ns := states_len h.hns.2
  have l2 : (dealM ns np rules v0).places.length = np := places_len h.hnp.2
  have h1 := h.hns; have h2 := h.hnp; have h3 := h.len
  have hc : GoodC (dealM ns np rules v0) 0 v0 := deal_conf h (by omega) h.start.1 fun x hx => by have := h.start.2 x hx; omega
  refine ⟨⟨rfl, by rw [l1]; omega, by rw [l2]; omega, by show rules.length ≤ 12; omega, rfl, rfl, rfl, rfl, ?_, fun r hr => ?_, ?_⟩, ?_, rfl, hc⟩
  · show namesB (statesL.take ns ++ placesL.take np ++ [] ++ rules.map RD.name) = true
    rw [h.names]; exact deal_names h1 h2 h3
  · rw [l1, l2]
    have := deal_rule (h.rules r hr)
    exact ⟨this.1, this.2.1⟩
  · exact hc.conf
  · show rules.all stillB = true
    rw [List.all_eq_true]
    exact fun r hr => (deal_rule (h.rules r hr)).2.2
theorem deal_thin {ns np : Nat} {rules : List RD} {v0 : List Int} (h : DealM ns np rules v0) : ∀ r ∈ (dealM ns np rules v0).rules, ThinR r := fun r hr => (h.rules r hr).thin

/-- a model of the dice, never written again -/
theorem con_Counter (l : List Int) (at_ : Nat) (hs : Seeds l) (ha : at_ ≤ l.length) :
    Con Tryz.prog 15 [.pb 0 0, vb false] [diceA l at_]
    fun r b => ∃ (ns np : Nat) (rules : List RD) (v0 : List Int) (at' : Nat), DealM ns np rules v0 ∧ at' ≤ l.length ∧ b = [diceA l at'] ∧ r = vM (dealM ns np rules v0) :=
  ((con_counter l at_ hs ha).freezeB fun _ => true).weak fun r b ⟨r1, b1, ⟨ns, np, rules, v0, at1, hd, h1, h2, h3⟩, h4, h5⟩ => by
    subst h2; subst h3; subst h4; subst h5
    exact ⟨_, ⟨ns, np, rules, v0, at1, hd, h1, rfl, rfl⟩, model_le (m := dealM ns np rules v0) (deal_plain hd).good (deal_thin hd) rfl⟩
/-- a configuration of the dice, never written again -/
theorem con_ConfigC (l : List Int) (at_ : Nat) (m : MD) (hs : Seeds l) (ha : at_ ≤ l.length) (hk : m.kind = 1) (h1 : 1 ≤ m.states.length ∧ m.states.length ≤ 8) (h2 : 1 ≤ m.places.length ∧ m.places.length ≤ 6) :
    Con Tryz.prog 38 [.pb 0 0, vM m] [diceA l at_]
    fun r b => r = vV (cfgC (rollS l at_ m.states.length) (rollV l (pickA l at_) 3 m.places.length)) ∧ b = [diceA l (rollA l (pickA l at_) m.places.length)] :=
  ((con_Config l at_ m hs ha hk h1 h2).freezeB fun _ => true).weak fun r b ⟨r1, b1, ⟨h3, h4⟩, h5, h6⟩ => by
    subst h3; subst h4; subst h5; subst h6
    exact ⟨_, ⟨rfl, rfl⟩, cfg_le _ _⟩
end Go.AM

/-! ## CrP -/
namespace Go.AM
open Go Go.Proofs Go.RowKit

/-- a step, never written again -/
def vStep (x : StD) : AV := .ag [vi x.rule, vi 0, .sl 0 2 ((cfgC x.state x.v).kids.map vV)]
attribute [go_sem] vStep
theorem step_pw : ∀ l : List StD, PW Sub (flat (l.map vSt)) (flat (l.map vStep))
  | [] => PW.nil _
  | x :: l => by
    rw [List.map_cons, List.map_cons, flat_cons, flat_cons]
    refine PW.append ?_ (step_pw l)
    have e : Sub (.sl 0 2 (((x.state : Int) :: x.v).map kidN)) (.sl 0 2 ((((x.state : Int) :: x.v).map fun n => CV.mk n []).map vV)) :=
      Sub.slE (by simp) (fun y hy => by
        obtain ⟨x, _, rfl⟩ := List.mem_map.1 hy
        rw [vV_eq]; rfl) (kids_pw _)
    exact PW.cons (Sub.refl _) (PW.cons (Sub.refl _) (PW.cons e (PW.nil _)))
theorem con_rAllV (m : MD) (s : Nat) (v : List Int) (h : GoodM m) (hst : m.rules.all stillB = true) (hc : GoodC m s v) (hb : ∀ x ∈ v, x ≤ 1000000) : Con Tryz.prog 93 [vM m, vV (cfgC s v)] [] fun x _ => x = .tup [.sl 0 3 ((stepsF m.rules s v m.rules.length).map vStep), vi 0] :=
  ((con_rAll m s v h hst hc hb).freezeR fun _ => true).weak fun r b ⟨r1, h3, h5⟩ => by
    subst h3; subst h5
    refine ⟨_, rfl, leV_tup ⟨leV_slE (by simp) (fun y hy => ?_) (step_pw _), leV_refl _, trivial⟩⟩
    obtain ⟨x, _, rfl⟩ := List.mem_map.1 hy
    rfl

theorem steps_mem {rules : List RD} {s : Nat} {v : List Int} {x : StD} : ∀ n, x ∈ stepsF rules s v n → ∃ i, i < n ∧ enF rules[i]! s v = true ∧ x = ⟨i, rules[i]!.dst.toNat, fireF rules[i]! v⟩
  | 0, h => by cases h
  | n + 1, h => by
    unfold stepsF at h
    split at h
    · rename_i he
      rcases List.mem_append.1 h with h | h
      · obtain ⟨i, h1, h2⟩ := steps_mem n h
        exact ⟨i, by omega, h2⟩
      · rw [List.mem_singleton] at h
        exact ⟨n, by omega, he, h⟩
    · obtain ⟨i, h1, h2⟩ := steps_mem n h
      exact ⟨i, by omega, h2⟩
/-- a run: where it leads to, its steps -/
inductive RunM (rules : List RD) (s0 : Nat) (v0 : List Int) : Nat → List Int → List StD → Prop
  | nil : RunM rules s0 v0 s0 v0 []
  | step {s : Nat} {v : List Int} {l : List StD} (i : Nat) : RunM rules s0 v0 s v l → i < rules.length → enF rules[i]! s v = true → RunM rules s0 v0 rules[i]!.dst.toNat (fireF rules[i]! v) (l ++ [⟨i, rules[i]!.dst.toNat, fireF rules[i]! v⟩])
theorem en_needs {r : RD} {s : Nat} {v : List Int} (h : enF r s v = true) : (s : Int) = r.src ∧ ∀ i, i < r.need.length → r.need[i]! ≤ v[i]! := by
  unfold enF at h
  rw [Bool.and_eq_true, beq_iff_eq, List.all_eq_true] at h
  exact ⟨h.1, fun i hi => by simpa using h.2 i (List.mem_range.2 hi)⟩
theorem mem_bang_of {l : List Int} {x : Int} (h : x ∈ l) : ∃ i, i < l.length ∧ l[i]! = x := by
  obtain ⟨i, hi, e⟩ := List.mem_iff_getElem.1 h
  exact ⟨i, hi, by rw [getElem!_pos l i hi, e]⟩
/-- a step leads to a configuration, numbers grow by at most 16 -/
theorem fire_good {m : MD} {i s : Nat} {v : List Int} {B : Int} (h : GoodM m) (hi : i < m.rules.length) (hc : GoodC m s v) (he : enF m.rules[i]! s v = true) (hb : ∀ x ∈ v, x ≤ B) (hB : B ≤ 1000000) :
    GoodC m m.rules[i]!.dst.toNat (fireF m.rules[i]! v) ∧ ∀ x ∈ fireF m.rules[i]! v, x ≤ B + 16 := by
  have hr := h.rules _ (mem_bangI hi)
  have hf := rule_fine hr.1
  have h3 := hr.1
  unfold ruleB changesB smallB betweenB at h3
  simp only [Bool.and_eq_true, decide_eq_true_eq, List.all_eq_true] at h3
  have hgv := h3.1.2.2
  have hnd := h3.1.2.1.2
  obtain ⟨r1, r2, r3, r4, r5, r6⟩ := hf.right
  have hl := hc.len
  have hn := (en_needs he).2
  generalize m.rules[i]! = r at *
  have key : ∀ x ∈ fireF r v, 0 ≤ x ∧ x ≤ B + 16 := fun x hx => by
    obtain ⟨j, hj, rfl⟩ := mem_bang_of hx
    have hlen : (fireF r v).length = v.length := fireL_len (by omega) (by omega)
    rw [hlen] at hj
    have e : (fireF r v)[j]! = v[j]! - r.need[j]! + r.give[j]! := fireL_at (by omega) (by omega) hj
    have h1 := hn j (by omega)
    have h2 := hb _ (mem_bangI hj)
    have h3 := hgv _ (mem_bangI (show j < r.give.length by omega))
    have h4 := hnd _ (mem_bangI (show j < r.need.length by omega))
    rw [e]; omega
  refine ⟨⟨by omega, ?_, fun x hx => ?_⟩, fun x hx => (key x hx).2⟩
  · rw [← hl]; exact fireL_len (by omega) (by omega)
  · have := key x hx; omega
theorem run_good {m : MD} {s0 : Nat} {v0 : List Int} {B : Int} (h : GoodM m) (hc0 : GoodC m s0 v0) (hb0 : ∀ x ∈ v0, x ≤ B) {s : Nat} {v : List Int} {l : List StD} (hr : RunM m.rules s0 v0 s v l) (hB : B + 16 * l.length ≤ 1000000) :
    GoodC m s v ∧ (∀ x ∈ v, x ≤ B + 16 * l.length) ∧ ∀ x ∈ l, GoodC m x.state x.v := by
  induction hr with
  | nil => exact ⟨hc0, fun x hx => by have := hb0 x hx; simp only [List.length_nil]; omega, fun x hx => by cases hx⟩
  | step i hr hi he ih =>
    rw [List.length_append, List.length_singleton] at hB ⊢
    obtain ⟨h1, h2, h3⟩ := ih (by omega)
    obtain ⟨h4, h5⟩ := fire_good h hi h1 he h2 (by omega)
    refine ⟨h4, fun x hx => by have := h5 x hx; omega, fun x hx => ?_⟩
    rcases List.mem_append.1 hx with hx | hx
    · exact h3 x hx
    · rw [List.mem_singleton] at hx; subst hx; exact h4
def nearTree : Tr := .front 0 (.front 2 (.alt (.one 1 (.one 3 (.one 4 (.one 5 (.one 6 (.one 7 .done)))))) (.one 3 (.alt (.one 1 (.one 4 (.one 5 (.one 6 (.one 7 .done))))) (.one 4 (.alt (.one 1 (.one 5 (.one 6 (.one 7 .done)))) (.one 5 (.one 1 (.one 6 (.one 7 .done))))))))))
set_option maxRecDepth 100000 in
set_option maxHeartbeats 4000000 in
theorem con_near (l : List Int) (at_ : Nat) (m : MD) (s0 : Nat) (v0 : List Int) (most : Nat) (hs : Seeds l) (ha : at_ ≤ l.length) (hP : PlainM m s0 v0) (hv0 : ∀ x ∈ v0, x ≤ 900000) (hm : most ≤ 100) :
    Con Tryz.prog 34 [.pb 0 0, vM m, vi most] [diceA l at_]
    fun r b => ∃ s v run at', RunM m.rules s0 v0 s v run ∧ run.length ≤ most ∧ at' ≤ l.length ∧ b = [diceA l at'] ∧ r = .tup [vV (cfgC s v), .sl 2 3 (run.map vStep)] := by
  refine Con.intro Tryz.func34 rfl Tryz.ntmps34 Tryz.results34 (by kernel_rfl) (by simp) 1 (by simp) ?_
  have hp1 := pickA_le ha
  have hw1 : IntKind.i64.wrap ((most : Int) + 1) = (most : Int) + 1 := wrap_in (by omega) (by omega)
  have est := hP.start
  obtain ⟨N, eN, hN⟩ : ∃ N : Nat, pickV l at_ ((most : Int) + 1) = N ∧ N ≤ most := by
    have := pickV_lt (l := l) (at_ := at_) (n := (most : Int) + 1) (by omega)
    exact ⟨(pickV l at_ ((most : Int) + 1)).toNat, by omega, by omega⟩
  simp only [go_sem, vM, cM, vss, hw1]
  refine CallU.boxes (i := 0) (is := []) (bx0 := [diceA l at_]) (con_pickF l at_ ((most : Int) + 1) hs ha (by omega)) (by simp only [go_sem]) (by simp only [go_sem]) (by simp only [go_sem]) (by simp only [go_sem]) (by simp only [go_sem]) ?_
  rintro r b ⟨rfl, rfl⟩
  simp only [go_sem, eN]
  generalize pickA l at_ = at1 at hp1
  refine LoopK.intro (fun p : List StD × Nat × List Int × Nat => ⟨52, [(0, .pb 0 0), (4, .pb 1 0), (6, .pb 2 0), (8, .pb 3 0), (9, .sl 3200 3 (p.1.map vStep)), (10, vi ((N : Int) - p.1.length))], [diceA l p.2.2.2, cM m, [.any, .any], [vi (cfgC p.2.1 p.2.2.1).n, .sl 0 2 ((cfgC p.2.1 p.2.2.1).kids.map vV)]] ++ Rk 3 p.1.length⟩)
    (fun p => N - p.1.length) (fun p => p.1.length ≤ N ∧ RunM m.rules s0 v0 p.2.1 p.2.2.1 p.1 ∧ p.2.2.2 ≤ l.length) ([], s0, v0, at1) ⟨by simp, .nil, hp1⟩ ?_ ?_
  · simp only [go_sem, List.length_nil, Rk, List.replicate_zero, List.append_nil, List.map_nil, cM, vss, est]
    all_goals exact leV_int (by omega)
  rintro ⟨run, s, v, at2⟩ ⟨h1, h2, h3⟩
  simp only at h1 h2 h3
  have hk := run_good hP.good hP.conf hv0 h2 (by omega)
  have e0 := vV_eq (cfgC s v)
  have en : (cfgC s v).n = 0 := rfl
  by_cases h : (0 : Int) < (N : Int) - run.length
  case neg =>
    simp only [go_sem, cM, vss, h]
    exact ⟨s, v, run, at2, h2, by omega, h3, rfl, by rw [e0]; rfl⟩
  have hA := con_rAllV m s v hP.good hP.still hk.1 (fun x hx => by have := hk.2.1 x hx; omega)
  rw [e0] at hA
  have hsl := steps_len m.rules s v m.rules.length
  have hmem := fun x => steps_mem (rules := m.rules) (s := s) (v := v) (x := x) m.rules.length
  have hfew := hP.good.few
  generalize stepsF m.rules s v m.rules.length = L at hA hsl hmem
  simp only [go_sem, cM, vss, h]
  refine CallU.free hA (by simp only [go_sem]) (by simp only [go_sem, vM, cM, vss]) ?_
  rintro x bx rfl
  simp only [go_sem, List.length_map]
  by_cases hL : L.length = 0
  · have hL' : ((L.length : Int) == 0) = true := by rw [hL]; rfl
    simp only [go_sem, hL']
    exact ⟨s, v, run, at2, h2, by omega, h3, rfl, by rw [e0]; rfl⟩
  have hL' : ((L.length : Int) == 0) = false := beq_eq_false_iff_ne.2 (by omega)
  have hpk := pickV_lt (l := l) (at_ := at2) (n := (L.length : Int)) (by omega)
  obtain ⟨k, ek, hk2⟩ : ∃ k : Nat, pickV l at2 (L.length : Int) = k ∧ k < L.length := ⟨(pickV l at2 (L.length : Int)).toNat, by omega, by omega⟩
  simp only [go_sem, hL']
  refine CallU.boxes (i := 0) (is := []) (bx0 := [diceA l at2]) (con_pickF l at2 (L.length : Int) hs h3 (by omega)) (by simp only [go_sem]) (by simp only [go_sem]) (by simp only [go_sem]) (by simp only [go_sem]) (by simp only [go_sem]) ?_
  rintro r b ⟨rfl, rfl⟩
  obtain ⟨i, hi, he, hx⟩ := hmem L[k] (List.getElem_mem hk2)
  have hg : (L.map vStep)[k]? = some (vStep L[k]) := by rw [List.getElem?_map, List.getElem?_eq_getElem hk2]; rfl
  have ra : ∀ L : List (List AV), (Rk 3 run.length ++ L)[(Rk 3 run.length).length]? = L[0]? := fun L => app_at0 rfl
  have rs : ∀ (L : List (List AV)) z, (Rk 3 run.length ++ L).set (Rk 3 run.length).length z = Rk 3 run.length ++ L.set 0 z := fun L z => app_set0 rfl
  rw [hx] at hg
  simp only [go_sem, ek, hk2, hg, ra, rs]
  have hln : (run ++ [(⟨i, m.rules[i]!.dst.toNat, fireF m.rules[i]! v⟩ : StD)]).length = run.length + 1 := by rw [List.length_append]; rfl
  have hw2 : IntKind.i64.wrap ((N : Int) - run.length - 1) = (N : Int) - (run.length + 1 : Nat) := by rw [wrap_in (by omega) (by omega)]; omega
  have hro : roomFor (run.length + 1) 40 := by simp only [roomFor]; omega
  have en2 : ∀ s v, (cfgC s v).n = 0 := fun _ _ => rfl
  refine DrawK.meet ⟨52, [(0, .pb 0 0), (4, .pb 1 0), (6, .pb 2 0), (8, .pb 3 0), (9, .sl 3200 3 ((run ++ [(⟨i, m.rules[i]!.dst.toNat, fireF m.rules[i]! v⟩ : StD)]).map vStep)), (10, vi ((N : Int) - run.length))], [diceA l (pickA l at2), cM m, [.any, .any], [vi 0, .sl 0 2 ((cfgC m.rules[i]!.dst.toNat (fireF m.rules[i]! v)).kids.map vV)]] ++ Rk 3 (run.length + 1)⟩ ?_ ?_
  · refine DrawK.tree nearTree mixed (by kernel_rfl) ?_
    unfold nearTree
    repeat' (first | with_reducible apply andK_mk | simp only [go_sem, cM, vss, ra, hro, Rk_succ, List.map_append, List.map_cons, List.map_nil])
    all_goals exact leB_RkA (x := [[_, _, _]]) ⟨⟨leV_any _, leV_any _, leV_any _, trivial⟩, trivial⟩
  · simp only [go_sem, List.cons_append, List.nil_append, hw2]
    refine roundK.intro (run ++ [⟨i, m.rules[i]!.dst.toNat, fireF m.rules[i]! v⟩], m.rules[i]!.dst.toNat, fireF m.rules[i]! v, pickA l at2) ⟨?_, .step i h2 hi he, pickA_le h3⟩ ?_ ?_
    · show (run ++ [_]).length ≤ N
      rw [hln]; omega
    · show N - (run ++ [_]).length < N - run.length
      rw [hln]; omega
    · simp only [go_sem, hln, en2]
end Go.AM

/-! ## CrG -/
namespace Go.AM
open Go Go.Proofs Go.RowKit

set_option maxRecDepth 100000 in
theorem con_rsum (c v : List Int) (hl : c.length = v.length) (h6 : c.length ≤ 1000000) (hc : SmallI 4 c) (hv : SmallI 1048576 v) : Con Tryz.prog 120 [vs 0 c, vs 0 v] [] fun r _ => r = vi (sumF c v) := by
  refine Con.intro Tryz.func120 rfl Tryz.ntmps120 Tryz.results120 (by kernel_rfl) (by simp) 0 (by simp) ?_
  simp only [go_sem]
  refine LoopK.intro (fun i : Nat => ⟨31, [(0, vs 0 c), (1, vs 0 v), (5, vi (sumF (c.take i) (v.take i))), (6, vi i)], []⟩)
    (fun i => c.length - i) (fun i => i ≤ c.length) 0 (by omega) ?_ ?_
  · simp only [go_sem, List.take_zero]
    all_goals exact leV_refl _
  rintro i hi
  by_cases h : i < c.length
  · have h2 : i < v.length := by omega
    have g1 := getv h
    have g2 := getv h2
    have hw : IntKind.i64.wrap (i + 1) = i + 1 := wrap_in (by omega) (by omega)
    have m1 := mul_small (hc _ (mem_bang h)) (hv _ (mem_bang h2))
    have hw1 : IntKind.i64.wrap (c[i]! * v[i]!) = c[i]! * v[i]! := wrap_in (by omega) (by omega)
    have m2 := sum_small (c := c.take (i + 1)) (v := v.take (i + 1)) (fun y hy => hc y (List.mem_of_mem_take hy)) (fun y hy => hv y (List.mem_of_mem_take hy))
    have e := sum_take h h2
    have m3 : ((c.take (i + 1)).length : Int) ≤ 1000000 := by rw [List.length_take]; omega
    have hw2 : IntKind.i64.wrap (sumF (c.take i) (v.take i) + c[i]! * v[i]!) = sumF (c.take (i + 1)) (v.take (i + 1)) := by rw [← e]; exact wrap_in (by omega) (by omega)
    simp only [go_sem, h, h2]
    refine DrawK.walk 11 mixed (by kernel_rfl) ?_
    simp only [go_sem, h, h2, g1, g2, hw, hw1, hw2]
    refine roundK.intro (i + 1) (by omega) (by omega) ?_
    simp only [go_sem]
  · have hi2 : i = c.length := by omega
    have e1 : c.take i = c := by rw [hi2, List.take_length]
    have e2 : v.take i = v := by rw [hi2, hl, List.take_length]
    simp only [go_sem, h, e1, e2]
set_option maxRecDepth 100000 in
theorem con_reffect (c : List Int) (r : RD) (h1 : c.length = r.give.length) (h2 : c.length = r.need.length) (h6 : c.length ≤ 6) (hc : SmallI 4 c) (hg : SmallI 1048576 r.give) (hn : SmallI 1048576 r.need) : Con Tryz.prog 118 [vRule r, vs 0 c] [] fun x _ => x = vi (effectF c r) := by
  refine Con.intro Tryz.func118 rfl Tryz.ntmps118 Tryz.results118 (by kernel_rfl) (by simp) 0 (by simp) ?_
  have b1 := sum_small hc hg
  have b2 := sum_small hc hn
  have hw : IntKind.i64.wrap (sumF c r.give - sumF c r.need) = effectF c r := by unfold effectF; exact wrap_in (by omega) (by omega)
  simp only [go_sem]
  refine DrawK.walk 9 mixed (by kernel_rfl) ?_
  simp only [go_sem]
  refine CallY.mk (con_rsum c r.give h1 (by omega) hc hg) (by simp only [go_sem]) (by simp only [go_sem]) (.inl rfl) ?_
  simp only [go_sem]
  refine CallY.mk (con_rsum c r.need h2 (by omega) hc hn) (by simp only [go_sem]) (by simp only [go_sem]) (.inl rfl) ?_
  simp only [go_sem, hw]
set_option maxRecDepth 100000 in
theorem con_rcandidates (k : Nat) (h1 : 1 ≤ k) (h2 : k ≤ 6) : Con Tryz.prog 60 [vi k] [] fun r _ => r = vi ((8 * 3 ^ k : Nat) : Int) := by
  refine Con.intro Tryz.func60 rfl Tryz.ntmps60 Tryz.results60 (by kernel_rfl) (by simp) 0 (by simp) ?_
  have a1 : ¬ ((k : Int) < 1) := by omega
  have a2 : ¬ ((6 : Int) < k) := by omega
  simp only [go_sem, a1, a2]
  refine LoopK.intro (fun i : Nat => ⟨19, [(0, vi k), (3, vi ((8 * 3 ^ i : Nat) : Int)), (4, vi i)], []⟩)
    (fun i => k - i) (fun i => i ≤ k) 0 (by omega) ?_ ?_
  · simp only [go_sem]
    all_goals exact leV_int rfl
  rintro i hi
  by_cases h : i < k
  · have hw : IntKind.i64.wrap (i + 1) = i + 1 := wrap_in (by omega) (by omega)
    have hw2 : IntKind.i64.wrap (((8 * 3 ^ i : Nat) : Int) * 3) = ((8 * 3 ^ (i + 1) : Nat) : Int) := by
      have := pow3_le (show i ≤ 6 by omega)
      rw [wrap_in (by omega) (by omega), Nat.pow_succ]; omega
    simp only [go_sem, h, hw, hw2]
    refine roundK.intro (i + 1) (by omega) (by omega) ?_
    simp only [go_sem]
  · have e : i = k := by omega
    subst e
    simp only [go_sem, h]
set_option maxRecDepth 100000 in
set_option maxHeartbeats 1000000 in
theorem con_rcandidate (k n : Nat) (h1 : 1 ≤ k) (h2 : k ≤ 6) (hn : n < 8 * 3 ^ k) : Con Tryz.prog 61 [vi k, vi n] [] fun r _ => r = .tup [vs 2 (digs k (n % 3 ^ k)), vi (candMod k n), vb true] := by
  refine Con.intro Tryz.func61 rfl Tryz.ntmps61 Tryz.results61 (by kernel_rfl) (by simp) 0 (by simp) ?_
  have a1 : ¬ ((n : Int) < 0) := by omega
  have a2 : ¬ (((8 * 3 ^ k : Nat) : Int) ≤ (n : Int)) := by omega
  have hpos : 0 < 3 ^ k := Nat.pow_pos (by decide)
  have hz : ¬ ((3 ^ k : Nat) : Int) = 0 := by omega
  have hle := pow3_le h2
  have hq8 : IntKind.i64.wrap (Int.tdiv ((8 * 3 ^ k : Nat) : Int) 8) = ((3 ^ k : Nat) : Int) := by
    have : Int.tdiv ((8 * 3 ^ k : Nat) : Int) 8 = ((8 * 3 ^ k / 8 : Nat) : Int) := rfl
    rw [this, Nat.mul_div_cancel_left _ (by decide)]
    exact wrap_nat (by omega)
  have hlt : n / 3 ^ k < 8 := (Nat.div_lt_iff_lt_mul hpos).2 hn
  have hml := Nat.mod_lt n hpos
  have hq : IntKind.i64.wrap (Int.tdiv (n : Int) ((3 ^ k : Nat) : Int)) = ((n / 3 ^ k : Nat) : Int) := by
    have : Int.tdiv (n : Int) ((3 ^ k : Nat) : Int) = ((n / 3 ^ k : Nat) : Int) := rfl
    rw [this]; exact wrap_nat (by omega)
  have hm : IntKind.i64.wrap (Int.tmod (n : Int) ((3 ^ k : Nat) : Int)) = ((n % 3 ^ k : Nat) : Int) := by
    have : Int.tmod (n : Int) ((3 ^ k : Nat) : Int) = ((n % 3 ^ k : Nat) : Int) := rfl
    rw [this]; exact wrap_nat (by omega)
  have hw1 : IntKind.i64.wrap (((n / 3 ^ k : Nat) : Int) + 1) = ((n / 3 ^ k + 1 : Nat) : Int) := wrap_nat (x := n / 3 ^ k + 1) (Nat.le_trans (Nat.succ_le_succ (Nat.le_of_lt hlt)) (by decide))
  simp only [go_sem, a1]
  refine CallU.free (con_rcandidates k h1 h2) (by simp only [go_sem]) (by simp only [go_sem]) ?_
  rintro r bx rfl
  simp only [go_sem, a2]
  refine CallU.free (con_rcandidates k h1 h2) (by simp only [go_sem]) (by simp only [go_sem]) ?_
  rintro r bx rfl
  by_cases h0 : n / 3 ^ k = 0
  · have h3 : ¬ (0 : Int) < ((n / 3 ^ k : Nat) : Int) := by rw [h0]; decide
    have e : candMod k n = 0 := by unfold candMod; rw [if_pos h0]
    simp only [go_sem, hq8, hz, hq, h3]
    rw [h0, e]
    refine LoopK.intro (fun i : Nat => ⟨48, [(0, vi k), (8, vi 0), (9, vi ((n % 3 ^ k / 3 ^ i : Nat) : Int)), (10, vs 2816 ((digs k (n % 3 ^ k)).take i)), (11, vi i)], []⟩)
      (fun i => k - i) (fun i => i ≤ k) 0 (by omega) ?_ ?_
    · simp only [go_sem, List.take_zero, List.map_nil, Nat.pow_zero, Nat.div_one]
      all_goals exact leV_refl _
    rintro i hi
    by_cases h : i < k
    · have hw : IntKind.i64.wrap (i + 1) = i + 1 := wrap_in (by omega) (by omega)
      have hc := Nat.div_le_self (n % 3 ^ k) (3 ^ i)
      have hd := dig_div (c := n % 3 ^ k) (i := i) (by omega)
      have hm2 := dig_mod (c := n % 3 ^ k / 3 ^ i)
      have hst := digs_step (k := k) (c := n % 3 ^ k) h
      have hr : roomFor (((digs k (n % 3 ^ k)).take i).length + 1) 8 := by simp only [roomFor, List.length_take]; omega
      simp only [go_sem, h, hw, hd, hm2, hr]
      refine roundK.intro (i + 1) (by omega) (by omega) ?_
      simp only [go_sem, hst, List.map_append, List.map_cons, List.map_nil]
    · have e2 : i = k := by omega
      subst e2
      have e3 : (digs i (n % 3 ^ i)).take i = digs i (n % 3 ^ i) := List.take_of_length_le (by rw [digs_len]; exact Nat.le_refl _)
      simp only [go_sem, h, e3]
  · have h3 : (0 : Int) < ((n / 3 ^ k : Nat) : Int) := Int.ofNat_lt.2 (Nat.pos_of_ne_zero h0)
    have e : candMod k n = n / 3 ^ k + 1 := by unfold candMod; rw [if_neg h0]
    simp only [go_sem, hq8, hz, hq, h3, hw1]
    rw [e]
    refine LoopK.intro (fun i : Nat => ⟨48, [(0, vi k), (8, vi ((n / 3 ^ k + 1 : Nat) : Int)), (9, vi ((n % 3 ^ k / 3 ^ i : Nat) : Int)), (10, vs 2816 ((digs k (n % 3 ^ k)).take i)), (11, vi i)], []⟩)
      (fun i => k - i) (fun i => i ≤ k) 0 (by omega) ?_ ?_
    · simp only [go_sem, List.take_zero, List.map_nil, Nat.pow_zero, Nat.div_one]
      all_goals exact leV_refl _
    rintro i hi
    by_cases h : i < k
    · have hw : IntKind.i64.wrap (i + 1) = i + 1 := wrap_in (by omega) (by omega)
      have hc := Nat.div_le_self (n % 3 ^ k) (3 ^ i)
      have hd := dig_div (c := n % 3 ^ k) (i := i) (by omega)
      have hm2 := dig_mod (c := n % 3 ^ k / 3 ^ i)
      have hst := digs_step (k := k) (c := n % 3 ^ k) h
      have hr : roomFor (((digs k (n % 3 ^ k)).take i).length + 1) 8 := by simp only [roomFor, List.length_take]; omega
      simp only [go_sem, h, hw, hd, hm2, hr]
      refine roundK.intro (i + 1) (by omega) (by omega) ?_
      simp only [go_sem, hst, List.map_append, List.map_cons, List.map_nil]
    · have e2 : i = k := by omega
      subst e2
      have e3 : (digs i (n % 3 ^ i)).take i = digs i (n % 3 ^ i) := List.take_of_length_le (by rw [digs_len]; exact Nat.le_refl _)
      simp only [go_sem, h, e3]
end Go.AM
