/-
  The abstract machine: a region that draws its order, among whose operations are new variables: for each a place is kept ahead.
  Walks: numbers of the dice; configurations of the dice.
  Walks: the sanity check of chapter 32.
  Walks: counter models of the dice.
  Counter models of the dice are right; the strongest atom as a plain law.
  The strongest atom at a model of the dice: a plain law.
  Walks: InvariantStrongest.
  Walks: the atoms of the laws of chapter 32.
  Walks: InvariantWeaker.
  Walks: InvariantWeaker, the whole law.
  Closed facts of rows, one by one.
  Closed facts of rows, together.
-/
import Derived.Test.YtlldkikmjeeamaaGreatg6
import Derived.Test.YtlldkikmjeeamaaGreatg7
import Derived.Test.YtlldkikmjeeamaaGreatg8
/-! ## Am5 -/
namespace Go.AM
open Go.RowKit

/-! ### places that are kept -/
/-- no pointer to variable N -/
def noPb (N : Nat) : AV → Bool
  | .pb i _ => decide (i ≠ N)
  | .cl _ caps => caps.all fun c => match c with
    | .pb i _ => decide (i ≠ N)
    | _ => true
  | _ => true
def noPbT (N : Nat) : List (Nat × AV) → Bool
  | [] => true
  | (_, v) :: r => v.allLeaf (noPb N) && noPbT N r
def noPbB (N : Nat) : List (List AV) → Bool
  | [] => true
  | cs :: r => allLeafs (noPb N) cs && noPbB N r
theorem noPbT_look {N : Nat} : ∀ {l : List (Nat × AV)}, noPbT N l = true → ∀ s, (lookT l s).allLeaf (noPb N) = true
  | [], _, s => by simp [lookT, AV.allLeaf, noPb]
  | (k, v) :: r, h, s => by
    simp only [noPbT, Bool.and_eq_true] at h
    simp only [lookT]
    split
    · exact h.1
    · exact noPbT_look h.2 s
theorem noPbB_mem {N : Nat} : ∀ {l : List (List AV)}, noPbB N l = true → ∀ (i : Nat) cs, l[i]? = some cs → ∀ x ∈ cs, x.allLeaf (noPb N) = true
  | [], _, i, cs, h, _, _ => by simp at h
  | y :: r, h, i, cs, hi, x, hx => by
    simp only [noPbB, Bool.and_eq_true] at h
    cases i with
    | zero => simp at hi; subst hi; exact allLeafs_mem h.1 x hx
    | succ i => exact noPbB_mem h.2 i cs (by simpa using hi) x hx
theorem noPbT_put {N : Nat} {x : AV} (hx : x.allLeaf (noPb N) = true) : ∀ {l : List (Nat × AV)} {s : Nat}, noPbT N l = true → noPbT N (putT l s x) = true
  | [], s, _ => by simp [putT, noPbT, hx]
  | (s', v) :: r, s, h => by
    simp only [noPbT, Bool.and_eq_true] at h
    unfold putT
    split
    · simp [noPbT, hx, h.2]
    · simp [noPbT, h.1, noPbT_put hx h.2]
theorem noPbB_set {N : Nat} : ∀ (bx : List (List AV)) (k : Nat) (c' : List AV), noPbB N bx = true → allLeafs (noPb N) c' = true → noPbB N (bx.set k c') = true
  | [], _, _, _, _ => rfl
  | b :: bx, 0, c', h1, h2 => by simp only [List.set_cons_zero, noPbB, Bool.and_eq_true] at h1 ⊢; exact ⟨h2, h1.2⟩
  | b :: bx, k + 1, c', h1, h2 => by simp only [List.set_cons_succ, noPbB, Bool.and_eq_true] at h1 ⊢; exact ⟨h1.1, noPbB_set bx k c' h1.2 h2⟩
def unboxG (N : Nat) (G : Nat → Status) (b : Nat) : Status := if G b = .box N then .junk else G b
theorem unboxG_stable {N : Nat} {G : Nat → Status} {b : Nat} : Stable (unboxG N G) b ↔ Stable G b := by
  unfold Stable unboxG
  split
  · rename_i h; rw [h]; simp
  · exact Iff.rfl
theorem unboxG_tag {N t : Nat} {G : Nat → Status} {b : Nat} : unboxG N G b = .tag t ↔ G b = .tag t := by
  unfold unboxG
  split
  · rename_i h; rw [h]; simp
  · exact Iff.rfl
theorem unboxG_box {N i : Nat} {G : Nat → Status} {b : Nat} : unboxG N G b = .box i ↔ G b = .box i ∧ i ≠ N := by
  unfold unboxG
  split
  · rename_i h; rw [h]; simp; exact fun e => e.symm
  · rename_i h
    exact ⟨fun h' => ⟨h', fun e => h (by rw [h', e])⟩, fun h' => h'.1⟩
theorem VRel.unbox {N : Nat} {G : Nat → Status} {w : World} {x : AV} {v : Value} (h : VRel G w x v) (hq : x.allLeaf (noPb N) = true) : VRel (unboxG N G) w x v := by
  have hF : ∀ {x v}, FRel (Stable G) w x v → FRel (Stable (unboxG N G)) w x v := fun hr => hr.mono (fun b => unboxG_stable.2) (fun _ _ => rfl)
  have hsl : ∀ {t es xs v}, VRel G w (.sl t es xs) v → VRel (unboxG N G) w (.sl t es xs) v := by
    intro t es xs v h
    cases h with
    | froz h => exact .froz (hF h)
    | own _ _ _ _ e vals h1 h2 h3 h4 h0 h5 => exact .own t es xs v e vals h1 h2 (fun b hb => unboxG_tag.2 (h3 b hb)) h4 h0 (h5.mono fun x y _ hr => hF hr)
  have hso : ∀ {t xs v}, VRel G w (.so t xs) v → VRel (unboxG N G) w (.so t xs) v := by
    intro t xs v h
    have := h.so_map (f := id) (G' := unboxG N G) (w' := w) h.so_two (fun x u hx hr => ⟨hx, by
      cases hr with
      | froz hr => exact .froz (hF hr)
      | own t' es ys _ e vals h1 hrt h2 h3 h4 h0 h5 => exact .own t' es ys _ e vals h1 hrt h2 (fun b hb => unboxG_tag.2 (h3 b hb)) h4 h0 (h5.mono fun x y _ hr => hF hr)⟩)
      (fun b hb => ⟨unboxG_tag.2 hb, rfl⟩)
    simpa using this
  refine h.keepQ (fun x v hx hq h => ?_) hq
  cases x with
  | so t xs => exact hso h
  | po t xs i =>
    obtain ⟨b, off, c, h1, h2, rfl⟩ := h.po_inv
    exact (hso h1).po_of rfl h2
  | sl t es xs => exact hsl h
  | pe t es xs i o =>
    obtain ⟨b, off, c, h1, h2, rfl⟩ := h.pe_inv
    exact .pe _ _ _ _ _ _ _ _ (hsl h1) h2
  | pb i o =>
    obtain ⟨b, hb, rfl⟩ := h.pb_inv
    simp only [noPb, decide_eq_true_eq] at hq
    exact .pb _ _ _ (unboxG_box.2 ⟨hb, hq⟩)
  | ag cs => simp [AV.leafy] at hx
  | tup cs => simp [AV.leafy] at hx
  | any => exact .froz (.any _)
  | nil => rw [h.nil_inv]; exact .froz .nil
  | ub => obtain ⟨b, rfl⟩ := h.ub_inv; exact .froz (.ub b)
  | sc u => rw [h.sc_inv]; exact .froz (.sc _)
  | fn g caps => cases h with | froz h => exact .froz (hF h)
  | mp t P k e D => exact h.mpMono (fun b hb => unboxG_tag.2 hb) (fun _ _ _ _ _ => rfl)
  | cl g caps =>
    obtain ⟨vs, rfl, hp⟩ := h.cl_inv
    simp only [noPb, List.all_eq_true] at hq
    refine .cl _ _ _ (hp.mono fun x u hx hr => ?_)
    rcases hr with ⟨i, o, b, rfl, hb, rfl⟩ | hr
    · have := hq _ hx
      simp only [decide_eq_true_eq] at this
      exact .inl ⟨i, o, b, rfl, unboxG_box.2 ⟨hb, this⟩, rfl⟩
    · exact .inr (hF hr)
  | tl t es xs i =>
    obtain ⟨b, off, off', c, h1, h2, h3, _, rfl⟩ := h.tl_inv
    exact .tl _ _ _ _ _ _ _ _ (hsl h1) h2 h3
  | fp cs o => cases h with | froz h => exact .froz (hF h)
/-- a place of which the frame knows nothing: there is no variable there -/
theorem SRel.unbox {G0 w0 σ G a w} (h : SRel G0 w0 σ G a w) {N k : Nat} (hg : G0.gh N = none) (h0 : ∀ b, b < w0.heap.size → G0 b ≠ .box N) (ht : noPbT N σ.tmps = true) (hb : noPbB N σ.boxes = true) (hc : σ.boxes[N]? = some (List.replicate k .any)) :
    SRel G0 w0 σ (unboxG N G) a w ∧ ∀ b, unboxG N G b ≠ .box N := by
  have hn : ∀ b, unboxG N G b ≠ .box N := fun b hb => (unboxG_box.1 hb).2 rfl
  refine ⟨{ h with good := ?_, slots := fun s => (h.slots s).unbox (noPbT_look ht s), boxes := ⟨h.boxes.low, fun i cs hi => ?_⟩, blt := fun b i hb => h.blt b i (unboxG_box.1 hb).1, stat := fun b hbl hnt => ?_ }, hn⟩
  · refine ⟨fun b hb => h.good.lt b fun h' => hb (by unfold unboxG; rw [h']; simp), fun b b' t h1 h2 => h.good.tags b b' t (unboxG_tag.1 h1) (unboxG_tag.1 h2), fun b b' i h1 h2 => h.good.boxes b b' i (unboxG_box.1 h1).1 (unboxG_box.1 h2).1⟩
  · by_cases hiN : i = N
    · subst hiN
      rw [hc] at hi; cases hi
      exact .inr (.inr ⟨hg, hn, fun x hx v => by rw [(List.mem_replicate.1 hx).2]; exact .froz (.any _)⟩)
    · refine (h.boxes.cell i cs hi).turn rfl (fun j x y v h1 h2 hr => ?_) (fun b hb => ⟨unboxG_box.2 ⟨hb, hiN⟩, rfl⟩) fun h0 b hb => h0 b (unboxG_box.1 hb).1
      rw [h1] at h2; cases h2
      exact hr.unbox (noPbB_mem hb i cs hi x (List.mem_of_getElem? h1))
  · have h1 := h.stat b hbl hnt
    unfold unboxG
    rw [if_neg (fun h' => h0 b hbl (by rw [← h1, h'])), h1]
/-- .. and now there is one -/
theorem SRel.realize {G0 w0 σ G a w} (h : SRel G0 w0 σ G a w) {N d : Nat} {z : Value} {T : TypeId} (hg : G0.gh N = none) (hn : ∀ b, G b ≠ .box N) (hc : σ.boxes[N]? = some (List.replicate z.cells.size .any)) (hz : One z.cells.toList) (hd : d < σ.n) :
    SRel G0 w0 (σ.put (some d) (.pb N 0)) (updG G w.heap.size (.box N)) (a.put (some d) (.pointer (some ⟨w.heap.size, 0, none⟩))) (w.alloc (.cells z.cells T)) := by
  have hE : Ext G w (updG G w.heap.size (.box N)) (w.alloc (.cells z.cells T)) := .alloc _ _
  have hG : Good (updG G w.heap.size (.box N)) (w.alloc (.cells z.cells T)) := h.good.upd _ _ (Nat.le_refl _) (by simp) (by simp) (fun t ht => by cases ht) (fun i hi b hb => by cases hi; exact hn b hb)
  have hbx : ∀ b i, updG G w.heap.size (.box N) b = .box i → (b = w.heap.size ∧ i = N) ∨ G b = .box i := fun b i hb => by
    unfold updG at hb
    split at hb
    · rename_i e; cases hb; exact .inl ⟨e, rfl⟩
    · exact .inr hb
  have hNl : N < σ.boxes.length := (List.getElem?_eq_some_iff.1 hc).1
  refine { good := hG, slots := slots_put (fun s => (h.slots s).ext h.good hE) h.size (by simpa [dstOk] using hd) (.pb _ _ _ (by simp [updG])), boxes := ⟨fun i vs hv => by rw [put_boxes]; exact h.boxes.low i vs hv, fun i cs hi => ?_⟩, blt := fun b i hb => ?_, size := by rw [put_size, put_n]; exact h.size, defs := by rw [put_defers]; exact h.defs, os := hE.os.trans h.os, tape := hE.tape.trans h.tape, output := hE.output.trans h.output, hsize := Nat.le_trans h.hsize hE.size, stat := fun b hb ht => (hE.stat b (Nat.lt_of_lt_of_le hb h.hsize)).trans (h.stat b hb ht), keep := fun b hb hn' ht => (hE.keep b (Nat.lt_of_lt_of_le hb h.hsize)).trans (h.keep b hb hn' ht) }
  · rw [put_boxes] at hi
    by_cases hiN : i = N
    · subst hiN
      rw [hc] at hi; cases hi
      refine .inl ⟨hg, w.heap.size, z.cells, T, by simp [updG], heap_alloc_new w _, hz, by simp, fun j x u hx _ => ?_⟩
      rw [List.getElem?_replicate] at hx
      split at hx
      · cases hx; exact .froz (.any _)
      · cases hx
    · refine (h.boxes.cell i cs hi).same (fun x v hr => hr.ext h.good hE) (fun b hb => ?_) fun h0 b hb => ?_
      · have hbs := h.good.lt b (by rw [hb]; simp)
        exact ⟨by rw [hE.stat b hbs]; exact hb, hE.keep b hbs⟩
      · rcases hbx b i hb with ⟨_, e⟩ | h1
        · exact hiN e
        · exact h0 b h1
  · rw [put_boxes]
    rcases hbx b i hb with ⟨_, rfl⟩ | h1
    · exact hNl
    · exact h.blt b i h1

def lookA : List (Nat × Nat) → Nat → Option Nat
  | [], _ => none
  | (i, N) :: r, k => if i = k then some N else lookA r k
/-- a new variable, at the place that was kept for it -/
def AllocP (P : Program) (bx : List (List AV)) (o : Oper) (N : Nat) (y : AV) : Prop :=
  o.guard = none ∧ y = .pb N 0 ∧ ∃ T q z, o.op = .alloc T ∧ tinfo P T = some q ∧ q.2.2 = some z ∧ zeroOk q.1 z = true ∧ bx[N]? = some (List.replicate q.1 .any)

section
variable {P : Program} {ops : Array Oper} {m : Nat} {vs : List (Nat × AV)} {E : List Nat} {A : List (Nat × Nat)} {C : Nat → List AV} {i0 : Nat} {σ : St} {K : St → Prop} {G0 : Orig} {w0 : World} {Q : Exit → Act → World → Prop}

theorem head_runP {LF : List Nat} {tr : Tr} {sg : Option (Nat × Tr)} (hp : PlanL ops m E LF tr sg) (hE : PlanE ops m E) (h0 : True) (hN : ∀ e a w, e ≠ .normal → ¬ Q e a w) (hQ : ∀ σ' G' a' w', K σ' → SRel G0 w0 σ' G' a' w' → Q .normal a' w') (hvl : vs.length = m) (hap : Apart vs) (hC : ∀ j, (C j).length = (C 0).length)
    (hK : treeA P ops tr (puts { σ with boxes := σ.boxes.set i0 (C E.length) } vs) K) (hK2 : sgA P ops sg (puts { σ with boxes := σ.boxes.set i0 (C E.length) } vs) K)
    (hst : ∀ i o, i < m → ops[i]? = some o → ∃ d y, vs[i]? = some (d, y) ∧ o.dst = some d ∧ d < σ.n ∧
      if i ∈ E then EffC P σ i0 o d (puts σ (vs.take i)).ev (C (E.filter fun e => decide (e < i)).length) y (C ((E.filter fun e => decide (e < i)).length + 1)) else if i ∈ LF then FrontC P o (puts σ (vs.take i)).ev y else match lookA A i with | some N => AllocP P σ.boxes o N y | none => StepG P ops o d (puts σ (vs.take i)) (σ.boxes.set i0 (blankC E (C 0))) y)
    (hA : ∀ i N, i < m → lookA A i = some N → N ≠ i0 ∧ G0.gh N = none ∧ (∀ b, b < w0.heap.size → G0 b ≠ .box N) ∧ (∀ j d y, j ≠ i → vs[j]? = some (d, y) → y.allLeaf (noPb N) = true) ∧ ∀ j, allLeafs (noPb N) (C j) = true)
    (hfr : ∀ i o d, ops[i]? = some o → i < m → o.dst = some d → creates o.op = true → (∀ j d' y, j ≠ i → vs[j]? = some (d', y) → y.allLeaf (freeLeaf d) = true ∨ reach ops j j i = true) ∧ ∀ j, allLeafs (freeLeaf d) (C j) = true) :
    ∀ (fuel : Nat) (listed : Array Bool) (U : List Nat) (τ : St) (G : Nat → Status) (a : Act) (w : World), Left ops listed U → U.length = fuel → (∀ i, m ≤ i → listed.getD i false = false) →
      Closed ops (fun k => listed.getD k false) → AtE vs E C i0 (fun i => listed.getD i false) σ τ → SRel G0 w0 τ G a w →
      (∀ i o d, ops[i]? = some o → i < m → o.dst = some d → creates o.op = true → listed.getD i false = false → τ.free d = true) →
      (∀ i N, i < m → lookA A i = some N → i ∉ E → i ∉ LF → listed.getD i false = false → noPbT N τ.tmps = true ∧ noPbB N τ.boxes = true) → wpAny P .any ops Q fuel listed a w := by
  have posAll : ∀ {L : Nat → Bool}, (∀ i, i < m → L i = true) → posE E L = E.length := fun {L} h => by
    unfold posE
    rw [List.filter_eq_self.2 fun e he => h e (hE.lt e he)]
  have done : ∀ {τ G a w} {L : Nat → Bool}, AtE vs E C i0 L σ τ → (∀ i, i < m → L i = true) → SRel G0 w0 τ G a w → SRel G0 w0 (puts { σ with boxes := σ.boxes.set i0 (C E.length) } vs) G a w := by
    intro τ G a w L hat hall h
    have hpa := puts_at m vs { σ with boxes := σ.boxes.set i0 (C E.length) } hap
    rw [List.take_of_length_le (by omega)] at hpa
    refine h.slotsEq (by rw [hpa.n, hat.n]) (by rw [hpa.boxes, hat.boxes, posAll hall]) fun s => ?_
    by_cases hs : ∀ (i d : Nat) (y : AV), vs[i]? = some (d, y) → d ≠ s
    · rw [hpa.rest s hs, hat.rest s hs]; rfl
    · have : ∃ (i : Nat) (y : AV), vs[i]? = some (s, y) := by
        apply Classical.byContradiction
        intro hcon
        exact hs fun i d y hi hds => hcon ⟨i, y, by rw [← hds]; exact hi⟩
      obtain ⟨i, y, hi⟩ := this
      have hil : i < m := by rw [← hvl]; exact (List.getElem?_eq_some_iff.1 hi).1
      rw [hpa.dst i s y hi, hat.dst i s y hi]
      simp [hil, hall i hil]
  have done2 : ∀ {τ G a w} {L : Nat → Bool} {x dx : Nat} {yx : AV}, AtE vs E C i0 L σ τ → x ∉ E → vs[x]? = some (dx, yx) → (∀ i, i < m → i ≠ x → L i = true) → SRel G0 w0 τ G a w → SRel G0 w0 ((puts { σ with boxes := σ.boxes.set i0 (C E.length) } vs).put (some dx) .any) G a w := by
    intro τ G a w L x dx yx hat hxE hx hall h
    have hpa := puts_at m vs { σ with boxes := σ.boxes.set i0 (C E.length) } hap
    rw [List.take_of_length_le (by omega)] at hpa
    have hpos : posE E L = E.length := by
      unfold posE
      rw [List.filter_eq_self.2 fun e he => hall e (hE.lt e he) fun h' => hxE (h' ▸ he)]
    have h2 := h.reput (d := dx) (x := .any) (.froz (.any _))
    refine h2.slotsEq (by rw [put_n, put_n, hpa.n, hat.n]) (by rw [put_boxes, put_boxes, hpa.boxes, hat.boxes, hpos]) fun s => ?_
    rw [get_put, get_put]
    by_cases hds : dx = s
    · rw [if_pos hds, if_pos hds]
    rw [if_neg hds, if_neg hds]
    by_cases hs : ∀ (i d : Nat) (y : AV), vs[i]? = some (d, y) → d ≠ s
    · rw [hpa.rest s hs, hat.rest s hs]; rfl
    · have : ∃ (i : Nat) (y : AV), vs[i]? = some (s, y) := by
        apply Classical.byContradiction
        intro hcon
        exact hs fun i d y hi hds => hcon ⟨i, y, by rw [← hds]; exact hi⟩
      obtain ⟨i, y, hi⟩ := this
      have hil : i < m := by rw [← hvl]; exact (List.getElem?_eq_some_iff.1 hi).1
      have hix : i ≠ x := fun h' => by subst h'; rw [hx] at hi; cases hi; exact hds rfl
      rw [hpa.dst i s y hi, hat.dst i s y hi]
      simp [hil, hall i hil hix]
  intro fuel
  induction fuel with
  | zero =>
    intro listed U τ G a w hl hU hm hc hat h _ _
    have hUn : U = [] := List.eq_nil_of_length_eq_zero hU
    subst hUn
    have hall : ∀ i, i < ops.size → listed.getD i false = true := fun i hi => by
      cases hb : listed.getD i false
      · have := (hl.mem i).2 ⟨hi, hb⟩; simp at this
      · rfl
    have hms : m = ops.size := by
      apply Classical.byContradiction
      intro hne
      have := hp.le
      have h1 := hall m (by omega)
      rw [hm m (Nat.le_refl m)] at h1; cases h1
    exact (tree_run (P := P) h0 hp.lt hN hQ tr true (List.range m) listed [] _ G a w hp.tr hl hc (fun i hi => by rw [hall i hi]; simp; omega) hK (done hat (fun i hi => hall i (by have := hp.le; omega)) h)).1 rfl
  | succ fuel ih =>
    intro listed U τ G a w hl hU hm hc hat h hfree hph
    have hUn : U ≠ [] := by intro h; rw [h] at hU; simp at hU
    by_cases hdone : ∀ i, i < m → listed.getD i false = true
    · have := (tree_run (P := P) h0 hp.lt hN hQ tr true (List.range m) listed U _ G a w hp.tr hl hc (fun i hi => by
        simp only [List.contains_iff_mem, List.mem_range]
        refine ⟨fun hb => ?_, fun hlt => hdone i hlt⟩
        apply Classical.byContradiction
        intro hge
        rw [hm i (by omega)] at hb; cases hb) hK (done hat hdone h)).1 rfl
      rw [hU] at this; exact this
    by_cases hsg : ∃ x t, sg = some (x, t) ∧ ∀ i, i < m → i ≠ x → listed.getD i false = true
    · obtain ⟨x, t, rfl, hall⟩ := hsg
      obtain ⟨hxm, hxE, hxL, _, ht⟩ := hp.sg x t rfl
      obtain ⟨o, ho⟩ : ∃ p, ops[x]? = some p := ⟨ops[x]'(by have := hp.le; omega), by have := hp.le; simp [show x < ops.size by omega]⟩
      obtain ⟨dx, yx, hv, hd, _, _⟩ := hst x o hxm ho
      have hxf : listed.getD x false = false := by
        cases hb : listed.getD x false
        · rfl
        · exact absurd (fun i hi => by by_cases hix : i = x; · rw [hix]; exact hb
                                       · exact hall i hi hix) hdone
      simp only [sgA, ho] at hK2
      obtain ⟨d', hd', hK2⟩ := hK2
      rw [hd] at hd'; cases hd'
      have := (tree_run (P := P) h0 hp.lt hN hQ t true _ listed U _ G a w ht hl hc (fun i hi => by
        simp only [List.contains_iff_mem, List.mem_filter, List.mem_range, Bool.not_eq_true', beq_eq_false_iff_ne, ne_eq]
        refine ⟨fun hb => ⟨?_, fun hix => by rw [hix, hxf] at hb; cases hb⟩, fun ⟨h1, h2⟩ => hall i h1 h2⟩
        apply Classical.byContradiction
        intro hge
        rw [hm i (by omega)] at hb; cases hb) hK2 (done2 hat hxE hv hall h)).1 rfl
      rw [hU] at this; exact this
    · suffices key : ∀ i, i ∈ Region.ready .any ops listed → i < m → (i ∈ LF → wpAny P .any ops Q (fuel + 1) listed a w) ∧ (i ∉ LF → Go.wpOp P ops Q i (wpAny P .any ops Q fuel (listed.setIfInBounds i true)) a w) by
        by_cases hLF : ∃ j, j ∈ LF ∧ j ∈ Region.ready .any ops listed
        · obtain ⟨j, h1, h2⟩ := hLF
          exact (key j h2 (hp.fr j h1).1).1 h1
        · refine ⟨fun hr => absurd hr (some_ready hl hp.lt hUn), fun i hi => (key i hi ?_).2 fun hiL => hLF ⟨i, hiL, hi⟩⟩
          obtain ⟨o, ho, h1, h2⟩ := (ready_iff hl.size).1 hi
          apply Classical.byContradiction
          intro hge
          have hall : ∀ j, j < m → sgIs sg j = false → listed.getD j false = true := fun j => by
            refine Nat.strongRecOn (motive := fun j => j < m → sgIs sg j = false → listed.getD j false = true) j ?_
            intro j ihj hjm hjs
            by_cases hjL : j ∈ LF
            · obtain ⟨p, hpj⟩ : ∃ p, ops[j]? = some p := ⟨ops[j]'(by have := hp.le; omega), by have := hp.le; simp [show j < ops.size by omega]⟩
              cases hb : listed.getD j false
              · exact absurd ⟨j, hjL, (ready_iff hl.size).2 ⟨p, hpj, hb, fun k hk => by
                  have := hp.lt j p hpj k hk
                  refine ihj k this (by omega) ?_
                  cases hsg' : sg with
                  | none => rfl
                  | some q =>
                    obtain ⟨x, t⟩ := q
                    have := (hp.sg x t hsg').2.2.2.1 j hjL p hpj
                    simp only [sgIs, beq_eq_false_iff_ne, ne_eq]
                    exact fun hkx => this (hkx ▸ hk)⟩⟩ hLF
              · rfl
            · exact reach_listed hc ops.size i j o ho h2 (hp.tail i o ho (by omega) j hjm hjL hjs)
          cases hsg' : sg with
          | none => exact hdone fun j hj => hall j hj (by rw [hsg']; rfl)
          | some q =>
            obtain ⟨x, t⟩ := q
            exact hsg ⟨x, t, hsg', fun j hj hjx => hall j hj (by rw [hsg']; simpa [sgIs] using hjx)⟩
      intro i hi him
      obtain ⟨o, ho, h1, h2⟩ := (ready_iff hl.size).1 hi
      have hlt := (Array.getElem?_eq_some_iff.1 ho).1
      obtain ⟨d, y, hv, hd, hdn, hstep⟩ := hst i o him ho
      obtain ⟨d', hd', hself, hpair⟩ := hp.head i o ho him
      rw [hd] at hd'; cases hd'
      have hmem : i ∈ U := (hl.mem i).2 ⟨hlt, h1⟩
      obtain ⟨l1, l2⟩ := hl.step hmem
      have hsz : i < listed.size := by rw [hl.size]; exact hlt
      have hsame : ∀ s ∈ slotsG ops o, (puts σ (vs.take i)).get s = τ.get s := by
        intro s hsm
        have hpa := puts_at i vs σ hap
        by_cases hs : ∀ (i d : Nat) (y : AV), vs[i]? = some (d, y) → d ≠ s
        · rw [hpa.rest s hs, hat.rest s hs]
        · have : ∃ (j : Nat) (y : AV), vs[j]? = some (s, y) := by
            apply Classical.byContradiction
            intro hcon
            exact hs fun i d y hi hds => hcon ⟨i, y, by rw [← hds]; exact hi⟩
          obtain ⟨j, y', hj⟩ := this
          have hjl : j < m := by rw [← hvl]; exact (List.getElem?_eq_some_iff.1 hj).1
          obtain ⟨p, hpj⟩ : ∃ p, ops[j]? = some p := ⟨ops[j]'(by have := hp.le; omega), by have := hp.le; simp [show j < ops.size by omega]⟩
          obtain ⟨d'', y'', hv'', hds'', _⟩ := hst j p hjl hpj
          rw [hj] at hv''; cases hv''
          have hji : j ≠ i := fun hji => by subst hji; rw [hv] at hj; cases hj; exact hself hsm
          have hre := (hpair j p s hjl hji hpj hds'').2 hsm
          rw [hpa.dst j s y' hj, hat.dst j s y' hj]
          by_cases hjlt : j < i
          · rw [if_pos hjlt] at hre
            have := reach_listed hc ops.size i j o ho h2 hre
            simp [hjlt, this]
          · rw [if_neg hjlt] at hre
            have hjf : listed.getD j false = false := by
              cases hb : listed.getD j false
              · rfl
              · have := reach_listed hc ops.size j i p hpj (fun k hk => hc j p hpj hb k hk) hre
                rw [h1] at this; cases this
            simp [hjlt, hjf]
      have hevs : ∀ x ∈ o.op.operands, (puts σ (vs.take i)).ev x = τ.ev x := by
        intro x hx
        cases x with
        | tmp s =>
          simp only [St.ev]
          refine hsame s (List.mem_append.2 (.inr ?_))
          unfold slotsOf
          exact List.mem_filterMap.2 ⟨.tmp s, by simpa using hx, rfl⟩
        | const v => rfl
        | func f => rfl
        | global g => rfl
      -- the frame behind the step
      have hLi : (listed.setIfInBounds i true).getD i false = true := by rw [set_getD hsz]; simp
      have hLj : ∀ j, j ≠ i → (listed.setIfInBounds i true).getD j false = listed.getD j false := fun j hj => by rw [set_getD hsz, if_neg (Ne.symm hj)]
      have hpos := posE_step (L := fun k => listed.getD k false) (L' := fun k => (listed.setIfInBounds i true).getD k false) hE.nodup hLj h1 hLi
      have hgo : ∀ {τ' G' a' w'}, τ'.n = τ.n → τ'.tmps = putT τ.tmps d y → τ'.boxes = σ.boxes.set i0 (C (posE E fun k => (listed.setIfInBounds i true).getD k false)) → SRel G0 w0 τ' G' a' w' → wpAny P .any ops Q fuel (listed.setIfInBounds i true) a' w' := by
        intro τ' G' a' w' e1 e2 e3 hs'
        have hget : ∀ s, τ'.get s = if d = s then y else τ.get s := fun s => by unfold St.get; rw [e2, lookT_put]
        refine ih _ _ τ' G' _ _ l1 (by omega) (fun j hj => ?_) (hc.step hsz ho h2) ⟨by rw [e1, hat.n], e3, fun j d' y' hj => ?_, fun s hs => ?_⟩ hs' (fun j oj dj hoj hjm hdj hcr hjf => ?_) (fun j N hjm hjA hjE hjL hjf => ?_)
        · rw [set_getD hsz, if_neg (by omega)]; exact hm j hj
        · rw [hget]
          by_cases hij : j = i
          · subst hij; rw [hv] at hj; cases hj; simp [hLi]
          · rw [if_neg (hap i j d y d' y' hv hj (Ne.symm hij)), hat.dst j d' y' hj, hLj j hij]
        · rw [hget, if_neg (hs i d y hv), hat.rest s hs]
        · by_cases hij : j = i
          · subst hij; rw [hLi] at hjf; cases hjf
          · rw [hLj j hij] at hjf
            have hf := hfree j oj dj hoj hjm hdj hcr hjf
            obtain ⟨f1, f2⟩ := hfr j oj dj hoj hjm hdj hcr
            have f1 : y.allLeaf (freeLeaf dj) = true := (f1 i d y (Ne.symm hij) hv).elim id fun f1 => by
              have := reach_listed hc i i j o ho h2 f1
              rw [hjf] at this; cases this
            simp only [St.free, Bool.and_eq_true, decide_eq_true_eq] at hf ⊢
            refine ⟨hf.1, by rw [e2]; exact freeT_put f1 hf.2.1, ?_⟩
            rw [e3]
            have hfb := hf.2.2
            rw [hat.boxes] at hfb
            have hset : ∀ (bx : List (List AV)) (k : Nat) (c c' : List AV), freeB dj (bx.set k c) = true → allLeafs (freeLeaf dj) c' = true → freeB dj (bx.set k c') = true := by
              intro bx
              induction bx with
              | nil => intro k c c' _ _; rfl
              | cons b bx ihb =>
                intro k c c' h1 h2
                cases k with
                | zero => simp only [List.set_cons_zero, freeB, Bool.and_eq_true] at h1 ⊢; exact ⟨h2, h1.2⟩
                | succ k => simp only [List.set_cons_succ, freeB, Bool.and_eq_true] at h1 ⊢; exact ⟨h1.1, ihb k c c' h1.2 h2⟩
            exact hset _ _ _ _ hfb (f2 _)
        · by_cases hij : j = i
          · subst hij; rw [hLi] at hjf; cases hjf
          · rw [hLj j hij] at hjf
            obtain ⟨q1, q2⟩ := hph j N hjm hjA hjE hjL hjf
            obtain ⟨_, _, _, f1, f2⟩ := hA j N hjm hjA
            refine ⟨by rw [e2]; exact noPbT_put (f1 i d y (Ne.symm hij) hv) q1, ?_⟩
            rw [e3]
            rw [hat.boxes] at q2
            have := noPbB_set _ i0 _ q2 (f2 (posE E fun k => (listed.setIfInBounds i true).getD k false))
            rw [List.set_set] at this
            exact this
      refine ⟨fun hiL => ?_, fun hnL => ?_⟩
      · obtain ⟨_, hiE, hfr'⟩ := hp.fr i hiL
        obtain ⟨d', hfront⟩ := hfr' o ho
        obtain rfl : d = d' := by have := hfront.dst; rw [hd] at this; simpa using this
        rw [if_neg hiE, if_pos hiL] at hstep
        rw [if_neg hiE, Nat.add_zero] at hpos
        obtain ⟨v, hv', hex⟩ := hstep G a w h.good (fun x hx => by rw [hevs x hx]; exact h.ev x)
        have hs' := h.add (.refl G w) h.good (fun _ _ h => h) (d := some d) (x := y) (v := v) (by simp [dstOk, hat.n, hdn]) hv'
        exact front_run hN hfront fuel listed a w v hl.size hc hi hex (hgo (τ' := τ.put (some d) y) rfl rfl (by rw [put_boxes, hat.boxes, hpos]) hs')
      by_cases hiE : i ∈ E
      case neg =>
        rw [if_neg hiE, if_neg hnL] at hstep
        rw [if_neg hiE, Nat.add_zero] at hpos
        cases hlA : lookA A i with
        | some N =>
          rw [hlA] at hstep
          obtain ⟨hgd, rfl, T, q, z, hop, hq, hz, hzo, hbN⟩ := hstep
          obtain ⟨a1, a2, a3, _, _⟩ := hA i N him hlA
          obtain ⟨p1, p2⟩ := hph i N him hlA hiE hnL h1
          have hbN' : τ.boxes[N]? = some (List.replicate q.1 .any) := by rw [hat.boxes, List.getElem?_set_ne (Ne.symm a1)]; exact hbN
          obtain ⟨hu, hun⟩ := h.unbox a2 a3 p1 p2 hbN'
          simp only [zeroOk, Bool.and_eq_true, decide_eq_true_eq] at hzo
          obtain ⟨_, hone⟩ := ofConst_cells (S := fun _ => False) (w := w) z hzo.2
          have hr := hu.realize (d := d) (z := z) (T := T) a2 hun (by rw [hzo.1]; exact hbN') hone (by rw [hat.n]; exact hdn)
          obtain ⟨sz, by_, zz⟩ := q
          simp only at hz
          subst hz
          obtain ⟨ti, hti, _, _, hzz⟩ := tinfo_some hq
          have hrun : (execOp a.eval o).run P w = .ok (.value (.pointer (some ⟨w.heap.size, 0, none⟩))) (w.alloc (.cells z.cells T)) := by
            simp [execOp, hop, Instr.alloc, newVar, newRow, zeroValue, typeInfo, hti, hzz]
          simp only [Go.wpOp, ho]
          rw [if_pos (by simp [Region.wanted, hgd])]
          refine .inl ?_
          simp only [Oper.wp, hrun, Oper.upon, hd]
          exact hgo (τ' := τ.put (some d) (.pb N 0)) rfl rfl (by rw [put_boxes, hat.boxes, hpos]) hr
        | none =>
        rw [hlA] at hstep
        have hops : ∀ x ∈ o.op.operands, ∀ {G}, SRel G0 w0 τ G a w → VRel G w ((puts σ (vs.take i)).ev x) (a.eval x) := fun x hx G h => by rw [hevs x hx]; exact h.ev x
        have hgo2 : ∀ {G' a' w'}, SRel G0 w0 (τ.put (some d) y) G' a' w' → wpAny P .any ops Q fuel (listed.setIfInBounds i true) a' w' := fun hs' =>
          hgo (τ' := τ.put (some d) y) rfl rfl (by rw [put_boxes, hat.boxes, hpos]) hs'
        have hrun : StepOk P o d (puts σ (vs.take i)).ev (σ.boxes.set i0 (blankC E (C 0))) y → o.wp P a w (wpAny P .any ops Q fuel (listed.setIfInBounds i true)) Q := by
          intro hstep
          have key : ∀ {G}, SRel G0 w0 τ G a w → (creates o.op = true → Fresh d G) → o.wp P a w (wpAny P .any ops Q fuel (listed.setIfInBounds i true)) Q := fun {G} h hfr' =>
            hstep _ G a w h.good ((show BRel _ G w (σ.boxes.set i0 (C (posE E fun k => listed.getD k false))) from by rw [← hat.boxes]; exact h.boxes).blank (hC _) fun hE0 => by rw [hE0]; rfl) hfr' (fun x hx => hops x hx h) _ _ fun v w' G' g1 g2 g3 g4 =>
              hgo2 (by rw [hd]; exact h.add g2 g3 g4.boxes (by simp [dstOk, hat.n, hdn]) g1)
          by_cases hcr : creates o.op = true
          · obtain ⟨hs, hf⟩ := h.fresh (hfree i o d ho him hd hcr h1) h0
            exact key hs fun _ => hf
          · exact key h fun hc' => absurd hc' hcr
        simp only [Go.wpOp, ho]
        rcases hstep with ⟨hg, hstep⟩ | ⟨j, want, g, c, hg, hgs, hgv, hc2⟩ | ⟨j, want, g, vs', hg, hgs, hgv, rfl⟩
        · rw [if_pos (by simp [Region.wanted, hg])]
          exact .inl (hrun hstep)
        · have hgm : g ∈ slotsG ops o := by simp [slotsG, guardS, hg, hgs]
          have hv2 := h.slots g
          rw [← hsame g hgm, hgv] at hv2
          have hy := yielded_bool hgs hv2.sc_inv
          rcases hc2 with ⟨rfl, hstep⟩ | ⟨hne, rfl⟩
          · rw [if_pos (by simp [Region.wanted, hg, hy])]
            exact .inl (hrun hstep)
          · rw [if_neg (by simp [Region.wanted, hg, hy, hne])]
            have hs' := h.add (.refl G w) h.good (fun _ _ h => h) (d := o.dst) (x := .sc undef) (v := undef) (by rw [hd]; simp [dstOk, hat.n, hdn]) (.froz (.sc _))
            exact hgo2 (G' := G) (by rw [hd] at hs' ⊢; exact hs')
        · have hgm : g ∈ slotsG ops o := by simp [slotsG, guardS, hg, hgs]
          have hv2 := h.slots g
          rw [← hsame g hgm, hgv] at hv2
          have hy := yielded_none hgs hv2.sc_inv
          rw [if_neg (by simp [Region.wanted, hg, hy])]
          have hs' := h.add (.refl G w) h.good (fun _ _ h => h) (d := o.dst) (x := .sc undef) (v := undef) (by rw [hd]; simp [dstOk, hat.n, hdn]) (.froz (.sc _))
          exact hgo2 (G' := G) (by rw [hd] at hs' ⊢; exact hs')
      case pos =>
        rw [if_pos hiE] at hstep
        rw [if_pos hiE] at hpos
        obtain ⟨hg, fid, args, As, r, c1, hop, hpb, hnt, hnt0, hcon, hr1, hr2, hye, hce⟩ := hstep
        -- all effects ahead of it are listed, none behind it is
        have hposi : posE E (fun k => listed.getD k false) = (E.filter fun e => decide (e < i)).length := by
          unfold posE
          congr 1
          refine List.filter_congr fun e he => ?_
          rcases Nat.lt_trichotomy e i with hlt' | heq | hgt
          · have := reach_listed hc ops.size i e o ho h2 (hE.chain e he i hiE hlt')
            simp [hlt', this]
          · subst heq; simp [h1]
          · have hnl : listed.getD e false = false := by
              cases hb : listed.getD e false
              · rfl
              · have hel := hE.lt e he
                obtain ⟨p, hpe⟩ : ∃ p, ops[e]? = some p := ⟨ops[e]'(by have := hp.le; omega), by have := hp.le; simp [show e < ops.size by omega]⟩
                have := reach_listed hc ops.size e i p hpe (fun k hk => hc e p hpe hb k hk) (hE.chain i hiE e he hgt)
                rw [h1] at this; cases this
            simp [hnl]; omega
        have hargs : args.toList.map (puts σ (vs.take i)).ev = args.toList.map τ.ev := by
          refine List.map_congr_left fun x hx => hevs x ?_
          simp [hop, Op.operands, Call.operands]
          exact .inr (by simpa using hx)
        rw [hargs] at hpb hnt hcon
        have hcr : creates o.op = true := by simp [creates, hop]
        have hfd := hfree i o d ho him hd hcr h1
        -- the variable is there
        have hva : ∀ G, SRel G0 w0 τ G a w → PW (VRel G w) (args.toList.map τ.ev) (args.map a.eval).toList := fun G hs => by
          rw [Array.toList_map]
          refine ⟨by simp, fun j x u hx hu => ?_⟩
          simp only [List.getElem?_map] at hx hu
          cases hj : args.toList[j]? with
          | none => simp [hj] at hx
          | some c => simp [hj] at hx hu; subst hx; subst hu; exact hs.ev c
        have hi0 : i0 < σ.boxes.length := by
          obtain ⟨b, hb⟩ := pbss_real (i := i0) _ _ (hva G h) (dedup_mem _ (by rw [hpb]; simp))
          have := h.blt b i0 hb
          rw [hat.boxes] at this; simpa using this
        have hbx : getAll τ.boxes [i0] = some [C (posE E fun k => listed.getD k false)] := by
          simp only [getAll, hat.boxes, List.getElem?_set, if_true, hi0]
        have hlen : τ.boxes.length = σ.boxes.length := by rw [hat.boxes]; simp
        rw [← hposi] at hcon hnt0 hce
        have hcall : CallB P fid (args.toList.map τ.ev) [i0] d τ fun σ' => σ'.n = τ.n ∧ σ'.tmps = putT τ.tmps d y ∧ σ'.boxes = σ.boxes.set i0 (C (posE E (fun k => listed.getD k false) + 1)) := by
          refine ⟨hfd, by rw [hat.n]; exact hdn, hnt, rfl, _, hbx, hnt0, hcon.mono ?_⟩
          rintro r' bx ⟨rfl, rfl⟩
          refine ⟨hr1, hr2, rfl, by rw [hlen, ← hye]; rfl, ?_⟩
          rw [put_boxes]
          have hce' : mapB (outLeaf (64 * (d + 1)) [i0] σ.boxes.length) [c1] = [C (posE E (fun k => listed.getD k false) + 1)] := hce.symm
          simp only [List.length_singleton, List.take_succ_cons, List.take_zero, List.drop_succ_cons, List.drop_nil, hlen, hce', mapB, setAll, List.append_nil]
          rw [hat.boxes, List.set_set]
        obtain ⟨⟨fn, hfn, hname, hbody⟩, hcalls⟩ := CallB.sound hcall h h0 hva (fun G hs j hj => by
          simp at hj; subst hj
          exact pbss_real _ _ (hva G hs) (dedup_mem _ (by rw [hpb]; simp)))
        have hrun : (execOp a.eval o).run P w = .ok (.enter fid (args.map a.eval)) w := by
          have hname' : ¬ fn.name = "runtime.NumGoroutine" := by simpa using hname
          have hbody' : ¬ fn.body = none := by intro h; rw [h] at hbody; simp at hbody
          have hfe : a.eval (.func fid) = .func (.func fid) #[] #[] := rfl
          simp [execOp, hop, resolve, hfe, Deferred.ofValue, invoke, callFunc, hfn, hname', hbody']
        simp only [Go.wpOp, ho]
        rw [if_pos (by simp [Region.wanted, hg])]
        refine .inl ?_
        unfold Oper.wp
        rw [hrun, Oper.upon_enter]
        refine hcalls.mono ?_
        rintro e w' ⟨v, σ', G', rfl, ⟨e1, e2, e3⟩, hs'⟩
        exact hgo e1 e2 (by rw [e3, hpos]) (by rw [hd]; exact hs')
end

/-- no pointers to variables, no closures -/
def noVar : AV → Bool
  | .pb _ _ => false
  | .cl _ _ => false
  | _ => true
theorem noVar_noPb {N : Nat} : ∀ x : AV, noVar x = true → noPb N x = true := fun x h => by cases x <;> simp_all [noVar, noPb]
/-- a new variable, as the walk meets it -/
def AllocK (P : Program) (o : Oper) (N : Nat) (σ : St) (K : St → Prop) : Prop :=
  ∃ d, o.dst = some d ∧ d < σ.n ∧ AllocP P σ.boxes o N (.pb N 0) ∧ K (σ.put (some d) (.pb N 0))
def headF (P : Program) (ops : Array Oper) (n0 i0 : Nat) (E LF : List Nat) (A : List (Nat × Nat)) : Nat → List Oper → St → List AV → (St → List AV → Prop) → Prop
  | _, [], σ, c, K => K σ c
  | k, o :: r, σ, c, K => if E.contains k = true then EffK P n0 i0 o σ c fun σ' c' => allLeafs noVar c' = true ∧ headF P ops n0 i0 E LF A (k + 1) r σ' c' K else if LF.contains k = true then frB P o σ fun σ' => headF P ops n0 i0 E LF A (k + 1) r σ' c K else match lookA A k with
    | some N => AllocK P o N σ fun σ' => headF P ops n0 i0 E LF A (k + 1) r σ' c K
    | none => headG P ops o σ fun σ' => headF P ops n0 i0 E LF A (k + 1) r σ' c K

section
variable {P : Program} {ops : Array Oper} {n0 i0 : Nat} {E LF : List Nat} {A : List (Nat × Nat)}

theorem headF_vals (hn : E.Nodup) : ∀ (l : List Oper) (k : Nat) (σ : St) (c : List AV) (K : St → List AV → Prop), headF P ops n0 i0 E LF A k l σ c K → allLeafs noTag c = true → allLeafs noVar c = true → ∃ (vs : List (Nat × AV)) (C : Nat → List AV), vs.length = l.length ∧ (∀ j, j ≤ cntE E k → C j = c) ∧ (∀ j, (C j).length = c.length ∧ allLeafs noTag (C j) = true ∧ allLeafs noVar (C j) = true) ∧ K (puts σ vs) (C (cntE E (k + l.length))) ∧
    ∀ i o, l[i]? = some o → ∃ d y, vs[i]? = some (d, y) ∧ o.dst = some d ∧ d < σ.n ∧
      if k + i ∈ E then EffC P ⟨0, [], List.replicate n0 []⟩ i0 o d (puts σ (vs.take i)).ev (C (cntE E (k + i))) y (C (cntE E (k + i) + 1)) else if k + i ∈ LF then FrontC P o (puts σ (vs.take i)).ev y else match lookA A (k + i) with | some N => AllocP P σ.boxes o N y | none => StepG P ops o d (puts σ (vs.take i)) σ.boxes y
  | [], k, σ, c, K, h, hc, hn0 => ⟨[], fun _ => c, rfl, fun _ _ => rfl, fun _ => ⟨rfl, hc, hn0⟩, h, fun i o hi => by simp at hi⟩
  | o :: l, k, σ, c, K, h, hc, hn0 => by
    unfold headF at h
    have hcs := cntE_succ hn k
    by_cases hk : k ∈ E
    · rw [if_pos (by simpa using hk)] at h
      rw [if_pos hk] at hcs
      obtain ⟨d, y, c', h1, h2, h3, h4, h5, h7, h6⟩ := h
      obtain ⟨vs, C, g1, g2, g3, g4, g5⟩ := headF_vals hn l (k + 1) _ c' K h6 h5 h7
      refine ⟨(d, y) :: vs, fun j => if j ≤ cntE E k then c else C j, by simp [g1], fun j hj => if_pos hj, fun j => ?_, ?_, fun i o' hi => ?_⟩
      · simp only
        split
        · exact ⟨rfl, hc, hn0⟩
        · exact ⟨(g3 j).1.trans h4, (g3 j).2⟩
      · simp only [puts, List.length_cons]
        rw [show k + (l.length + 1) = k + 1 + l.length by omega]
        have : ¬ cntE E (k + 1 + l.length) ≤ cntE E k := by
          have : ∀ t, cntE E (k + 1) ≤ cntE E (k + 1 + t) := fun t => by
            induction t with
            | zero => exact Nat.le_refl _
            | succ t ih => have := cntE_succ hn (k + 1 + t); rw [show k + 1 + (t + 1) = k + 1 + t + 1 by omega]; omega
          have := this l.length; omega
        rw [if_neg this]; exact g4
      · cases i with
        | zero =>
          simp at hi; subst hi
          refine ⟨d, y, rfl, h1, h2, ?_⟩
          rw [Nat.add_zero, if_pos hk]
          dsimp only
          rw [if_pos (Nat.le_refl _), if_neg (by omega), ← hcs, g2 _ (Nat.le_refl _)]
          exact h3
        | succ i =>
          obtain ⟨d', y', k1, k2, k3, k4⟩ := g5 i o' (by simpa using hi)
          rw [put_n] at k3
          refine ⟨d', y', by simpa using k1, k2, k3, ?_⟩
          rw [show k + (i + 1) = k + 1 + i by omega]
          have hge : ∀ t, cntE E (k + 1) ≤ cntE E (k + 1 + t) := fun t => by
            induction t with
            | zero => exact Nat.le_refl _
            | succ t ih => have := cntE_succ hn (k + 1 + t); rw [show k + 1 + (t + 1) = k + 1 + t + 1 by omega]; omega
          have := hge i
          dsimp only
          rw [if_neg (show ¬ cntE E (k + 1 + i) ≤ cntE E k by omega), if_neg (show ¬ cntE E (k + 1 + i) + 1 ≤ cntE E k by omega)]
          rw [put_boxes] at k4
          exact k4
    · rw [if_neg (by simpa using hk)] at h
      rw [if_neg hk, Nat.add_zero] at hcs
      obtain ⟨d, y, h1, h2, h3, h4⟩ : ∃ d y, o.dst = some d ∧ d < σ.n ∧ headF P ops n0 i0 E LF A (k + 1) l (σ.put (some d) y) c K ∧ if k ∈ LF then FrontC P o σ.ev y else match lookA A k with | some N => AllocP P σ.boxes o N y | none => StepG P ops o d σ σ.boxes y := by
        by_cases hkL : k ∈ LF
        · rw [if_pos (by simpa using hkL)] at h
          obtain ⟨d, y, h1, h2, h3, h4⟩ := frB_sound h
          exact ⟨d, y, h1, h2, h3, by rw [if_pos hkL]; exact h4⟩
        · rw [if_neg (by simpa using hkL)] at h
          cases hlA : lookA A k with
          | some N =>
            rw [hlA] at h
            obtain ⟨d, h1, h2, h4, h3⟩ := h
            exact ⟨d, _, h1, h2, h3, by rw [if_neg hkL]; exact h4⟩
          | none =>
            rw [hlA] at h
            obtain ⟨d, y, h1, h2, h3, h4⟩ := headG_sound h
            exact ⟨d, y, h1, h2, h3, by rw [if_neg hkL]; exact h4⟩
      obtain ⟨vs, C, g1, g2, g3, g4, g5⟩ := headF_vals hn l (k + 1) _ c K h3 hc hn0
      refine ⟨(d, y) :: vs, C, by simp [g1], fun j hj => g2 j (by omega), g3, ?_, fun i o' hi => ?_⟩
      · simp only [puts, List.length_cons]
        rw [show k + (l.length + 1) = k + 1 + l.length by omega]; exact g4
      · cases i with
        | zero =>
          simp at hi; subst hi
          refine ⟨d, y, rfl, h1, h2, ?_⟩
          rw [Nat.add_zero, if_neg hk]; exact h4
        | succ i =>
          obtain ⟨d', y', k1, k2, k3, k4⟩ := g5 i o' (by simpa using hi)
          rw [put_n] at k3
          rw [put_boxes] at k4
          refine ⟨d', y', by simpa using k1, k2, k3, ?_⟩
          rw [show k + (i + 1) = k + 1 + i by omega]; exact k4

/-- no other slot points to the variable at a kept place -/
def pbBut (N d : Nat) : List (Nat × AV) → Bool
  | [] => true
  | (s, v) :: r => (s == d || v.allLeaf (noPb N)) && pbBut N d r
theorem pbBut_look {N d : Nat} : ∀ {l : List (Nat × AV)}, pbBut N d l = true → ∀ s, s ≠ d → (lookT l s).allLeaf (noPb N) = true
  | [], _, _, _ => rfl
  | (s', v) :: r, h, s, hs => by
    simp only [pbBut, Bool.and_eq_true, Bool.or_eq_true, beq_iff_eq] at h
    unfold lookT
    split
    · rename_i he
      rcases h.1 with h1 | h1
      · exact absurd (he.symm.trans h1) (by intro e; exact hs e)
      · exact h1
    · exact pbBut_look h.2 s hs
/-- of all kept places: the slots of their variables -/
def keptOk (ops : Array Oper) (l : List (Nat × AV)) : List (Nat × Nat) → Bool
  | [] => true
  | (i, N) :: r => (match (ops[i]?).bind (·.dst) with
    | some d => pbBut N d l
    | none => false) && keptOk ops l r
/-- .. and ahead of the region nothing points to them -/
def keptFree (σ : St) : List (Nat × Nat) → Bool
  | [] => true
  | (_, N) :: r => (decide (σ.boxes.length ≤ N) && (noPbT N σ.tmps && noPbB N σ.boxes)) && keptFree σ r
theorem keptOk_mem {l : List (Nat × AV)} : ∀ {A : List (Nat × Nat)}, keptOk ops l A = true → ∀ i N, lookA A i = some N → ∃ d, (ops[i]?).bind (·.dst) = some d ∧ pbBut N d l = true
  | [], _, i, N, h => by simp [lookA] at h
  | (k, M) :: r, h, i, N, hi => by
    simp only [keptOk, Bool.and_eq_true] at h
    simp only [lookA] at hi
    split at hi
    · rename_i e; subst e; cases hi
      have h1 := h.1
      split at h1
      · rename_i d hd; exact ⟨d, hd, h1⟩
      · cases h1
    · exact keptOk_mem h.2 i N hi
theorem keptFree_mem {σ : St} : ∀ {A : List (Nat × Nat)}, keptFree σ A = true → ∀ i N, lookA A i = some N → σ.boxes.length ≤ N ∧ noPbT N σ.tmps = true ∧ noPbB N σ.boxes = true
  | [], _, i, N, h => by simp [lookA] at h
  | (k, M) :: r, h, i, N, hi => by
    simp only [keptFree, Bool.and_eq_true, decide_eq_true_eq] at h
    simp only [lookA] at hi
    split at hi
    · cases hi; exact h.1
    · exact keptFree_mem h.2 i N hi
def anyB (ph : List Nat) : List (List AV) := ph.map fun k => List.replicate k .any
theorem noPbB_any {N : Nat} : ∀ ph : List Nat, noPbB N (anyB ph) = true
  | [] => rfl
  | k :: r => by
    show (allLeafs (noPb N) (List.replicate k .any) && noPbB N (anyB r)) = true
    rw [noPbB_any r, Bool.and_true]
    induction k with
    | zero => rfl
    | succ k ih => rw [List.replicate_succ]; simp only [allLeafs, ih, Bool.and_true]; rfl
theorem noPbB_app {N : Nat} : ∀ (x y : List (List AV)), noPbB N (x ++ y) = (noPbB N x && noPbB N y)
  | [], y => by simp [noPbB]
  | c :: x, y => by rw [List.cons_append, noPbB, noPbB, noPbB_app x y, Bool.and_assoc]
/-- places kept -/
theorem SRel.kept {G0 w0 σ G a w} (h : SRel G0 w0 σ G a w) (ph : List Nat) : SRel G0 w0 { σ with boxes := σ.boxes ++ anyB ph } G a w :=
  { h with
    boxes := ⟨fun i vs hv => by have := h.boxes.low i vs hv; simp only [List.length_append]; omega, fun i cs hi => by
      simp only at hi
      by_cases hlt : i < σ.boxes.length
      · rw [List.getElem?_append_left hlt] at hi; exact h.boxes.cell i cs hi
      · rw [List.getElem?_append_right (by omega)] at hi
        refine .inr (.inr ⟨by cases hgh : G0.gh i with | none => rfl | some vs => have := h.boxes.low _ vs hgh; omega, fun b hb => by have := h.blt b i hb; omega, fun x hx v => ?_⟩)
        unfold anyB at hi
        rw [List.getElem?_map] at hi
        cases hp : ph[i - σ.boxes.length]? with
        | none => simp [hp] at hi
        | some k => simp [hp] at hi; subst hi; rw [(List.mem_replicate.1 hx).2]; exact .froz (.any _)⟩
    blt := fun b i hb => by have := h.blt b i hb; simp only [List.length_append]; omega }

theorem freeB_kept {d : Nat} : ∀ ph : List Nat, freeB d (anyB ph) = true
  | [] => rfl
  | k :: r => by
    show (allLeafs (freeLeaf d) (List.replicate k .any) && freeB d (anyB r)) = true
    rw [freeB_kept r, Bool.and_true]
    induction k with
    | zero => rfl
    | succ k ih => rw [List.replicate_succ]; simp only [allLeafs, ih, Bool.and_true]; rfl
theorem freeB_two {d : Nat} : ∀ (x y : List (List AV)), freeB d (x ++ y) = (freeB d x && freeB d y)
  | [], y => by simp [freeB]
  | c :: x, y => by rw [List.cons_append, freeB, freeB, freeB_two x y, Bool.and_assoc]
theorem freeAll_kept {σ : St} (ph : List Nat) : ∀ {ds : List Nat}, freeAll σ ds = true → freeAll { σ with boxes := σ.boxes ++ anyB ph } ds = true
  | [], _ => rfl
  | d :: r, h => by
    simp only [freeAll, Bool.and_eq_true] at h ⊢
    refine ⟨?_, freeAll_kept ph h.2⟩
    have h1 := h.1
    simp only [St.free, Bool.and_eq_true] at h1 ⊢
    exact ⟨h1.1, h1.2.1, by rw [freeB_two, h1.2.2, freeB_kept]; rfl⟩
def hasD (d s : Nat) : List (Nat × Nat) → Bool
  | [] => false
  | (a, b) :: r => (a == d && b == s) || hasD d s r
/-- no other slot bears these tags, but those that D names: they are filled later in every order -/
def freeButD (D : List (Nat × Nat)) (d : Nat) : List (Nat × AV) → Bool
  | [] => true
  | (s, v) :: r => (s == d || (hasD d s D || v.allLeaf (freeLeaf d))) && freeButD D d r
def freeOthersD (D : List (Nat × Nat)) (l : List (Nat × AV)) : List Nat → Bool
  | [] => true
  | d :: r => freeButD D d l && freeOthersD D l r
theorem freeButD_look {D : List (Nat × Nat)} {d : Nat} : ∀ {l : List (Nat × AV)}, freeButD D d l = true → ∀ s, s ≠ d → hasD d s D = true ∨ (lookT l s).allLeaf (freeLeaf d) = true
  | [], _, _, _ => .inr rfl
  | (s', v) :: r, h, s, hs => by
    simp only [freeButD, Bool.and_eq_true, Bool.or_eq_true, beq_iff_eq] at h
    unfold lookT
    split
    · rename_i he
      rcases h.1 with h1 | h1 | h1
      · exact absurd (he.symm.trans h1) (by intro e; exact hs e)
      · rw [← he]; exact .inl h1
      · exact .inr h1
    · exact freeButD_look h.2 s hs
theorem freeOthersD_mem {D : List (Nat × Nat)} {l : List (Nat × AV)} : ∀ {ds : List Nat}, freeOthersD D l ds = true → ∀ d ∈ ds, freeButD D d l = true
  | d' :: r, h, d, hd => by
    simp only [freeOthersD, Bool.and_eq_true] at h
    rcases List.mem_cons.1 hd with rfl | hd
    · exact h.1
    · exact freeOthersD_mem h.2 d hd
def lateP (ops : Array Oper) (m d s : Nat) : Bool := (List.range m).all fun i => match ops[i]? with
  | some o => (o.dst != some s) || (List.range m).all fun j => match ops[j]? with
    | some o' => (o'.dst != some d) || reach ops i i j
    | none => true
  | none => true
/-- for each pair (d, s) the slot s is filled after d in every order -/
def lateD (ops : Array Oper) (m : Nat) : List (Nat × Nat) → Bool
  | [] => true
  | (d, s) :: r => lateP ops m d s && lateD ops m r
theorem lateD_has {ops : Array Oper} {m d s : Nat} : ∀ {D : List (Nat × Nat)}, lateD ops m D = true → hasD d s D = true → lateP ops m d s = true
  | (a, b) :: r, h, hd => by
    simp only [lateD, Bool.and_eq_true] at h
    simp only [hasD, Bool.or_eq_true, Bool.and_eq_true, beq_iff_eq] at hd
    rcases hd with ⟨rfl, rfl⟩ | hd
    · exact h.1
    · exact lateD_has h.2 hd
theorem lateP_spec {ops : Array Oper} {m d s i j : Nat} {o o' : Oper} (h : lateP ops m d s = true) (hi : ops[i]? = some o) (him : i < m) (hd : o.dst = some s) (hj : ops[j]? = some o') (hjm : j < m) (hd' : o'.dst = some d) : reach ops i i j = true := by
  unfold lateP at h
  have h1 := List.all_eq_true.1 h i (List.mem_range.2 him)
  rw [hi] at h1
  simp only [hd, bne_self_eq_false, Bool.false_or] at h1
  have h2 := List.all_eq_true.1 h1 j (List.mem_range.2 hjm)
  rw [hj] at h2
  simpa only [hd', bne_self_eq_false, Bool.false_or] using h2
/-- A DRAWN REGION with effects and new variables: A: each one's operation, and the place kept for it behind the boxes; ph: the kept places' sizes. -/
theorem DrawN.effP {σ0 : St} {K : St → Prop} (A : List (Nat × Nat)) (ph : List Nat) (D : List (Nat × Nat)) (i0 : Nat) (E LF : List Nat) (m : Nat) (tr : Tr) (sg : Option (Nat × Tr)) (c : List AV) (hok : lateOk ops m E LF tr sg = true) (hE : effOk ops m E = true) (hD : lateD ops m D = true) (hc : (σ0.boxes ++ anyB ph)[i0]? = some c) (hi0 : i0 < σ0.boxes.length) (hnt : allLeafs noTag c = true) (hnv : allLeafs noVar c = true) (hfree : freeAll σ0 (creators ops m) = true) (hkf : keptFree σ0 A = true)
    (h : headF P ops (σ0.boxes ++ anyB ph).length i0 E LF A 0 (ops.toList.take m) { σ0 with boxes := (σ0.boxes ++ anyB ph).set i0 (blankC E c) } c fun σ' c' => (freeOthersD D σ'.tmps (creators ops m) = true ∧ keptOk ops σ'.tmps A = true) ∧ treeA P ops tr { σ' with boxes := σ'.boxes.set i0 c' } K ∧ sgA P ops sg { σ' with boxes := σ'.boxes.set i0 c' } K) : DrawN P ops σ0 K := by
  intro G0 w0 G a w Q h0 hs0 hN hQ
  have hs := hs0.kept ph
  have hkf := fun i N => keptFree_mem hkf i N
  have hfree : freeAll { σ0 with boxes := σ0.boxes ++ anyB ph } (creators ops m) = true := freeAll_kept ph hfree
  have hall : ∀ N, noPbB N σ0.boxes = true → noPbB N (σ0.boxes ++ anyB ph) = true := fun N hN => by rw [noPbB_app, hN, noPbB_any]; rfl
  obtain ⟨σ, hσ⟩ : ∃ σ : St, σ = { σ0 with boxes := σ0.boxes ++ anyB ph } := ⟨_, rfl⟩
  have hσb : σ.boxes = σ0.boxes ++ anyB ph := by rw [hσ]
  have hσt : σ.tmps = σ0.tmps := by rw [hσ]
  have hσn : σ.n = σ0.n := by rw [hσ]
  rw [← hσ] at hs hfree
  have h : headF P ops σ.boxes.length i0 E LF A 0 (ops.toList.take m) { σ with boxes := σ.boxes.set i0 (blankC E c) } c fun σ' c' => (freeOthersD D σ'.tmps (creators ops m) = true ∧ keptOk ops σ'.tmps A = true) ∧ treeA P ops tr { σ' with boxes := σ'.boxes.set i0 c' } K ∧ sgA P ops sg { σ' with boxes := σ'.boxes.set i0 c' } K := by
    rw [hσ]; exact h
  rw [← hσb] at hc
  have hp := lateOk_plan hok
  simp only [effOk, Bool.and_eq_true, List.all_eq_true, decide_eq_true_eq, Bool.or_eq_true, Bool.not_eq_true', decide_eq_false_iff_not] at hE
  have hpE : PlanE ops m E := ⟨nodupE_spec hE.1.1, hE.1.2, fun e he e' he' hlt => (hE.2 e he e' he').resolve_left (fun hn => hn hlt)⟩
  obtain ⟨vs, C, hvl, hC0, hC, ⟨⟨hoth, hkp⟩, hK, hK2⟩, hst⟩ := headF_vals hpE.nodup _ _ _ _ _ h hnt hnv
  have hlen : (ops.toList.take m).length = m := by have := hp.le; simp; omega
  rw [hlen] at hvl
  have hcm : cntE E (0 + (ops.toList.take m).length) = E.length := by
    rw [hlen, Nat.zero_add]
    unfold cntE posE
    rw [List.filter_eq_self.2 fun e he => by simpa using hpE.lt e he]
  rw [hcm] at hK hK2
  have hst' : ∀ i o, i < m → ops[i]? = some o → ∃ d y, vs[i]? = some (d, y) ∧ o.dst = some d ∧ d < σ.n ∧
      if i ∈ E then EffC P σ i0 o d (puts σ (vs.take i)).ev (C (E.filter fun e => decide (e < i)).length) y (C ((E.filter fun e => decide (e < i)).length + 1)) else if i ∈ LF then FrontC P o (puts σ (vs.take i)).ev y else match lookA A i with | some N => AllocP P σ.boxes o N y | none => StepG P ops o d (puts σ (vs.take i)) (σ.boxes.set i0 (blankC E (C 0))) y := fun i o hi ho => by
    obtain ⟨d, y, k1, k2, k3, k4⟩ := hst i o (by rw [List.getElem?_take, if_pos hi]; simpa using ho)
    refine ⟨d, y, k1, k2, k3, ?_⟩
    rw [Nat.zero_add] at k4
    split
    · rename_i hiE
      rw [if_pos hiE, puts_ev] at k4
      unfold EffC at k4 ⊢
      simp only [List.length_replicate] at k4
      exact k4
    · rename_i hiE
      rw [if_neg hiE] at k4
      rw [hC0 0 (Nat.zero_le _)]
      split
      · rename_i hiL
        rw [if_pos hiL, puts_ev] at k4
        exact k4
      rename_i hiL
      rw [if_neg hiL] at k4
      cases hlA : lookA A i with
      | some N =>
        rw [hlA] at k4
        have hNi : i0 ≠ N := fun e => by have := (hkf i N hlA).1; omega
        obtain ⟨q1, q2, T, q, z, q3, q4, q5, q6, q7⟩ := k4
        simp only [List.getElem?_set_ne hNi] at q7
        exact ⟨q1, q2, T, q, z, q3, q4, q5, q6, q7⟩
      | none =>
      rw [hlA] at k4
      unfold StepG at k4 ⊢
      rw [puts_ev] at k4
      simp only [puts_get] at k4
      exact k4
  have hap : Apart vs := by
    intro i j d y d' y' h1 h2 hij
    have hil : i < m := by have := (List.getElem?_eq_some_iff.1 h1).1; omega
    have hjl : j < m := by have := (List.getElem?_eq_some_iff.1 h2).1; omega
    have hle := hp.le
    obtain ⟨oi, hoi⟩ : ∃ p, ops[i]? = some p := ⟨ops[i]'(by omega), by simp [show i < ops.size by omega]⟩
    obtain ⟨oj, hoj⟩ : ∃ p, ops[j]? = some p := ⟨ops[j]'(by omega), by simp [show j < ops.size by omega]⟩
    obtain ⟨_, _, k1, k2, _⟩ := hst' i oi hil hoi
    obtain ⟨_, _, k3, k4, _⟩ := hst' j oj hjl hoj
    rw [h1] at k1; cases k1
    rw [h2] at k3; cases k3
    obtain ⟨d1, e1, _, e2⟩ := hp.head j oj hoj hjl
    rw [k4] at e1; cases e1
    exact (e2 i oi d hil hij hoi k2).1
  have hs' := hs
  have hgd : ∀ i, (Array.replicate ops.size false).getD i false = false := fun i => by
    by_cases hi : i < ops.size <;> simp [hi]
  have hcrm : ∀ i o d, ops[i]? = some o → i < m → o.dst = some d → creates o.op = true → d ∈ creators ops m := fun i o d ho hi hd hcr => by
    unfold creators
    refine List.mem_filterMap.2 ⟨o, ?_, by rw [if_pos hcr]; exact hd⟩
    refine List.mem_of_getElem? (i := i) ?_
    rw [List.getElem?_take, if_pos hi]; simpa using ho
  have hset : ∀ c', (puts { σ with boxes := σ.boxes.set i0 (blankC E c) } vs).boxes.set i0 c' = σ.boxes.set i0 c' := fun c' => by rw [puts_boxes, List.set_set]
  refine head_runP (P := P) (A := A) hp hpE h0 hN hQ hvl hap (fun j => by rw [(hC j).1, (hC 0).1]) ?_ ?_ hst' (fun i N hi hlA => ⟨fun e => by have := (hkf i N hlA).1; omega, ?_, fun b hb e => ?_, fun j d' y hji hj => ?_, fun j => allLeafs_mono noVar_noPb _ (hC j).2.2⟩) (fun i o d ho hi hd hcr => ⟨fun j d' y hji hj => ?_, fun j => allLeafs_mono noTag_free _ (hC j).2.1⟩) ops.size (Array.replicate ops.size false) (List.range ops.size) σ G a _ ⟨by simp, List.nodup_range, fun i => ?_⟩ (by simp) (fun i _ => hgd i)
    (fun i o _ hi => absurd (show (Array.replicate ops.size false).getD i false = true from hi) (by rw [hgd]; simp)) ⟨rfl, ?_, fun i d y _ => by simp only [hgd]; simp, fun _ _ => rfl⟩ hs' (fun i o d ho hi hd hcr _ => freeAll_mem hfree d (hcrm i o d ho hi hd hcr)) (fun i N hi hlA _ _ _ => ⟨by rw [hσt]; exact (hkf i N hlA).2.1, by rw [hσb]; exact hall N (hkf i N hlA).2.2⟩)
  · rw [hset] at hK
    rw [puts_eq] at hK ⊢
    exact hK
  · rw [hset] at hK2
    rw [puts_eq] at hK2 ⊢
    exact hK2
  · have := (hkf i N hlA).1
    cases hgh : G0.gh N with
    | none => rfl
    | some vs => have := hs0.boxes.low _ vs hgh; omega
  · have h1 := hs0.stat b hb (fun t ht => by rw [e] at ht; cases ht)
    rw [e] at h1
    have := hs0.blt b N h1
    have := (hkf i N hlA).1
    omega
  · obtain ⟨di, hdi, hbut⟩ := keptOk_mem hkp i N hlA
    obtain ⟨oi, hoi⟩ : ∃ p, ops[i]? = some p := ⟨ops[i]'(by have := hp.le; omega), by have := hp.le; simp [show i < ops.size by omega]⟩
    rw [hoi, Option.bind_some] at hdi
    obtain ⟨_, yi, k1, k2, _⟩ := hst' i oi hi hoi
    rw [hdi] at k2; cases k2
    have hne := hap i j di yi d' y k1 hj (Ne.symm hji)
    have hpa := puts_at m vs { σ with boxes := σ.boxes.set i0 (blankC E c) } hap
    rw [List.take_of_length_le (by omega)] at hpa
    have hjm : j < m := by have := (List.getElem?_eq_some_iff.1 hj).1; omega
    have hg := hpa.dst j d' y hj
    simp only [hjm, decide_true, if_true] at hg
    rw [← hg]
    exact pbBut_look hbut d' (Ne.symm hne)
  · have hb := freeOthersD_mem hoth d (hcrm i o d ho hi hd hcr)
    obtain ⟨oi, yi, k1, k2, _⟩ := hst' i o hi ho
    rw [hd] at k2; cases k2
    have hne := hap i j d yi d' y k1 hj (Ne.symm hji)
    have hpa := puts_at m vs { σ with boxes := σ.boxes.set i0 (blankC E c) } hap
    rw [List.take_of_length_le (by omega)] at hpa
    have hjm : j < m := by have := (List.getElem?_eq_some_iff.1 hj).1; omega
    have hg := hpa.dst j d' y hj
    simp only [hjm, decide_true, if_true] at hg
    rw [← hg]
    rcases freeButD_look hb d' (Ne.symm hne) with h1 | h1
    · obtain ⟨oj, hoj⟩ : ∃ p, ops[j]? = some p := ⟨ops[j]'(by have := hp.le; omega), by have := hp.le; simp [show j < ops.size by omega]⟩
      obtain ⟨_, yj, q1, q2, _⟩ := hst' j oj hjm hoj
      rw [hj] at q1; cases q1
      exact .inr (lateP_spec (lateD_has hD h1) hoj hjm q2 ho hi hd)
    · exact .inl h1
  · rw [List.mem_range, hgd]; simp
  · have : posE E (fun i => (Array.replicate ops.size false).getD i false) = 0 := by
      unfold posE
      rw [List.filter_eq_nil_iff.2 fun e _ => by rw [hgd]; simp]; rfl
    rw [this, hC0 0 (Nat.zero_le _)]
    have hi := (List.getElem?_eq_some_iff.1 hc).1
    rw [← (List.getElem?_eq_some_iff.1 hc).2, List.set_getElem_self]
end

/-! ### as rules -/
def headZ (P : Program) (ops : Array Oper) (n0 i0 : Nat) (E LF : List Nat) (A : List (Nat × Nat)) (D : List (Nat × Nat)) (ds : List Nat) (tr : Tr) (sg : Option (Nat × Tr)) (σ : St) (c : List AV) (K : St → Prop) : Prop :=
  (freeOthersD D σ.tmps ds = true ∧ keptOk ops σ.tmps A = true) ∧ treeA P ops tr { σ with boxes := σ.boxes.set i0 c } K ∧ sgA P ops sg { σ with boxes := σ.boxes.set i0 c } K
def headY (P : Program) (ops : Array Oper) (n0 i0 : Nat) (E LF : List Nat) (A : List (Nat × Nat)) (D : List (Nat × Nat)) (ds : List Nat) (tr : Tr) (sg : Option (Nat × Tr)) : Nat → Nat → List Oper → St → List AV → (St → Prop) → Prop
  | _, 0, _, σ, c, K => headZ P ops n0 i0 E LF A D ds tr sg σ c K
  | _, _ + 1, [], σ, c, K => headZ P ops n0 i0 E LF A D ds tr sg σ c K
  | k, m + 1, o :: r, σ, c, K => if E.contains k = true then EffK P n0 i0 o σ c fun σ' c' => allLeafs noVar c' = true ∧ headY P ops n0 i0 E LF A D ds tr sg (k + 1) m r σ' c' K else if LF.contains k = true then frB P o σ fun σ' => headY P ops n0 i0 E LF A D ds tr sg (k + 1) m r σ' c K else match lookA A k with
    | some N => AllocK P o N σ fun σ' => headY P ops n0 i0 E LF A D ds tr sg (k + 1) m r σ' c K
    | none => headG P ops o σ fun σ' => headY P ops n0 i0 E LF A D ds tr sg (k + 1) m r σ' c K
theorem headY_eq {P : Program} {ops : Array Oper} {n0 i0 : Nat} {E LF : List Nat} {A D : List (Nat × Nat)} {ds : List Nat} {tr : Tr} {sg : Option (Nat × Tr)} {K : St → Prop} : ∀ (m k : Nat) (l : List Oper) (σ : St) (c : List AV), headY P ops n0 i0 E LF A D ds tr sg k m l σ c K =
    headF P ops n0 i0 E LF A k (l.take m) σ c fun σ' c' => headZ P ops n0 i0 E LF A D ds tr sg σ' c' K
  | 0, k, l, σ, c => by cases l <;> rfl
  | m + 1, k, [], σ, c => rfl
  | m + 1, k, o :: l, σ, c => by
    have ih : ∀ σ' c', headY P ops n0 i0 E LF A D ds tr sg (k + 1) m l σ' c' K = headF P ops n0 i0 E LF A (k + 1) (l.take m) σ' c' fun σ' c' => headZ P ops n0 i0 E LF A D ds tr sg σ' c' K := fun σ' c' => headY_eq m (k + 1) l σ' c'
    simp only [headY, List.take_succ_cons, headF, ih]
/-- A DRAWN REGION with effects and new variables, its operations put into the row π -/
theorem DrawK.news {P : Program} {l l' : List Oper} {σ : St} {K : St → Prop} (π : List Nat) (A : List (Nat × Nat)) (ph : List Nat) (D : List (Nat × Nat)) (i0 : Nat) (E LF : List Nat) (m : Nat) (tr : Tr) (sg : Option (Nat × Tr)) (c : List AV) (hm : P.follows .mixedOrders = true) (hπ : permOk l π = true) (hl : permG π l π = l') (hok : lateOk l'.toArray m E LF tr sg = true) (hE : effOk l'.toArray m E = true) (hD : lateD l'.toArray m D = true) (hc : (σ.boxes ++ anyB ph)[i0]? = some c) (hi0 : i0 < σ.boxes.length) (hnt : allLeafs noTag c = true ∧ allLeafs noVar c = true)
    (hfree : freeAll σ (crs (l'.take m)) = true ∧ keptFree σ A = true)
    (h : headY P l'.toArray (σ.boxes ++ anyB ph).length i0 E LF A D (crs (l'.take m)) tr sg 0 m l' ⟨σ.n, σ.tmps, (σ.boxes ++ anyB ph).set i0 (blankC E c)⟩ c K) : DrawK P l.toArray σ K :=
  DrawK.ofN hm (DrawN.perm π hπ hl (DrawN.effP A ph D i0 E LF m tr sg c hok hE hD hc hi0 hnt.1 hnt.2 (by rw [crs_creators]; exact hfree.1) hfree.2 (by rw [crs_creators]; rw [headY_eq] at h; exact h)))
/-- .. in the text's row -/
theorem DrawK.news0 {P : Program} {l : List Oper} {σ : St} {K : St → Prop} (A : List (Nat × Nat)) (ph : List Nat) (D : List (Nat × Nat)) (i0 : Nat) (E LF : List Nat) (m : Nat) (tr : Tr) (sg : Option (Nat × Tr)) (c : List AV) (hm : P.follows .mixedOrders = true) (hok : lateOk l.toArray m E LF tr sg = true) (hE : effOk l.toArray m E = true) (hD : lateD l.toArray m D = true) (hc : (σ.boxes ++ anyB ph)[i0]? = some c) (hi0 : i0 < σ.boxes.length) (hnt : allLeafs noTag c = true ∧ allLeafs noVar c = true)
    (hfree : freeAll σ (crs (l.take m)) = true ∧ keptFree σ A = true)
    (h : headY P l.toArray (σ.boxes ++ anyB ph).length i0 E LF A D (crs (l.take m)) tr sg 0 m l ⟨σ.n, σ.tmps, (σ.boxes ++ anyB ph).set i0 (blankC E c)⟩ c K) : DrawK P l.toArray σ K :=
  DrawK.ofN hm (DrawN.effP A ph D i0 E LF m tr sg c hok hE hD hc hi0 hnt.1 hnt.2 (by rw [crs_creators]; exact hfree.1) hfree.2 (by rw [crs_creators]; rw [headY_eq] at h; exact h))

section
variable {P : Program} {n : Nat} {t : List (Nat × AV)} {b : List (List AV)} {ops : Array Oper} {n0 i0 k m : Nat} {E LF ds : List Nat} {A D : List (Nat × Nat)} {tr : Tr} {sg : Option (Nat × Tr)} {l : List Oper} {c : List AV} {K : St → Prop}
variable {d : Nat} {T : TypeId} {pos : String} {af : Array Edge} {g : Option (Nat × Bool)}
@[congr] theorem headY_congr {n0' k' : Nat} {σ σ' : St} {c' : List AV} (h0 : n0 = n0') (h1 : k = k') (h : mkd σ = σ') (h2 : c = c') : headY P ops n0 i0 E LF A D ds tr sg k m l σ c K = headY P ops n0' i0 E LF A D ds tr sg k' m l σ' c' K := by subst_vars; rfl
def selN (o : Option Nat) (f : Nat → Prop) (p : Prop) : Prop := match o with
  | some N => f N
  | none => p
@[congr] theorem selN_congr {o o' : Option Nat} {f : Nat → Prop} {p : Prop} (h : o = o') : selN o f p = selN o' f p := by subst_vars; rfl
@[go_sem] theorem selN_some {N : Nat} {f : Nat → Prop} {p : Prop} : selN (some N) f p = f N := rfl
@[go_sem] theorem selN_none {f : Nat → Prop} {p : Prop} : selN none f p = p := rfl
@[go_sem] theorem headY_zero : headY P ops n0 i0 E LF A D ds tr sg k 0 l ⟨n, t, b⟩ c K = andK (freeOthersD D t ds = true) (andK (keptOk ops t A = true) (andK (treeA P ops tr ⟨n, t, b.set i0 c⟩ K) (sgA P ops sg ⟨n, t, b.set i0 c⟩ K))) := by
  cases l <;> (simp only [headY, headZ, andK]; exact propext and_assoc)
@[go_sem] theorem headY_nil : headY P ops n0 i0 E LF A D ds tr sg k (m + 1) [] ⟨n, t, b⟩ c K = andK (freeOthersD D t ds = true) (andK (keptOk ops t A = true) (andK (treeA P ops tr ⟨n, t, b.set i0 c⟩ K) (sgA P ops sg ⟨n, t, b.set i0 c⟩ K))) := by
  simp only [headY, headZ, andK]; exact propext and_assoc
@[go_sem] theorem headY_succ {dst : Option Tmp} {op : Op} : headY P ops n0 i0 E LF A D ds tr sg k (m + 1) (⟨dst, op, T, pos, af, none⟩ :: l) ⟨n, t, b⟩ c K = selK (E.contains k) (EffK P n0 i0 ⟨dst, op, T, pos, af, none⟩ ⟨n, t, b⟩ c fun σ' c' => andK (allLeafs noVar c' = true) (headY P ops n0 i0 E LF A D ds tr sg (k + 1) m l σ' c' K))
    (selK (LF.contains k) (frB P ⟨dst, op, T, pos, af, none⟩ ⟨n, t, b⟩ fun σ' => headY P ops n0 i0 E LF A D ds tr sg (k + 1) m l σ' c K) (selN (lookA A k) (fun N => AllocK P ⟨dst, op, T, pos, af, none⟩ N ⟨n, t, b⟩ fun σ' => headY P ops n0 i0 E LF A D ds tr sg (k + 1) m l σ' c K) (headOp P ⟨dst, op, T, pos, af, none⟩ ⟨n, t, b⟩ fun σ' => headY P ops n0 i0 E LF A D ds tr sg (k + 1) m l σ' c K))) := by
  rw [selK_ite, selK_ite]
  show (if E.contains k = true then _ else if LF.contains k = true then _ else _) = _
  cases lookA A k <;> rfl
@[congr] theorem AllocK_congr {o : Oper} {N : Nat} {σ σ' : St} {K : St → Prop} (h : mkd σ = σ') : AllocK P o N σ K = AllocK P o N σ' K := by subst_vars; rfl
@[go_sem] theorem AllocK_eq {N : Nat} : AllocK P ⟨some d, .alloc T, k, pos, af, none⟩ N ⟨n, t, b⟩ K = andK (d < n) (caseO (tinfo P T) fun q => caseO q.2.2 fun z => andK (zeroOk q.1 z = true) (caseO b[N]? fun cs => andK (cs = List.replicate q.1 .any) (K (St.put ⟨n, t, b⟩ (some d) (.pb N 0))))) := by
  unfold AllocK AllocP andK caseO
  apply propext
  constructor
  · rintro ⟨d', hd, h1, ⟨_, _, T', q, z, h3, h4, h5, h6, h7⟩, h8⟩
    cases hd; cases h3
    exact ⟨h1, q, h4, z, h5, h6, _, h7, rfl, h8⟩
  · rintro ⟨h1, q, h4, z, h5, h6, cs, h7, rfl, h8⟩
    exact ⟨d, rfl, h1, ⟨rfl, rfl, T, q, z, rfl, h4, h5, h6, h7⟩, h8⟩
attribute [go_sem] freeOthersD freeButD hasD lookA keptOk pbBut keptFree noPbT noPbB noPb noVar anyB
end
end Go.AM

/-! ## CmZ -/
namespace Go.AM
open Go Go.Proofs Go.RowKit

/-! ### the numbers that the dice give, one after the other -/
def rollA (l : List Int) (at_ : Nat) : Nat → Nat
  | 0 => at_
  | n + 1 => pickA l (rollA l at_ n)
def rollV (l : List Int) (at_ : Nat) (most : Int) : Nat → List Int
  | 0 => []
  | n + 1 => rollV l at_ most n ++ [pickV l (rollA l at_ n) (most + 1)]
theorem rollA_le {l : List Int} {at_ : Nat} (h : at_ ≤ l.length) : ∀ n, rollA l at_ n ≤ l.length
  | 0 => h
  | n + 1 => pickA_le (rollA_le h n)
theorem rollV_len {l : List Int} {at_ : Nat} {most : Int} : ∀ n, (rollV l at_ most n).length = n
  | 0 => rfl
  | n + 1 => by rw [rollV, List.length_append, rollV_len n]; rfl
theorem rollV_low {l : List Int} {at_ : Nat} {most : Int} (h : 0 ≤ most) : ∀ n, ∀ x ∈ rollV l at_ most n, 0 ≤ x ∧ x ≤ most
  | 0 => fun x hx => by cases hx
  | n + 1 => fun x hx => by
    rw [rollV, List.mem_append] at hx
    rcases hx with hx | hx
    · exact rollV_low h n x hx
    · simp only [List.mem_cons, List.not_mem_nil, or_false] at hx
      have := pickV_lt (l := l) (at_ := rollA l at_ n) (n := most + 1) (by omega)
      subst hx; omega

/-- what a callee hands back, and its variables, never written again -/
theorem Con.freezeB {P : Program} {f : FuncId} {args : List AV} {bx : List (List AV)} {post : AV → List (List AV) → Prop} (p : Nat → Bool) (h : Con P f args bx post) : Con P f args bx fun r' b' => ∃ r b, post r b ∧ r' = r.freeze p ∧ b' = b.map fun cs => cs.map (AV.freeze p) :=
  ⟨h.1, fun G w vs h1 h2 h3 h4 h5 => (h.2 G w vs h1 h2 h3 h4 h5).mono fun e w' ⟨v, r, bx', G', he, hq, hr, hg, hbx, hlt, e1, e2, e3, e4, e5, e6⟩ => by
    have hbox : ∀ k i, freezeG p G' k = .box i ↔ G' k = .box i := fun k i => by
      unfold freezeG; split
      · rename_i t ht; split <;> simp [ht]
      · exact Iff.rfl
    refine ⟨v, _, bx'.map (fun cs => cs.map (AV.freeze p)), freezeG p G', he, ⟨r, bx', hq, rfl, rfl⟩, hr.freeze, hg.freeze, ⟨fun i vs hv => by simp [noGh] at hv, fun i cs hi => ?_⟩, fun k i hk => by simpa using hlt k i ((hbox k i).1 hk), e1, e2, e3, e4, fun k hk => ?_, e6⟩
    · rw [List.getElem?_map] at hi
      cases hc : bx'[i]? with
      | none => simp [hc] at hi
      | some cs' =>
        simp [hc] at hi; subst hi
        exact (hbx.cell i cs' hc).map (fun x v hr => hr.freeze) (fun k hk => ⟨(hbox k i).2 hk, rfl⟩) fun h0 k hk => h0 k ((hbox k i).1 hk)
    · have := e5 k hk
      unfold freezeG
      split
      · rename_i t ht; rw [this] at ht; exact absurd ht (h2 k t)
      · exact this⟩

set_option maxRecDepth 100000 in
theorem con_ints (l : List Int) (at_ : Nat) (n : Nat) (most : Int) (hs : Seeds l) (ha : at_ ≤ l.length) (hn : n ≤ 6) (hm : 0 ≤ most ∧ most ≤ 100) : Con Tryz.prog 63 [.pb 0 0, vi n, vi most] [diceA l at_]
    fun r b => r = vs 2 (rollV l at_ most n) ∧ b = [diceA l (rollA l at_ n)] := by
  refine Con.intro Tryz.func63 rfl Tryz.ntmps63 Tryz.results63 (by kernel_rfl) (by simp) 1 (by simp) ?_
  simp only [go_sem]
  refine LoopK.intro (fun i : Nat => ⟨22, [(0, .pb 0 0), (1, vi n), (2, vi most), (7, vs 1344 (rollV l at_ most i)), (8, vi i)], [diceA l (rollA l at_ i)]⟩)
    (fun i => n - i) (fun i => i ≤ n) 0 (by omega) ?_ ?_
  · simp only [go_sem, rollV, rollA, List.map_nil]
  rintro i hi
  by_cases h : i < n
  · have hw : IntKind.i64.wrap (i + 1) = i + 1 := wrap_in (by omega) (by omega)
    have hw2 : IntKind.i64.wrap (most + 1) = most + 1 := wrap_in (by omega) (by omega)
    simp only [go_sem, h, hw, hw2]
    refine CallU.boxes (i := 0) (is := []) (bx0 := [diceA l (rollA l at_ i)]) (con_pickF l (rollA l at_ i) (most + 1) hs (rollA_le ha i) (by omega)) (by simp only [go_sem]) (by simp only [go_sem]) (by simp only [go_sem]) (by simp only [go_sem]) (by simp only [go_sem]) ?_
    rintro r b ⟨rfl, rfl⟩
    have hr : roomFor ((rollV l at_ most i).length + 1) 8 := by rw [rollV_len]; simp only [roomFor]; omega
    simp only [go_sem, hr, hw]
    refine roundK.intro (i + 1) (by omega) (by omega) ?_
    simp only [go_sem, rollV, rollA, List.map_append, List.map_cons, List.map_nil]
  · have e : i = n := by omega
    subst e
    simp only [go_sem, h]
theorem con_intsF (l : List Int) (at_ : Nat) (n : Nat) (most : Int) (hs : Seeds l) (ha : at_ ≤ l.length) (hn : n ≤ 6) (hm : 0 ≤ most ∧ most ≤ 100) : Con Tryz.prog 63 [.pb 0 0, vi n, vi most] [diceA l at_]
    fun r b => r = vs 0 (rollV l at_ most n) ∧ b = [diceA l (rollA l at_ n)] :=
  ((con_ints l at_ n most hs ha hn hm).freezeB fun _ => true).mono fun r b ⟨r1, b1, ⟨h1, h2⟩, h3, h4⟩ => by
    subst h1; subst h2; subst h3; subst h4
    refine ⟨?_, ?_⟩
    · rfl
    · rfl

/-! ### configurations as they are built: what is empty is nil -/
def kidN (n : Int) : AV := .ag [vi n, .nil]
def cfgN (t s : Nat) (v : List Int) : AV := .ag [vi 0, .sl t 2 (((s : Int) :: v).map kidN)]
attribute [go_sem] kidN cfgN

set_option maxRecDepth 100000 in
theorem con_config28 (s : Nat) (v : List Int) (hv : v.length ≤ 100) : Con Tryz.prog 21 [vi s, vs 0 v] [] fun r _ => r = cfgN 2 s v := by
  refine Con.intro Tryz.func21 rfl Tryz.ntmps21 Tryz.results21 (by kernel_rfl) (by simp) 0 (by simp) ?_
  simp only [go_sem]
  refine LoopK.intro (fun i : Nat => ⟨28, [(0, vi s), (1, vs 0 v), (4, .pb 0 0), (5, .pb 1 0), (6, vi i)], [[.any, .any], [vi 0, .sl 640 2 (((s : Int) :: v.take i).map kidN)]]⟩)
    (fun i => v.length - i) (fun i => i ≤ v.length) 0 (by omega) ?_ ?_
  · simp only [go_sem, List.take_zero, List.map_cons, List.map_nil]
  rintro i hi
  by_cases h : i < v.length
  · have hw : IntKind.i64.wrap (i + 1) = i + 1 := wrap_in (by omega) (by omega)
    have hg := getv h
    have e : v.take (i + 1) = v.take i ++ [v[i]!] := by rw [List.take_add_one, List.getElem?_eq_getElem h, getElem!_pos v i h]; rfl
    simp only [go_sem, h, hw, List.map_cons]
    refine DrawK.walk 8 mixed (by kernel_rfl) ?_
    simp only [go_sem, h, hw, hg, List.map_cons]
    refine ⟨by simp only [roomFor, List.length_take]; omega, roundK.intro (i + 1) (by omega) (by omega) ?_⟩
    simp only [go_sem, e, List.map_append, List.map_cons, List.map_nil, List.cons_append]
  · have e : i = v.length := by omega
    subst e
    simp only [go_sem, h, List.take_length, List.map_cons]

/-- a configuration of the dice -/
def rollS (l : List Int) (at_ ns : Nat) : Nat := (pickV l at_ ns).toNat
theorem rollS_lt {l : List Int} {at_ ns : Nat} (h : 1 ≤ ns) : rollS l at_ ns < ns ∧ pickV l at_ ns = rollS l at_ ns := by
  have := pickV_lt (l := l) (at_ := at_) (n := ns) (by omega)
  unfold rollS; omega
set_option maxRecDepth 100000 in
theorem con_Config (l : List Int) (at_ : Nat) (m : MD) (hs : Seeds l) (ha : at_ ≤ l.length) (hk : m.kind = 1) (h1 : 1 ≤ m.states.length ∧ m.states.length ≤ 8) (h2 : 1 ≤ m.places.length ∧ m.places.length ≤ 6) :
    Con Tryz.prog 38 [.pb 0 0, vM m] [diceA l at_]
    fun r b => r = cfgN 2 (rollS l at_ m.states.length) (rollV l (pickA l at_) 3 m.places.length) ∧ b = [diceA l (rollA l (pickA l at_) m.places.length)] := by
  refine Con.intro Tryz.func38 rfl Tryz.ntmps38 Tryz.results38 (by kernel_rfl) (by simp) 1 (by simp) ?_
  have hN := rollS_lt (l := l) (at_ := at_) h1.1
  have ei := con_intsF l (pickA l at_) m.places.length 3 hs (pickA_le ha) h2.2 (by omega)
  unfold vM cM
  rw [hk]
  simp only [go_sem, vss, List.length_map]
  refine DrawK.effs0 0 [4, 9] [] 10 (.one 10 (.one 11 .done)) none (diceA l at_) mixed (by kernel_rfl) (by kernel_rfl) (by simp only [go_sem]) (by simp only [go_sem]) ?_
  simp only [go_sem, vss, List.length_map]
  refine EffK.mk (con_pickF l at_ m.states.length hs ha (by omega)) (by simp only [go_sem]) (by simp only [go_sem]) (by simp only [go_sem]) (by simp only [go_sem]) ?_
  simp only [go_sem, vss, List.length_map]
  refine EffK.mk ei (by simp only [go_sem]) (by simp only [go_sem]) (by simp only [go_sem]) (by simp only [go_sem]) ?_
  simp only [go_sem, hN.2]
  refine ⟨CallU.free (con_config28 (rollS l at_ m.states.length) (rollV l (pickA l at_) 3 m.places.length) (by rw [rollV_len]; omega)) (by simp only [go_sem]) (by simp only [go_sem]) ?_, ?_⟩
  · rintro r bx rfl
    simp only [go_sem, vss, List.length_map]
  · exact trivial
end Go.AM

/-! ## CmX -/
namespace Go.AM
open Go Go.Proofs Go.RowKit

/-! ### configurations and models as they are built: what is empty is nil -/
theorem flat_cons (x : AV) (l : List AV) : flat (x :: l) = x.cells ++ flat l := by simp [flat]
theorem kids_pw : ∀ l : List Int, PW Sub (flat (l.map kidN)) (flat ((l.map fun n => CV.mk n []).map vV))
  | [] => PW.nil _
  | n :: l => by
    rw [List.map_cons, List.map_cons, List.map_cons, flat_cons, flat_cons, vV_eq]
    exact PW.append (PW.cons (Sub.refl _) (PW.cons (Sub.nil 2) (PW.nil _))) (kids_pw l)
theorem cfg_le (s : Nat) (v : List Int) : leV (cfgN 0 s v) (vV (cfgC s v)) := by
  rw [vV_eq]
  refine leV_ag ⟨leV_refl _, ?_, trivial⟩
  show leV (.sl 0 2 (((s : Int) :: v).map kidN)) (.sl 0 2 ((((s : Int) :: v).map fun n => CV.mk n []).map vV))
  exact leV_slE (by simp) (fun y hy => by
    obtain ⟨x, _, rfl⟩ := List.mem_map.1 hy
    rw [vV_eq]; rfl) (kids_pw _)
/-- a counter model's rule without moves -/
def ruleN (r : RD) : AV := .ag [vStr r.name, vi r.src, vi r.dst, vs 0 r.need, vs 0 r.give, .nil, vi 0, vi 0, vi 0, .nil, .nil, .nil, .nil, vi 0]
attribute [go_sem] ruleN
def ThinR (r : RD) : Prop := r = bareR r.name r.src r.dst r.need r.give []
theorem rules_pw : ∀ l : List RD, (∀ r ∈ l, ThinR r) → PW Sub (flat (l.map ruleN)) (flat (l.map vRule))
  | [], _ => PW.nil _
  | r :: l, h => by
    rw [List.map_cons, List.map_cons, flat_cons, flat_cons]
    refine PW.append ?_ (rules_pw l fun x hx => h x (List.mem_cons_of_mem _ hx))
    rw [h r (List.mem_cons_self ..)]
    have e1 : Sub .nil (vs 0 []) := Sub.nil 1
    have e3 : Sub .nil (.sl 0 3 (([] : List (Int × Int × Int)).map vTake)) := Sub.nil 3
    exact PW.cons (Sub.refl _) (PW.cons (Sub.refl _) (PW.cons (Sub.refl _) (PW.cons (Sub.refl _) (PW.cons (Sub.refl _) (PW.cons e1 (PW.cons (Sub.refl _) (PW.cons (Sub.refl _) (PW.cons (Sub.refl _) (PW.cons e1 (PW.cons e1 (PW.cons e3 (PW.cons e1 (PW.cons (Sub.refl _) (PW.nil _))))))))))))))
/-- a counter model without moves, as it is built -/
def modelN (m : MD) (t s0 : Nat) (v0 : List Int) : AV := .ag [vi 1, vss m.states, vss m.places, .nil, .nil, vi 0, vi 0, .sl t 14 (m.rules.map ruleN), vi 0, .sl t 2 (((s0 : Int) :: v0).map kidN)]
attribute [go_sem] modelN
theorem model_le {m : MD} {s0 : Nat} {v0 : List Int} (h : GoodM m) (hr : ∀ r ∈ m.rules, ThinR r) (hs : m.start = cfgC s0 v0) : leV (modelN m 0 s0 v0) (vM m) := by
  have hc := cfg_le s0 v0
  rw [vV_eq] at hc
  unfold modelN vM cM
  rw [h.kind, h.letters, h.ranks, h.levels, h.age, hs]
  refine leV_ag ⟨leV_refl _, leV_refl _, leV_refl _, leV_nil 0 1, leV_nil 0 1, leV_refl _, leV_refl _, ?_, leV_refl _, ?_, trivial⟩
  · exact leV_slE (by simp) (fun y hy => by obtain ⟨x, _, rfl⟩ := List.mem_map.1 hy; rfl) (rules_pw _ hr)
  · show leV (.sl 0 2 (((s0 : Int) :: v0).map kidN)) (.sl 0 2 ((((s0 : Int) :: v0).map fun n => CV.mk n []).map vV))
    exact leV_slE (by simp) (fun y hy => by
      obtain ⟨x, _, rfl⟩ := List.mem_map.1 hy
      rw [vV_eq]; rfl) (kids_pw _)

def saneR : RD := ⟨⟨#[114]⟩, 0, 0, [1], [3], [], 0, 0, 0, [], [], [], [], 0⟩
def saneM : MD := { kind := 1, states := [⟨#[97]⟩], places := [⟨#[120]⟩], rules := [saneR], start := cfgC 0 [2] }
theorem sane_plain : PlainM saneM 0 [2] := by
  refine ⟨⟨rfl, by decide, by decide, by decide, rfl, rfl, rfl, rfl, by decide +kernel, ?_, by decide +kernel⟩, by decide +kernel, rfl, ⟨by decide, by decide, ?_⟩⟩
  · intro r hr
    have : r = saneR := by simpa [saneM] using hr
    subst this
    decide +kernel
  · intro x hx
    have : x = 2 := by simpa using hx
    subst this; omega
theorem sane_le : leV (modelN saneM 0 0 [2]) (vM saneM) := model_le sane_plain.good (fun r hr => by
  have : r = saneR := by simpa [saneM] using hr
  subst this; rfl) rfl
def saneA : AtomD := ⟨[1], 2, [0]⟩
theorem one_mem {x y : Int} (h : x ∈ [y]) : x = y := by simpa using h
theorem sane_form : FormA saneM saneA := ⟨rfl, fun x hx => by rw [one_mem (y := 1) hx]; omega, .inr ⟨by decide, by decide⟩, rfl⟩
set_option maxRecDepth 100000 in
set_option maxHeartbeats 4000000 in
theorem con_sane32 : Con Tryz.prog 31 [] [] fun r _ => r = vb true := by
  refine Con.intro Tryz.func31 rfl Tryz.ntmps31 Tryz.results31 (by kernel_rfl) (by simp) 0 (by simp) ?_
  have hp : potR 2 [1] saneM.rules saneM.states.length [2] = some [0] := by decide +kernel
  have hP := con_Potential saneM [1] 2 [2] sane_plain rfl sane_form.small (.inr ⟨by decide, by decide⟩)
  rw [hp] at hP
  have x5 : (valuesB saneA.mod saneA.values && (!holdsF saneA 0 [5]) && closedF saneM.rules 0 [2] saneA == 0) = true := by decide +kernel
  have x6 : (valuesB saneA.mod saneA.values && (!holdsF saneA 0 [6]) && closedF saneM.rules 0 [2] saneA == 0) = false := by decide +kernel
  have xa : acheckF saneA = 0 := by decide +kernel
  have h5 := con_Excludes saneM saneA 0 [2] 0 [5] sane_plain sane_form ⟨by decide, by decide, fun x hx => by rw [one_mem hx]; omega⟩
  have h6 := con_Excludes saneM saneA 0 [2] 0 [6] sane_plain sane_form ⟨by decide, by decide, fun x hx => by rw [one_mem hx]; omega⟩
  rw [x5, xa] at h5
  rw [x6, xa] at h6
  simp only [go_sem]
  refine CallU.freeze (hP.leA (args' := [modelN saneM 0 0 [2], vs 0 [1], vi 2]) ⟨sane_le, leV_refl _, leV_refl _, trivial⟩) (by simp only [go_sem]) (by simp only [go_sem, saneM, saneR, List.map_cons, List.map_nil]) ?_
  rintro r bx rfl
  simp only [go_sem, potV, List.map_cons, List.map_nil]
  refine CallU.freeze (h5.leA (args' := [modelN saneM 0 0 [2], vAtom saneA, cfgN 0 0 [5]]) ⟨sane_le, leV_refl _, cfg_le 0 [5], trivial⟩) (by simp only [go_sem]) (by simp only [go_sem, saneM, saneR, saneA, List.map_cons, List.map_nil]) ?_
  rintro r bx rfl
  simp only [go_sem]
  refine CallU.freeze (h6.leA (args' := [modelN saneM 0 0 [2], vAtom saneA, cfgN 0 0 [6]]) ⟨sane_le, leV_refl _, cfg_le 0 [6], trivial⟩) (by simp only [go_sem]) (by simp only [go_sem, saneM, saneR, saneA, List.map_cons, List.map_nil]) ?_
  rintro r bx rfl
  simp only [go_sem]
  refine CallU.free (con_candidates 1 (by omega) (by omega)) (by simp only [go_sem]) (by simp only [go_sem]) ?_
  rintro r bx rfl
  simp only [go_sem]
  rfl
end Go.AM

/-! ## CnA -/
namespace Go.AM
open Go Go.Proofs Go.RowKit

def statesL : List ByteArray := [⟨#[97]⟩, ⟨#[98]⟩]
def placesL : List ByteArray := [⟨#[120]⟩, ⟨#[121]⟩]
def ruleNames : List ByteArray := [⟨#[114]⟩, ⟨#[115]⟩, ⟨#[116]⟩]
/-- a rule of the dice -/
structure DealR (ns np : Nat) (r : RD) : Prop where
  thin : ThinR r
  src : 0 ≤ r.src ∧ r.src < ns
  dst : 0 ≤ r.dst ∧ r.dst < ns
  need : r.need.length = np ∧ ∀ x ∈ r.need, 0 ≤ x ∧ x ≤ 2
  give : r.give.length = np ∧ ∀ x ∈ r.give, 0 ≤ x ∧ x ≤ 2
def dealM (ns np : Nat) (rules : List RD) (v0 : List Int) : MD := { kind := 1, states := statesL.take ns, places := placesL.take np, rules := rules, start := cfgC 0 v0 }
/-- what the dice deal -/
structure DealM (ns np : Nat) (rules : List RD) (v0 : List Int) : Prop where
  hns : 1 ≤ ns ∧ ns ≤ 2
  hnp : 1 ≤ np ∧ np ≤ 2
  len : 1 ≤ rules.length ∧ rules.length ≤ 3
  names : rules.map RD.name = ruleNames.take rules.length
  rules : ∀ r ∈ rules, DealR ns np r
  start : v0.length = np ∧ ∀ x ∈ v0, 0 ≤ x ∧ x ≤ 3

set_option maxRecDepth 100000 in
set_option maxHeartbeats 4000000 in
theorem con_counter (l : List Int) (at_ : Nat) (hs : Seeds l) (ha : at_ ≤ l.length) :
    Con Tryz.prog 15 [.pb 0 0, vb false] [diceA l at_]
    fun r b => ∃ (ns np : Nat) (rules : List RD) (v0 : List Int) (at' : Nat), DealM ns np rules v0 ∧ at' ≤ l.length ∧ b = [diceA l at'] ∧ r = .ag [vi 1, .sl 2 1 ((statesL.take ns).map vStr), .sl 3 1 ((placesL.take np).map vStr), .nil, .nil, vi 0, vi 0, .sl 4 14 (rules.map ruleN), vi 0, .sl 5 2 (((0 : Int) :: v0).map kidN)] := by
  refine Con.intro Tryz.func15 rfl Tryz.ntmps15 Tryz.results15 (by kernel_rfl) (by simp) 1 (by simp) ?_
  have hp1 := pickA_le ha
  simp only [go_sem]
  refine DrawK.news0 [(11, 2)] [10] [(10, 14), (10, 20), (15, 19), (15, 20)] 0 [2, 7] [] 12 (.one 12 .done) none (diceA l at_) mixed (by kernel_rfl) (by kernel_rfl) (by kernel_rfl) (by simp only [go_sem]) (by simp only [go_sem]) ⟨by simp only [go_sem], by simp only [go_sem]⟩ ⟨by simp only [go_sem], by simp only [go_sem]⟩ ?_
  simp only [go_sem]
  refine EffK.mk (con_pickF l at_ 2 hs ha (by omega)) (by simp only [go_sem]) (by simp only [go_sem]) (by simp only [go_sem]) (by simp only [go_sem]) ?_
  obtain ⟨ns, ens, hns1, hns2⟩ : ∃ ns : Nat, 1 + pickV l at_ 2 = ns ∧ 1 ≤ ns ∧ ns ≤ 2 := by
    have := pickV_lt (l := l) (at_ := at_) (show (1 : Int) ≤ 2 by omega)
    exact ⟨(1 + pickV l at_ 2).toNat, by omega, by omega, by omega⟩
  obtain ⟨np, enp, hnp1, hnp2⟩ : ∃ np : Nat, 1 + pickV l (pickA l at_) 2 = np ∧ 1 ≤ np ∧ np ≤ 2 := by
    have := pickV_lt (l := l) (at_ := pickA l at_) (show (1 : Int) ≤ 2 by omega)
    exact ⟨(1 + pickV l (pickA l at_) 2).toNat, by omega, by omega, by omega⟩
  have hw1 : IntKind.i64.wrap (1 + pickV l at_ 2) = ns := by rw [wrap_in (by omega) (by omega), ens]
  have hw2 : IntKind.i64.wrap (1 + pickV l (pickA l at_) 2) = np := by rw [wrap_in (by omega) (by omega), enp]
  simp only [go_sem, hw1, hns2]
  refine EffK.mk (con_pickF l (pickA l at_) 2 hs hp1 (by omega)) (by simp only [go_sem]) (by simp only [go_sem]) (by simp only [go_sem]) (by simp only [go_sem]) ?_
  have hp2 := pickA_le hp1
  have hrep : List.replicate 10 AV.any = [.any, .any, .any, .any, .any, .any, .any, .any, .any, .any] := rfl
  have est : List.take ns [AV.sc (Value.string { data := #[97] }), AV.sc (Value.string { data := #[98] })] = (statesL.take ns).map vStr := by rw [List.map_take]; rfl
  have epl : List.take np [AV.sc (Value.string { data := #[120] }), AV.sc (Value.string { data := #[121] })] = (placesL.take np).map vStr := by rw [List.map_take]; rfl
  have lst : (statesL.take ns).length = ns := by rw [List.length_take]; simp only [statesL, List.length_cons, List.length_nil]; omega
  have lpl : (placesL.take np).length = np := by rw [List.length_take]; simp only [placesL, List.length_cons, List.length_nil]; omega
  simp only [go_sem, hw2, hnp2, hrep, est, epl, lst, lpl]
  refine ⟨?_, trivial⟩
  refine LoopK.intro (fun p : List RD × Nat => ⟨85, [(0, .pb 0 0), (1, vb false), (4, .pb 1 0), (5, .pb 2 0), (6, vi np), (7, vi p.1.length)], [diceA l p.2, [.any, .any, .any, .any, .any, .any, .any, .any, .any, .any], [vi 1, .sl 704 1 ((statesL.take ns).map vStr), .sl 1024 1 ((placesL.take np).map vStr), .nil, .nil, vi 0, vi 0, .sl 4992 14 (p.1.map ruleN), vi 0, .nil]] ++ Rk 14 p.1.length⟩)
    (fun p => 3 - p.1.length) (fun p => p.1.length ≤ 3 ∧ p.1.map RD.name = ruleNames.take p.1.length ∧ (∀ r ∈ p.1, DealR ns np r) ∧ p.2 ≤ l.length) ([], pickA l (pickA l at_)) ⟨by simp, rfl, by simp, hp2⟩ ?_ ?_
  · simp only [go_sem, List.length_nil, Rk, List.replicate_zero, List.append_nil, List.map_nil]
  rintro ⟨rules, at1⟩ ⟨h1, h2, h3, h4⟩
  simp only at h1 h2 h3 h4
  have hpk := pickV_lt (l := l) (at_ := at1) (show (1 : Int) ≤ 3 by omega)
  obtain ⟨k, ek, hk1, hk2⟩ : ∃ k : Nat, 1 + pickV l at1 3 = k ∧ 1 ≤ k ∧ k ≤ 3 := ⟨(1 + pickV l at1 3).toNat, by omega, by omega, by omega⟩
  have hw3 : IntKind.i64.wrap (1 + pickV l at1 3) = k := by rw [wrap_in (by omega) (by omega), ek]
  simp only [go_sem, List.cons_append, List.nil_append]
  refine CallU.boxes (i := 0) (is := []) (bx0 := [diceA l at1]) (con_pickF l at1 3 hs h4 (by omega)) (by simp only [go_sem]) (by simp only [go_sem]) (by simp only [go_sem]) (by simp only [go_sem]) (by simp only [go_sem]) ?_
  rintro r b ⟨rfl, rfl⟩
  have h5 := pickA_le h4
  generalize pickA l at1 = at2 at h5
  by_cases h : rules.length < k
  · simp only [go_sem, hw3, h]
    obtain ⟨i, hi⟩ : ∃ i, i = rules.length := ⟨_, rfl⟩
    rw [← hi]
    have : i = 0 ∨ i = 1 ∨ i = 2 := by omega
    have hp3 := pickA_le h5
    have hp4 := pickA_le hp3
    have hp5 := rollA_le hp4 np
    have hs1 := rollS_lt (l := l) (at_ := at2) hns1
    have hs2 := rollS_lt (l := l) (at_ := pickA l at2) hns1
    have e1 := con_intsF l (pickA l (pickA l at2)) np 2 hs hp4 (by omega) (by omega)
    have e2 := con_intsF l (rollA l (pickA l (pickA l at2)) np) np 2 hs hp5 (by omega) (by omega)
    have hrep : List.replicate 14 AV.any = [.any, .any, .any, .any, .any, .any, .any, .any, .any, .any, .any, .any, .any, .any] := rfl
    rcases this with rfl | rfl | rfl
    · have hr : DealR ns np (bareR ruleNames[0]! (rollS l at2 ns) (rollS l (pickA l at2) ns) (rollV l (pickA l (pickA l at2)) 2 np) (rollV l (rollA l (pickA l (pickA l at2)) np) 2 np) []) :=
        ⟨rfl, ⟨by show (0 : Int) ≤ (rollS l at2 ns : Int); omega, by show (rollS l at2 ns : Int) < ns; omega⟩, ⟨by show (0 : Int) ≤ (rollS l (pickA l at2) ns : Int); omega, by show (rollS l (pickA l at2) ns : Int) < ns; omega⟩, ⟨rollV_len np, rollV_low (by omega) np⟩, ⟨rollV_len np, rollV_low (by omega) np⟩⟩
      have hln : (rules ++ [bareR ruleNames[0]! (rollS l at2 ns) (rollS l (pickA l at2) ns) (rollV l (pickA l (pickA l at2)) 2 np) (rollV l (rollA l (pickA l (pickA l at2)) np) 2 np) []]).length = 1 := by rw [List.length_append, ← hi]; rfl
      have hnm : ruleNames[0]! = ⟨#[114]⟩ := rfl
      simp only [Rk, List.replicate]
      refine DrawK.news0 [(21, 3)] [14] [(31, 33)] 0 [8, 13, 16, 19] [] 22 (.one 22 .done) none (diceA l at2) mixed (by kernel_rfl) (by kernel_rfl) (by kernel_rfl) (by simp only [go_sem]) (by simp only [go_sem]) ⟨by simp only [go_sem], by simp only [go_sem]⟩ ⟨by simp only [go_sem], by simp only [go_sem]⟩ ?_
      simp only [go_sem, List.length_map, lst]
      refine EffK.mk (con_pickF l at2 ns hs h5 (by omega)) (by simp only [go_sem]) (by simp only [go_sem]) (by simp only [go_sem]) (by simp only [go_sem]) ?_
      simp only [go_sem, List.length_map, lst, hs1.2]
      refine EffK.mk (con_pickF l (pickA l at2) ns hs hp3 (by omega)) (by simp only [go_sem]) (by simp only [go_sem]) (by simp only [go_sem]) (by simp only [go_sem]) ?_
      simp only [go_sem, hs2.2]
      refine EffK.mk e1 (by simp only [go_sem]) (by simp only [go_sem]) (by simp only [go_sem]) (by simp only [go_sem]) ?_
      simp only [go_sem]
      refine EffK.mk e2 (by simp only [go_sem]) (by simp only [go_sem]) (by simp only [go_sem]) (by simp only [go_sem]) ?_
      simp only [go_sem, hrep, ← hi]
      refine ⟨⟨by unfold roomFor; omega, ?_⟩, trivial⟩
      refine roundK.intro (rules ++ [bareR ruleNames[0]! (rollS l at2 ns) (rollS l (pickA l at2) ns) (rollV l (pickA l (pickA l at2)) 2 np) (rollV l (rollA l (pickA l (pickA l at2)) np) 2 np) []], rollA l (rollA l (pickA l (pickA l at2)) np) np) ⟨by rw [hln]; omega, ?_, fun x hx => ?_, rollA_le hp5 np⟩ (by show 3 - (rules ++ [_]).length < 3 - rules.length; rw [hln]; omega) ?_
      · rw [hln, List.map_append, h2, ← hi]; rfl
      · rcases List.mem_append.1 hx with hx | hx
        · exact h3 x hx
        · rw [List.mem_singleton] at hx; subst hx; exact hr
      · simp only [go_sem, hln, Rk, List.replicate, List.map_append, List.map_cons, List.map_nil, List.cons_append, List.nil_append]
        exact ⟨leV_int rfl, by rw [hnm]; exact leV_refl _⟩
    · have hr : DealR ns np (bareR ruleNames[1]! (rollS l at2 ns) (rollS l (pickA l at2) ns) (rollV l (pickA l (pickA l at2)) 2 np) (rollV l (rollA l (pickA l (pickA l at2)) np) 2 np) []) :=
        ⟨rfl, ⟨by show (0 : Int) ≤ (rollS l at2 ns : Int); omega, by show (rollS l at2 ns : Int) < ns; omega⟩, ⟨by show (0 : Int) ≤ (rollS l (pickA l at2) ns : Int); omega, by show (rollS l (pickA l at2) ns : Int) < ns; omega⟩, ⟨rollV_len np, rollV_low (by omega) np⟩, ⟨rollV_len np, rollV_low (by omega) np⟩⟩
      have hln : (rules ++ [bareR ruleNames[1]! (rollS l at2 ns) (rollS l (pickA l at2) ns) (rollV l (pickA l (pickA l at2)) 2 np) (rollV l (rollA l (pickA l (pickA l at2)) np) 2 np) []]).length = 2 := by rw [List.length_append, ← hi]; rfl
      have hnm : ruleNames[1]! = ⟨#[115]⟩ := rfl
      simp only [Rk, List.replicate]
      refine DrawK.news0 [(21, 4)] [14] [(31, 33)] 0 [8, 13, 16, 19] [] 22 (.one 22 .done) none (diceA l at2) mixed (by kernel_rfl) (by kernel_rfl) (by kernel_rfl) (by simp only [go_sem]) (by simp only [go_sem]) ⟨by simp only [go_sem], by simp only [go_sem]⟩ ⟨by simp only [go_sem], by simp only [go_sem]⟩ ?_
      simp only [go_sem, List.length_map, lst]
      refine EffK.mk (con_pickF l at2 ns hs h5 (by omega)) (by simp only [go_sem]) (by simp only [go_sem]) (by simp only [go_sem]) (by simp only [go_sem]) ?_
      simp only [go_sem, List.length_map, lst, hs1.2]
      refine EffK.mk (con_pickF l (pickA l at2) ns hs hp3 (by omega)) (by simp only [go_sem]) (by simp only [go_sem]) (by simp only [go_sem]) (by simp only [go_sem]) ?_
      simp only [go_sem, hs2.2]
      refine EffK.mk e1 (by simp only [go_sem]) (by simp only [go_sem]) (by simp only [go_sem]) (by simp only [go_sem]) ?_
      simp only [go_sem]
      refine EffK.mk e2 (by simp only [go_sem]) (by simp only [go_sem]) (by simp only [go_sem]) (by simp only [go_sem]) ?_
      simp only [go_sem, hrep, ← hi]
      refine ⟨⟨by unfold roomFor; omega, ?_⟩, trivial⟩
      refine roundK.intro (rules ++ [bareR ruleNames[1]! (rollS l at2 ns) (rollS l (pickA l at2) ns) (rollV l (pickA l (pickA l at2)) 2 np) (rollV l (rollA l (pickA l (pickA l at2)) np) 2 np) []], rollA l (rollA l (pickA l (pickA l at2)) np) np) ⟨by rw [hln]; omega, ?_, fun x hx => ?_, rollA_le hp5 np⟩ (by show 3 - (rules ++ [_]).length < 3 - rules.length; rw [hln]; omega) ?_
      · rw [hln, List.map_append, h2, ← hi]; rfl
      · rcases List.mem_append.1 hx with hx | hx
        · exact h3 x hx
        · rw [List.mem_singleton] at hx; subst hx; exact hr
      · simp only [go_sem, hln, Rk, List.replicate, List.map_append, List.map_cons, List.map_nil, List.cons_append, List.nil_append]
        exact ⟨leV_int rfl, by rw [hnm]; exact leV_refl _⟩
    · have hr : DealR ns np (bareR ruleNames[2]! (rollS l at2 ns) (rollS l (pickA l at2) ns) (rollV l (pickA l (pickA l at2)) 2 np) (rollV l (rollA l (pickA l (pickA l at2)) np) 2 np) []) :=
        ⟨rfl, ⟨by show (0 : Int) ≤ (rollS l at2 ns : Int); omega, by show (rollS l at2 ns : Int) < ns; omega⟩, ⟨by show (0 : Int) ≤ (rollS l (pickA l at2) ns : Int); omega, by show (rollS l (pickA l at2) ns : Int) < ns; omega⟩, ⟨rollV_len np, rollV_low (by omega) np⟩, ⟨rollV_len np, rollV_low (by omega) np⟩⟩
      have hln : (rules ++ [bareR ruleNames[2]! (rollS l at2 ns) (rollS l (pickA l at2) ns) (rollV l (pickA l (pickA l at2)) 2 np) (rollV l (rollA l (pickA l (pickA l at2)) np) 2 np) []]).length = 3 := by rw [List.length_append, ← hi]; rfl
      have hnm : ruleNames[2]! = ⟨#[116]⟩ := rfl
      simp only [Rk, List.replicate]
      refine DrawK.news0 [(21, 5)] [14] [(31, 33)] 0 [8, 13, 16, 19] [] 22 (.one 22 .done) none (diceA l at2) mixed (by kernel_rfl) (by kernel_rfl) (by kernel_rfl) (by simp only [go_sem]) (by simp only [go_sem]) ⟨by simp only [go_sem], by simp only [go_sem]⟩ ⟨by simp only [go_sem], by simp only [go_sem]⟩ ?_
      simp only [go_sem, List.length_map, lst]
      refine EffK.mk (con_pickF l at2 ns hs h5 (by omega)) (by simp only [go_sem]) (by simp only [go_sem]) (by simp only [go_sem]) (by simp only [go_sem]) ?_
      simp only [go_sem, List.length_map, lst, hs1.2]
      refine EffK.mk (con_pickF l (pickA l at2) ns hs hp3 (by omega)) (by simp only [go_sem]) (by simp only [go_sem]) (by simp only [go_sem]) (by simp only [go_sem]) ?_
      simp only [go_sem, hs2.2]
      refine EffK.mk e1 (by simp only [go_sem]) (by simp only [go_sem]) (by simp only [go_sem]) (by simp only [go_sem]) ?_
      simp only [go_sem]
      refine EffK.mk e2 (by simp only [go_sem]) (by simp only [go_sem]) (by simp only [go_sem]) (by simp only [go_sem]) ?_
      simp only [go_sem, hrep, ← hi]
      refine ⟨⟨by unfold roomFor; omega, ?_⟩, trivial⟩
      refine roundK.intro (rules ++ [bareR ruleNames[2]! (rollS l at2 ns) (rollS l (pickA l at2) ns) (rollV l (pickA l (pickA l at2)) 2 np) (rollV l (rollA l (pickA l (pickA l at2)) np) 2 np) []], rollA l (rollA l (pickA l (pickA l at2)) np) np) ⟨by rw [hln]; omega, ?_, fun x hx => ?_, rollA_le hp5 np⟩ (by show 3 - (rules ++ [_]).length < 3 - rules.length; rw [hln]; omega) ?_
      · rw [hln, List.map_append, h2, ← hi]; rfl
      · rcases List.mem_append.1 hx with hx | hx
        · exact h3 x hx
        · rw [List.mem_singleton] at hx; subst hx; exact hr
      · simp only [go_sem, hln, Rk, List.replicate, List.map_append, List.map_cons, List.map_nil, List.cons_append, List.nil_append]
        exact ⟨leV_int rfl, by rw [hnm]; exact leV_refl _⟩
  · simp only [go_sem, hw3, h]
    refine CallU.boxes (i := 0) (is := []) (bx0 := [diceA l at2]) (con_intsF l at2 np 3 hs h5 (by omega) (by omega)) (by simp only [go_sem]) (by simp only [go_sem]) (by simp only [go_sem]) (by simp only [go_sem]) (by simp only [go_sem]) ?_
    rintro r b ⟨rfl, rfl⟩
    simp only [go_sem]
    have hcf : Con Tryz.prog 21 [vi 0, vs 0 (rollV l at2 3 np)] [] fun r _ => r = cfgN 2 0 (rollV l at2 3 np) := con_config28 0 (rollV l at2 3 np) (by rw [rollV_len]; omega)
    refine CallU.free hcf (by simp only [go_sem]) (by simp only [go_sem]) ?_
    rintro r b rfl
    simp only [go_sem]
    have hge : 1 ≤ rules.length := by omega
    exact ⟨ns, np, rules, rollV l at2 3 np, rollA l at2 np, ⟨⟨hns1, hns2⟩, ⟨hnp1, hnp2⟩, ⟨hge, h1⟩, h2, h3, ⟨rollV_len np, rollV_low (by omega) np⟩⟩, rollA_le h5 np, rfl, rfl⟩
end Go.AM

/-! ## CnB -/
namespace Go.AM
open Go Go.Proofs Go.RowKit

theorem deal_names {ns np k : Nat} (h1 : 1 ≤ ns ∧ ns ≤ 2) (h2 : 1 ≤ np ∧ np ≤ 2) (h3 : 1 ≤ k ∧ k ≤ 3) : namesB (statesL.take ns ++ placesL.take np ++ [] ++ ruleNames.take k) = true := by
  obtain rfl | rfl : ns = 1 ∨ ns = 2 := by omega
  all_goals obtain rfl | rfl : np = 1 ∨ np = 2 := by omega
  all_goals obtain rfl | rfl | rfl : k = 1 ∨ k = 2 ∨ k = 3 := by omega
  all_goals decide +kernel
theorem states_len {ns : Nat} (h : ns ≤ 2) : (statesL.take ns).length = ns := by rw [List.length_take]; simp only [statesL, List.length_cons, List.length_nil]; omega
theorem places_len {np : Nat} (h : np ≤ 2) : (placesL.take np).length = np := by rw [List.length_take]; simp only [placesL, List.length_cons, List.length_nil]; omega
theorem deal_rule {ns np : Nat} {r : RD} (h : DealR ns np r) : ruleB ns np r = true ∧ bareB r = true ∧ stillB r = true := by
  have h0 := h.thin
  unfold ThinR at h0
  have hmv : r.move = [] := by rw [h0]
  refine ⟨?_, by rw [h0]; rfl, by rw [h0]; rfl⟩
  unfold ruleB changesB movesB smallB indexB betweenB
  rw [hmv]
  simp only [Bool.and_eq_true, decide_eq_true_eq, List.all_eq_true, Bool.or_eq_true]
  have hs := h.src; have hd := h.dst
  refine ⟨⟨⟨⟨hd.1, hd.2⟩, ⟨hs.1, hs.2⟩⟩, ⟨⟨⟨h.need.1, h.give.1⟩, fun x hx => ?_⟩, fun x hx => ?_⟩⟩, .inl rfl⟩
  · have := h.need.2 x hx; omega
  · have := h.give.2 x hx; omega
theorem deal_conf {ns np : Nat} {rules : List RD} {v0 : List Int} (h : DealM ns np rules v0) {s : Nat} {v : List Int} (hs : s < ns) (hl : v.length = np) (hv : ∀ x ∈ v, 0 ≤ x ∧ x ≤ 1048576) : GoodC (dealM ns np rules v0) s v :=
  ⟨by show s < (statesL.take ns).length; rw [states_len h.hns.2]; exact hs, by show v.length = (placesL.take np).length; rw [places_len h.hnp.2]; exact hl, hv⟩
theorem deal_plain {ns np : Nat} {rules : List RD} {v0 : List Int} (h : DealM ns np rules v0) : PlainM (dealM ns np rules v0) 0 v0 := by
  have l1 : (dealM ns np rules v0).states.length = ns := states_len h.hns.2
  have l2 : (dealM ns np rules v0).places.length = np := places_len h.hnp.2
  have h1 := h.hns; have h2 := h.hnp; have h3 := h.len
  have hc : GoodC (dealM ns np rules v0) 0 v0 := deal_conf h (by omega) h.start.1 fun x hx => by have := h.start.2 x hx; omega
  refine ⟨⟨rfl, by rw [l1]; omega, by rw [l2]; omega, by show rules.length ≤ 12; omega, rfl, rfl, rfl, rfl, ?_, fun r hr => ?_, ?_⟩, ?_, rfl, hc⟩
  · show namesB (statesL.take ns ++ placesL.take np ++ [] ++ rules.map RD.name) = true
    rw [h.names]; exact deal_names h1 h2 h3
  · rw [l1, l2]
    have := deal_rule (h.rules r hr)
    exact ⟨this.1, this.2.1⟩
  · exact hc.conf
  · show rules.all stillB = true
    rw [List.all_eq_true]
    exact fun r hr => (deal_rule (h.rules r hr)).2.2
theorem deal_thin {ns np : Nat} {rules : List RD} {v0 : List Int} (h : DealM ns np rules v0) : ∀ r ∈ (dealM ns np rules v0).rules, ThinR r := fun r hr => (h.rules r hr).thin

/-- a model of the dice, never written again -/
theorem con_Counter (l : List Int) (at_ : Nat) (hs : Seeds l) (ha : at_ ≤ l.length) :
    Con Tryz.prog 15 [.pb 0 0, vb false] [diceA l at_]
    fun r b => ∃ (ns np : Nat) (rules : List RD) (v0 : List Int) (at' : Nat), DealM ns np rules v0 ∧ at' ≤ l.length ∧ b = [diceA l at'] ∧ r = vM (dealM ns np rules v0) :=
  ((con_counter l at_ hs ha).freezeB fun _ => true).weak fun r b ⟨r1, b1, ⟨ns, np, rules, v0, at1, hd, h1, h2, h3⟩, h4, h5⟩ => by
    subst h2; subst h3; subst h4; subst h5
    exact ⟨_, ⟨ns, np, rules, v0, at1, hd, h1, rfl, rfl⟩, model_le (m := dealM ns np rules v0) (deal_plain hd).good (deal_thin hd) rfl⟩
/-- a configuration of the dice, never written again -/
theorem con_ConfigC (l : List Int) (at_ : Nat) (m : MD) (hs : Seeds l) (ha : at_ ≤ l.length) (hk : m.kind = 1) (h1 : 1 ≤ m.states.length ∧ m.states.length ≤ 8) (h2 : 1 ≤ m.places.length ∧ m.places.length ≤ 6) :
    Con Tryz.prog 38 [.pb 0 0, vM m] [diceA l at_]
    fun r b => r = vV (cfgC (rollS l at_ m.states.length) (rollV l (pickA l at_) 3 m.places.length)) ∧ b = [diceA l (rollA l (pickA l at_) m.places.length)] :=
  ((con_Config l at_ m hs ha hk h1 h2).freezeB fun _ => true).weak fun r b ⟨r1, b1, ⟨h3, h4⟩, h5, h6⟩ => by
    subst h3; subst h4; subst h5; subst h6
    exact ⟨_, ⟨rfl, rfl⟩, cfg_le _ _⟩
end Go.AM

/-! ## CnC -/
namespace Go.AM
open Go Go.Proofs Go.RowKit

/-! ### values modulo a number -/
def InMod (mod : Int) (v : List Int) : Prop := ∀ s : Nat, v[s]! = omegaI ∨ (0 ≤ v[s]! ∧ v[s]! < mod)
theorem flow_mod {mod : Int} {c : List Int} {r : RD} {v : List Int} (hm : 0 < mod) (hy : r.dst.toNat < v.length) (h : InMod mod v) : InMod mod (flowF mod c r v).2.2 := by
  unfold flowF
  split
  · exact h
  · split
    · intro s
      show (v.set r.dst.toNat (nextF mod c r v))[s]! = omegaI ∨ 0 ≤ (v.set r.dst.toNat (nextF mod c r v))[s]! ∧ (v.set r.dst.toNat (nextF mod c r v))[s]! < mod
      rw [set_bang hy]
      split
      · right
        unfold nextF
        rw [if_pos hm, restF_emod hm]
        exact ⟨Int.emod_nonneg _ (by omega), Int.emod_lt_of_pos _ hm⟩
      · exact h s
    · split <;> exact h
theorem begin_mod {mod f0 : Int} {ns : Nat} (hns : 0 < ns) (hm : 0 < mod) : InMod mod (beginF mod ns f0) := fun s => by
  by_cases hs : s < ns
  · cases s with
    | zero =>
      right
      rw [begin_zero hns]
      unfold firstF
      rw [if_pos hm, restF_emod hm]
      exact ⟨Int.emod_nonneg _ (by omega), Int.emod_lt_of_pos _ hm⟩
    | succ s => left; exact begin_succ hns hs
  · have : (beginF mod ns f0)[s]! = 0 := by rw [getElem!_neg _ s (by rw [begin_len]; exact hs)]; rfl
    rw [this]; right; omega
theorem mem_bangS {l : List Int} {x : Int} (h : x ∈ l) : ∃ s : Nat, l[s]! = x := by
  obtain ⟨i, hi, e⟩ := List.getElem_of_mem h
  exact ⟨i, by rw [getElem!_pos l i hi, e]⟩
theorem values_mod {mod : Int} {w : List Int} (hm : 0 < mod) (h : InMod mod w) : valuesB mod w = true := by
  unfold valuesB
  simp only [Bool.not_eq_true', List.any_eq_false]
  intro x hx
  obtain ⟨s, rfl⟩ := mem_bangS hx
  unfold badV lowF highF
  rw [if_pos hm, if_pos hm]
  rcases h s with h | h
  · rw [h, show (omegaI != 1099511627776) = false from rfl, Bool.false_and]; exact Bool.false_ne_true
  · simp only [Bool.and_eq_true, Bool.or_eq_true, decide_eq_true_eq, not_and]
    intro _; omega
theorem values_zero {w : List Int} (h : InB 1099511627775 w) : valuesB 0 w = true := by
  unfold valuesB
  simp only [Bool.not_eq_true', List.any_eq_false]
  intro x hx
  obtain ⟨s, rfl⟩ := mem_bangS hx
  unfold badV lowF highF
  rw [if_neg (by omega), if_neg (by omega)]
  rcases h s with h | h
  · rw [h, show (omegaI != 1099511627776) = false from rfl, Bool.false_and]; exact Bool.false_ne_true
  · simp only [Bool.and_eq_true, Bool.or_eq_true, decide_eq_true_eq, not_and]
    intro _; omega

section
variable {ns np : Nat} {rules : List RD} {v0 c : List Int} {mod : Int}
theorem deal_in (hd : DealM ns np rules v0) : RulesIn ns rules := fun r hr => by
  have := (hd.rules r hr).dst; omega
theorem sum_deal (hd : DealM ns np rules v0) (hc : c.length = np) (h4 : SmallI 4 c) {v : List Int} (hv : SmallI 1048576 v) : -25165824 ≤ sumF c v ∧ sumF c v ≤ 25165824 := by
  have := sum_small h4 hv
  have := hd.hnp
  omega
theorem start_small (hd : DealM ns np rules v0) : SmallI 1048576 v0 := fun x hx => by have := hd.start.2 x hx; omega
/-- what is found is closed -/
theorem found_closed (hd : DealM ns np rules v0) (hc : c.length = np) (h4 : SmallI 4 c) (hm : ModOk mod) {w : List Int} (h : potR mod c rules ns v0 = some w) :
    w.length = ns ∧ valuesB mod w = true ∧ closedF rules 0 v0 ⟨c, mod, w⟩ = 0 := by
  have hns : 0 < ns := by have := hd.hns; omega
  have hm0 : 0 ≤ mod := by unfold ModOk at hm; omega
  have hs := sum_deal hd hc h4 (start_small hd)
  have hE : ∀ r ∈ rules, -50331648 ≤ effectF c r ∧ effectF c r ≤ 50331648 := fun r hr => effect_small (rule_fine (deal_rule (hd.rules r hr)).1) (by have := hd.hnp; omega) h4
  unfold potR at h
  have hb := pot_bnd (by omega) (deal_in hd) hE (begin_len mod ns (sumF c v0)) (show mod ≤ 25165824 by unfold ModOk at hm; omega) (begin_bnd hns hm hs) h
  have hin := pot_inv (P := fun v => v.length = ns ∧ (0 < mod → InMod mod v)) (fun r hr v ⟨g1, g2⟩ => ⟨by rw [flow_len, g1], fun hp => flow_mod hp (by rw [g1]; exact deal_in hd r hr) (g2 hp)⟩) ⟨begin_len mod ns (sumF c v0), fun hp => begin_mod hns hp⟩ h
  refine ⟨hb.1, ?_, ?_⟩
  · rcases hm with rfl | hm
    · refine values_zero (hb.2.mono ?_)
      have := hd.len; have := hd.hns
      have h5 : ((ns + 1 : Nat) : Int) * (rules.length * 50331648) ≤ 3 * (3 * 50331648) := Int.mul_le_mul (by omega) (by omega) (by omega) (by omega)
      omega
    · exact values_mod (by omega) (hin.2 (by omega))
  · unfold closedF
    have e1 : holdsF ⟨c, mod, w⟩ 0 v0 = true := pot_start hns (deal_in hd) hm0 (by unfold ModOk at hm; unfold omegaI; omega) (by show sumF c v0 < 1099511627776; omega) h
    have e2 : rules.all (keepsF ⟨c, mod, w⟩) = true := List.all_eq_true.2 fun r hr => pot_keeps hm0 h r hr
    rw [e1, e2]; rfl
theorem closed_zero {b : AtomD} (h : closedF rules 0 v0 b = 0) : holdsF b 0 v0 = true ∧ ∀ r ∈ rules, keepsF b r = true := by
  unfold closedF at h
  split at h
  · rename_i h1
    split at h
    · rename_i h2; exact ⟨h1, List.all_eq_true.1 h2⟩
    · cases h
  · cases h
/-- what is found is the strongest -/
theorem found_strongest {b : AtomD} (hd : DealM ns np rules v0) (hbc : b.coefs.length = np) (hbl : b.values.length = ns) (hm : ModOk b.mod) (hb : closedF rules 0 v0 b = 0) {w : List Int}
    (h : potR b.mod b.coefs rules ns v0 = some w) (s : Nat) (v : List Int) (hf : holdsF ⟨b.coefs, b.mod, w⟩ s v = true) : holdsF b s v = true := by
  have hns : 0 < ns := by have := hd.hns; omega
  have hm0 : 0 ≤ b.mod := by unfold ModOk at hm; omega
  obtain ⟨h1, h2⟩ := closed_zero hb
  exact follows_above (a := ⟨b.coefs, b.mod, w⟩) rfl (pot_above hns hbl (deal_in hd) hm0 h1 h2 h s) hf
theorem first_begin {b : AtomD} {f0 : Int} (hm : 0 ≤ b.mod) (hf : f0 < omegaI) (hm2 : b.mod ≤ omegaI) (h : followsF b f0 0 = true) : Q1 b (firstF b.mod f0) := by
  have h1 := first_lt hf hm2
  unfold followsF at h
  split at h
  · cases h
  · rename_i h0
    refine ⟨by omega, h0, ?_⟩
    unfold firstF
    split
    · rename_i hz
      rw [if_pos hz] at h
      rw [if_neg (by omega)]
      exact of_decide_eq_true h
    · rename_i hz
      rw [if_neg hz] at h
      rw [if_pos (by omega)]
      exact (beq_iff_eq.1 h).symm
theorem next_small {mod : Int} {c : List Int} {r : RD} {v : List Int} (hm : ModOk mod) (hv : v[r.src.toNat]! ≤ 25165824) (hE : effectF c r ≤ 50331648) : nextF mod c r v ≠ omegaI := by
  unfold nextF omegaI
  split
  · rename_i hp
    rw [restF_emod hp]
    have := Int.emod_lt_of_pos (v[r.src.toNat]! + effectF c r) hp
    unfold ModOk at hm; omega
  · omega
/-- where a closed atom is, one is found -/
theorem found_some {b : AtomD} (hd : DealM ns np rules v0) (hbc : b.coefs.length = np) (h4 : SmallI 4 b.coefs) (hbl : b.values.length = ns) (hm : ModOk b.mod) (hb : closedF rules 0 v0 b = 0) : ∃ w, potR b.mod b.coefs rules ns v0 = some w := by
  have hm0 : 0 ≤ b.mod := by unfold ModOk at hm; omega
  have hm2 : b.mod ≤ omegaI := by unfold ModOk at hm; unfold omegaI; omega
  obtain ⟨h1, h2⟩ := closed_zero hb
  have hs := sum_deal hd hbc h4 (start_small hd)
  have hq := first_begin hm0 (by unfold omegaI; omega) hm2 h1
  have hE : ∀ r ∈ rules, -50331648 ≤ effectF b.coefs r ∧ effectF b.coefs r ≤ 50331648 := fun r hr => effect_small (rule_fine (deal_rule (hd.rules r hr)).1) (by have := hd.hnp; omega) h4
  have hfb : firstF b.mod (sumF b.coefs v0) ≤ 25165824 := by
    unfold firstF
    split
    · rename_i hp
      rw [restF_emod hp]
      have := Int.emod_lt_of_pos (sumF b.coefs v0) hp
      unfold ModOk at hm; omega
    · omega
  unfold potR
  obtain rfl | rfl : ns = 1 ∨ ns = 2 := by have := hd.hns; omega
  · refine ⟨_, pot_one hm0 hbl hq fun r hr => ?_⟩
    have g1 := (hd.rules r hr).src; have g2 := (hd.rules r hr).dst
    exact ⟨by omega, by omega, h2 r hr⟩
  · refine pot_two (u := omegaI) hm0 hbl hq (.inl rfl) fun r hr => ?_
    have g1 := (hd.rules r hr).src; have g2 := (hd.rules r hr).dst
    refine ⟨⟨by omega, by omega⟩, h2 r hr, fun u hu => ?_⟩
    refine next_small hm ?_ (hE r hr).2
    rw [hu]; exact hfb
end
end Go.AM

/-! ## CnD -/
namespace Go.AM
open Go Go.Proofs Go.RowKit

theorem last_modify {vals : List Int} {x y : Int} : (List.map vi vals ++ [AV.sc (.int .i64 x)]).modify vals.length (updElem 0 [.sc (.int .i64 y)]) = List.map vi vals ++ [AV.sc (.int .i64 y)] := by
  have := modify_vi (Z := vals ++ [x]) (q := vals.length) (x := y)
  rw [List.set_append_right _ _ (Nat.le_refl _), Nat.sub_self, List.set_cons_zero, List.map_append, List.map_append] at this
  exact this
theorem last_at {vals : List Int} {x : Int} : (List.map vi vals ++ [AV.sc (.int .i64 x)])[vals.length]? = some (AV.sc (.int .i64 x)) := by
  rw [List.getElem?_append_right (by simp), List.length_map, Nat.sub_self]; rfl
theorem last_len {vals : List Int} {x : Int} : (List.map vi vals ++ [AV.sc (.int .i64 x)]).length = vals.length + 1 := by simp
set_option maxRecDepth 100000 in
set_option maxHeartbeats 8000000 in
theorem con_strongestLaw (l : List Int) (hl : l.length ≤ 9223372036854775807) (hx : ∀ x ∈ l, 0 ≤ x ∧ x < 256) :
    Con Tryz.prog 8 [.sl 0 1 (l.map vu)] [] fun r _ => r = vb true := by
  refine Con.intro Tryz.func8 rfl Tryz.ntmps8 Tryz.results8 (by kernel_rfl) (by simp) 0 (by simp) ?_
  have hs : Seeds (l.take 200) := ⟨by rw [List.length_take]; omega, fun x h => hx x (List.mem_of_mem_take h)⟩
  simp only [go_sem]
  refine CallU.free con_sane32 (by simp only [go_sem]) (by simp only [go_sem]) ?_
  rintro r bx rfl
  simp only [go_sem]
  refine CallU.news (bx0 := []) (con_new l hl) (by simp only [go_sem]) (by simp only [go_sem]) (by simp only [go_sem]) (by simp only [go_sem]) (by simp only [go_sem]) ?_
  rintro r bx ⟨rfl, rfl⟩
  generalize l.take 200 = l at hs
  simp only [go_sem]
  refine CallU.boxes (i := 0) (is := []) (bx0 := [diceA l 0]) (con_Counter l 0 hs (by omega)) (by simp only [go_sem]) (by simp only [go_sem]) (by simp only [go_sem]) (by simp only [go_sem]) (by simp only [go_sem]) ?_
  rintro r bx ⟨ns, np, rules, v0, at1, hd, ha1, rfl, rfl⟩
  have hP := deal_plain hd
  have hns := hd.hns
  have hnp := hd.hnp
  have l1 : (dealM ns np rules v0).states.length = ns := states_len hns.2
  have l2 : (dealM ns np rules v0).places.length = np := places_len hnp.2
  have ek : (dealM ns np rules v0).kind = 1 := rfl
  have er : (dealM ns np rules v0).rules = rules := rfl
  generalize dealM ns np rules v0 = m at hP l1 l2 ek er
  have hp2 := pickA_le ha1
  have hp3 := pickA_le hp2
  simp only [go_sem, vM, cM, vss, List.length_map, l2]
  refine DrawK.effs0 0 [1, 4] [] 10 (.one 10 (.one 11 .done)) none (diceA l at1) mixed (by kernel_rfl) (by kernel_rfl) (by simp only [go_sem]) (by simp only [go_sem]) ?_
  simp only [go_sem, List.length_map, l2]
  refine EffK.mk (con_pickF l at1 5 hs ha1 (by omega)) (by simp only [go_sem]) (by simp only [go_sem]) (by simp only [go_sem]) (by simp only [go_sem]) ?_
  have q1 := pickV_lt (l := l) (at_ := at1) (show (1 : Int) ≤ 5 by omega)
  have q2 := pickV_lt (l := l) (at_ := pickA l at1) (show (1 : Int) ≤ 5 by omega)
  have w1 : IntKind.i64.wrap (pickV l at1 5 - 2) = pickV l at1 5 - 2 := wrap_in (by omega) (by omega)
  have w2 : IntKind.i64.wrap (pickV l (pickA l at1) 5 - 2) = pickV l (pickA l at1) 5 - 2 := wrap_in (by omega) (by omega)
  simp only [go_sem, w1]
  refine EffK.mk (con_pickF l (pickA l at1) 5 hs hp2 (by omega)) (by simp only [go_sem]) (by simp only [go_sem]) (by simp only [go_sem]) (by simp only [go_sem]) ?_
  simp only [go_sem, w2, List.length_map, l2]
  refine ⟨⟨hnp.2, ?_⟩, trivial⟩
  obtain ⟨c, hc, hcl, h4⟩ : ∃ c : List Int, List.take np [AV.sc (.int .i64 (pickV l at1 5 - 2)), AV.sc (.int .i64 (pickV l (pickA l at1) 5 - 2))] = c.map vi ∧ c.length = np ∧ SmallI 4 c := by
    refine ⟨List.take np [pickV l at1 5 - 2, pickV l (pickA l at1) 5 - 2], by rw [List.map_take]; rfl, by rw [List.length_take]; simp only [List.length_cons, List.length_nil]; omega, fun x hx => ?_⟩
    have := List.mem_of_mem_take hx
    simp only [List.mem_cons, List.not_mem_nil, or_false] at this
    rcases this with rfl | rfl <;> omega
  generalize pickA l at1 = at2 at hp2 hp3 hc q2 w2
  have hp4 := pickA_le hp3
  have q3 := pickV_lt (l := l) (at_ := pickA l at2) (show (1 : Int) ≤ 4 by omega)
  obtain ⟨X, eX, hX⟩ : ∃ X : Nat, pickV l (pickA l at2) 4 = X ∧ X < 4 := ⟨(pickV l (pickA l at2) 4).toNat, by omega, by omega⟩
  obtain ⟨mod, hg, hm⟩ : ∃ mod : Int, [AV.sc (.int .i64 0), AV.sc (.int .i64 2), AV.sc (.int .i64 3), AV.sc (.int .i64 5)][X]? = some (.sc (.int .i64 mod)) ∧ ModOk mod := by
    obtain rfl | rfl | rfl | rfl : X = 0 ∨ X = 1 ∨ X = 2 ∨ X = 3 := by omega
    · exact ⟨0, rfl, .inl rfl⟩
    · exact ⟨2, rfl, .inr ⟨by decide, by decide⟩⟩
    · exact ⟨3, rfl, .inr ⟨by decide, by decide⟩⟩
    · exact ⟨5, rfl, .inr ⟨by decide, by decide⟩⟩
  refine CallU.boxes (i := 0) (is := []) (bx0 := [diceA l (pickA l at2)]) (con_pickF l (pickA l at2) 4 hs hp3 (by omega)) (by simp only [go_sem]) (by simp only [go_sem]) (by simp only [go_sem]) (by simp only [go_sem]) (by simp only [go_sem]) ?_
  rintro r b ⟨rfl, rfl⟩
  rw [eX]
  generalize pickA l (pickA l at2) = at3 at hp4
  simp only [go_sem, hg, hX, hc]
  have hPot := con_Potential m c mod v0 hP (hcl.trans l2.symm) h4 hm
  rw [er, l1] at hPot
  cases hpo : potR mod c rules ns v0 with
  | none =>
    rw [hpo] at hPot
    refine CallU.freeze hPot (by simp only [go_sem]) (by simp only [go_sem, vM, cM, vss]) ?_
    rintro r b rfl
    simp only [go_sem, potV, List.length_map, l1]
    refine LoopK.intro (fun p : List Int × Nat => ⟨120, [(2, vb false), (3, .pb 0 0), (4, .pb 1 0), (5, vs 0 c), (6, vi mod), (7, .pb 2 0), (8, vb false), (9, vi 0), (10, .pb 3 0), (60, vi ns), (61, vi p.1.length)], [diceA l p.2, cM m, [.nil, vi 0, .nil], [vs 0 c, vi mod, vs 4416 p.1]]⟩)
      (fun p => ns - p.1.length) (fun p => p.1.length ≤ ns ∧ p.2 ≤ l.length) ([], at3) ⟨by simp, hp4⟩ ?_ ?_
    · simp only [go_sem, List.length_nil, List.map_nil, cM, vss]
    rintro ⟨vals, at4⟩ ⟨k1, k2⟩
    simp only at k1 k2
    by_cases h : vals.length < ns
    · have hw : IntKind.i64.wrap (vals.length + 1) = vals.length + 1 := wrap_in (by omega) (by omega)
      simp only [go_sem, h, cM, vss]
      refine DrawK.effs0 0 [3] [] 5 (.one 5 (.one 6 (.one 7 .done))) none (diceA l at4) mixed (by kernel_rfl) (by kernel_rfl) (by simp only [go_sem]) (by simp only [go_sem]) ?_
      simp only [go_sem]
      refine EffK.mk (con_pickF l at4 4 hs k2 (by omega)) (by simp only [go_sem]) (by simp only [go_sem]) (by simp only [go_sem]) (by simp only [go_sem]) ?_
      have hr : roomFor (vals.length + 1) 8 := by unfold roomFor; omega
      have k3 := pickA_le k2
      have q4 := pickV_lt (l := l) (at_ := at4) (show (1 : Int) ≤ 4 by omega)
      generalize pickV l at4 4 = x at q4
      simp only [go_sem, hr]
      refine ⟨?_, trivial⟩
      by_cases h0 : (0 : Int) < mod
      · have hne : ¬ mod = 0 := by omega
        have w6 : IntKind.i64.wrap ((vals.length : Int) + 1 - 1) = vals.length := by rw [wrap_in (by omega) (by omega)]; omega
        have hmb := Int.emod_lt_of_pos x h0
        have hmn := Int.emod_nonneg x hne
        have hte : Int.tmod x mod = x % mod := Int.tmod_eq_emod_of_nonneg q4.1
        have hm8 : mod ≤ 8 := by unfold ModOk at hm; omega
        have w7 : IntKind.i64.wrap (x % mod) = x % mod := wrap_in (by omega) (by omega)
        have hla := last_at (vals := vals) (x := x)
        have hlm := last_modify (vals := vals) (x := x) (y := x % mod)
        have hll := last_len (vals := vals) (x := x)
        simp only [go_sem, h0, hw, hll, w6]
        refine ⟨by omega, ?_⟩
        simp only [go_sem, hla, hlm, hne, hte, w7, w6, hll, hw]
        refine ⟨by omega, roundK.intro (vals ++ [x % mod], pickA l at4) ⟨by simp; omega, k3⟩ (by simp; omega) ?_⟩
        simp only [go_sem, List.map_append, List.length_append, List.map_cons, List.map_nil, List.length_cons, List.length_nil]
      · simp only [go_sem, h0, hw]
        refine roundK.intro (vals ++ [x], pickA l at4) ⟨by simp; omega, k3⟩ (by simp; omega) ?_
        simp only [go_sem, List.map_append, List.length_append, List.map_cons, List.map_nil, List.length_cons, List.length_nil]
    · have e : vals.length = ns := by omega
      have hFb : FormA m ⟨c, mod, vals⟩ := ⟨hcl.trans l2.symm, h4, hm, e.trans l1.symm⟩
      have hCb := con_Closed m ⟨c, mod, vals⟩ 0 v0 hP hFb
      rw [er] at hCb
      obtain ⟨z, hz⟩ : ∃ z : Int, z = if valuesB mod vals = true then closedF rules 0 v0 ⟨c, mod, vals⟩ else 44 := ⟨_, rfl⟩
      rw [← hz] at hCb
      simp only [go_sem, h]
      refine CallU.freeze hCb (by simp only [go_sem]) (by simp only [go_sem, vM, cM, vss]) ?_
      rintro r b rfl
      by_cases hz0 : z = 0
      · have hv : valuesB mod vals = true := by
          cases hv : valuesB mod vals
          · rw [hv, hz0] at hz; cases hz
          · rfl
        rw [hv, if_pos rfl, hz0] at hz
        have hcb := hz.symm
        obtain ⟨w, hw⟩ := found_some (b := ⟨c, mod, vals⟩) hd hcl h4 e hm hcb
        rw [hpo] at hw; cases hw
      · have hzn : (z != 0) = true := bne_iff_ne.2 hz0
        simp only [go_sem, hzn]
  | some w =>
    obtain ⟨hw1, hw2, hw3⟩ := found_closed hd hcl h4 hm hpo
    rw [hpo] at hPot
    have hFa : FormA m ⟨c, mod, w⟩ := ⟨hcl.trans l2.symm, h4, hm, hw1.trans l1.symm⟩
    have hCa := con_Closed m ⟨c, mod, w⟩ 0 v0 hP hFa
    rw [er, hw3, hw2] at hCa
    refine CallU.freeze hPot (by simp only [go_sem]) (by simp only [go_sem, vM, cM, vss]) ?_
    rintro r b rfl
    simp only [go_sem, potV]
    refine CallU.freeze hCa (by simp only [go_sem]) (by simp only [go_sem, vM, cM, vss]) ?_
    rintro r b rfl
    simp only [go_sem, if_true, List.length_map, l1]
    refine LoopK.intro (fun p : List Int × Nat => ⟨120, [(2, vb false), (3, .pb 0 0), (4, .pb 1 0), (5, vs 0 c), (6, vi mod), (7, .pb 2 0), (8, vb true), (9, vi 0), (10, .pb 3 0), (60, vi ns), (61, vi p.1.length)], [diceA l p.2, cM m, [vs 0 c, vi mod, vs 0 w], [vs 0 c, vi mod, vs 4416 p.1]]⟩)
      (fun p => ns - p.1.length) (fun p => p.1.length ≤ ns ∧ p.2 ≤ l.length) ([], at3) ⟨by simp, hp4⟩ ?_ ?_
    · simp only [go_sem, List.length_nil, List.map_nil, cM, vss]
    rintro ⟨vals, at4⟩ ⟨k1, k2⟩
    simp only at k1 k2
    by_cases h : vals.length < ns
    · have hw : IntKind.i64.wrap (vals.length + 1) = vals.length + 1 := wrap_in (by omega) (by omega)
      simp only [go_sem, h, cM, vss]
      refine DrawK.effs0 0 [3] [] 5 (.one 5 (.one 6 (.one 7 .done))) none (diceA l at4) mixed (by kernel_rfl) (by kernel_rfl) (by simp only [go_sem]) (by simp only [go_sem]) ?_
      simp only [go_sem]
      refine EffK.mk (con_pickF l at4 4 hs k2 (by omega)) (by simp only [go_sem]) (by simp only [go_sem]) (by simp only [go_sem]) (by simp only [go_sem]) ?_
      have hr : roomFor (vals.length + 1) 8 := by unfold roomFor; omega
      have k3 := pickA_le k2
      have q4 := pickV_lt (l := l) (at_ := at4) (show (1 : Int) ≤ 4 by omega)
      generalize pickV l at4 4 = x at q4
      simp only [go_sem, hr]
      refine ⟨?_, trivial⟩
      by_cases h0 : (0 : Int) < mod
      · have hne : ¬ mod = 0 := by omega
        have w6 : IntKind.i64.wrap ((vals.length : Int) + 1 - 1) = vals.length := by rw [wrap_in (by omega) (by omega)]; omega
        have hmb := Int.emod_lt_of_pos x h0
        have hmn := Int.emod_nonneg x hne
        have hte : Int.tmod x mod = x % mod := Int.tmod_eq_emod_of_nonneg q4.1
        have hm8 : mod ≤ 8 := by unfold ModOk at hm; omega
        have w7 : IntKind.i64.wrap (x % mod) = x % mod := wrap_in (by omega) (by omega)
        have hla := last_at (vals := vals) (x := x)
        have hlm := last_modify (vals := vals) (x := x) (y := x % mod)
        have hll := last_len (vals := vals) (x := x)
        simp only [go_sem, h0, hw, hll, w6]
        refine ⟨by omega, ?_⟩
        simp only [go_sem, hla, hlm, hne, hte, w7, w6, hll, hw]
        refine ⟨by omega, roundK.intro (vals ++ [x % mod], pickA l at4) ⟨by simp; omega, k3⟩ (by simp; omega) ?_⟩
        simp only [go_sem, List.map_append, List.length_append, List.map_cons, List.map_nil, List.length_cons, List.length_nil]
      · simp only [go_sem, h0, hw]
        refine roundK.intro (vals ++ [x], pickA l at4) ⟨by simp; omega, k3⟩ (by simp; omega) ?_
        simp only [go_sem, List.map_append, List.length_append, List.map_cons, List.map_nil, List.length_cons, List.length_nil]
    · have e : vals.length = ns := by omega
      have hFb : FormA m ⟨c, mod, vals⟩ := ⟨hcl.trans l2.symm, h4, hm, e.trans l1.symm⟩
      have hCb := con_Closed m ⟨c, mod, vals⟩ 0 v0 hP hFb
      rw [er] at hCb
      obtain ⟨z, hz⟩ : ∃ z : Int, z = if valuesB mod vals = true then closedF rules 0 v0 ⟨c, mod, vals⟩ else 44 := ⟨_, rfl⟩
      rw [← hz] at hCb
      simp only [go_sem, h]
      refine CallU.freeze hCb (by simp only [go_sem]) (by simp only [go_sem, vM, cM, vss]) ?_
      rintro r b rfl
      by_cases hz0 : z = 0
      · have hv : valuesB mod vals = true := by
          cases hv : valuesB mod vals
          · rw [hv, hz0] at hz; cases hz
          · rfl
        rw [hv, if_pos rfl, hz0] at hz
        have hcb := hz.symm
        subst hz0
        simp only [go_sem]
        have hCf := con_ConfigC l at4 m hs k2 ek (by rw [l1]; omega) (by rw [l2]; omega)
        rw [l1, l2] at hCf
        obtain ⟨S, hS, hSl⟩ : ∃ S : Nat, S = rollS l at4 ns ∧ S < ns := ⟨_, rfl, (rollS_lt hns.1).1⟩
        obtain ⟨v, hv1, hv2, hv3⟩ : ∃ v : List Int, v = rollV l (pickA l at4) 3 np ∧ v.length = np ∧ ∀ x ∈ v, 0 ≤ x ∧ x ≤ 1048576 := ⟨_, rfl, rollV_len np, fun x hx => by have := rollV_low (show (0 : Int) ≤ 3 by omega) np x hx; omega⟩
        rw [← hS, ← hv1] at hCf
        have hGc : GoodC m S v := ⟨by rw [l1]; exact hSl, hv2.trans l2.symm, hv3⟩
        have hHa := con_Holds m ⟨c, mod, w⟩ 0 v0 S v hP hFa hGc
        have hHb := con_Holds m ⟨c, mod, vals⟩ 0 v0 S v hP hFb hGc
        have himp := found_strongest (b := ⟨c, mod, vals⟩) hd hcl e hm hcb hpo S v
        unfold acheckF at hHa hHb
        rw [hw2] at hHa
        rw [hv] at hHb
        refine CallU.boxes (i := 0) (is := []) (bx0 := [diceA l at4]) hCf (by simp only [go_sem]) (by simp only [go_sem, vM, cM, vss]) (by simp only [go_sem]) (by simp only [go_sem]) (by simp only [go_sem]) ?_
        rintro r b ⟨rfl, rfl⟩
        have e0 := vV_eq (cfgC S v)
        simp only [go_sem, e0]
        refine CallU.freeze hHa (by simp only [go_sem]) (by simp only [go_sem, vM, cM, vss, e0]) ?_
        rintro r b rfl
        simp only [go_sem]
        refine CallU.freeze hHb (by simp only [go_sem]) (by simp only [go_sem, vM, cM, vss, e0]) ?_
        rintro r b rfl
        cases hA : holdsF ⟨c, mod, w⟩ S v
        · cases hB : holdsF ⟨c, mod, vals⟩ S v
          all_goals simp only [go_sem, Bool.true_and, if_true]
        · rw [himp hA]
          simp only [go_sem, Bool.true_and, if_true]
      · have hzn : (z != 0) = true := bne_iff_ne.2 hz0
        simp only [go_sem, hzn]
end Go.AM

/-! ## CrI -/
namespace Go.AM
open Go Go.Proofs Go.RowKit

set_option maxRecDepth 100000 in
theorem con_rcandidateBad (k n : Nat) (h1 : 1 ≤ k) (h2 : k ≤ 6) (hn : 8 * 3 ^ k ≤ n) : Con Tryz.prog 61 [vi k, vi n] [] fun r _ => r = .tup [.nil, vi 0, vb false] := by
  refine Con.intro Tryz.func61 rfl Tryz.ntmps61 Tryz.results61 (by kernel_rfl) (by simp) 0 (by simp) ?_
  have a1 : ¬ ((n : Int) < 0) := by omega
  have a2 : ((8 * 3 ^ k : Nat) : Int) ≤ (n : Int) := Int.ofNat_le.2 hn
  simp only [go_sem, a1]
  refine CallU.free (con_rcandidates k h1 h2) (by simp only [go_sem]) (by simp only [go_sem]) ?_
  rintro r bx rfl
  simp only [go_sem, a2]
set_option maxRecDepth 100000 in
theorem con_rPotentialBad (m : MD) (v0 : List Int) (h : PlainM m 0 v0) : Con Tryz.prog 58 [vM m, .nil, vi 0] [] fun x _ => x = .tup [noA, vb false, vi 3] := by
  refine Con.intro Tryz.func58 rfl Tryz.ntmps58 Tryz.results58 (by kernel_rfl) (by simp) 0 (by simp) ?_
  have h2 := h.good.places
  have c1 : ((0 : Int) != (m.places.length : Int)) = true := bne_iff_ne.2 (by omega)
  simp only [go_sem, vM, cM, vss]
  refine CallU.free (con_rplain m h.good h.still) (by simp only [go_sem]) (by simp only [go_sem, vM, cM, vss]) ?_
  rintro r bx rfl
  simp only [go_sem, List.length_map, c1]
def atomTree : Tr := .one 5 (.one 6 (.alt (.one 7 (.alt (.one 8 (.alt (.one 9 (.one 10 (.one 11 (.one 12 .done)))) (.one 10 (.alt (.one 9 (.one 11 (.one 12 .done))) (.one 11 (.one 9 (.one 12 .done))))))) (.alt (.one 9 (.alt (.one 8 (.one 10 (.one 11 (.one 12 .done)))) (.one 10 (.one 8 (.one 11 (.one 12 .done)))))) (.one 10 (.alt (.one 8 (.alt (.one 9 (.one 11 (.one 12 .done))) (.one 11 (.one 9 (.one 12 .done))))) (.one 9 (.one 8 (.one 11 (.one 12 .done))))))))) (.alt (.one 8 (.alt (.one 7 (.alt (.one 9 (.one 10 (.one 11 (.one 12 .done)))) (.one 10 (.alt (.one 9 (.one 11 (.one 12 .done))) (.one 11 (.one 9 (.one 12 .done))))))) (.one 9 (.one 7 (.one 10 (.one 11 (.one 12 .done))))))) (.one 9 (.alt (.one 7 (.alt (.one 8 (.one 10 (.one 11 (.one 12 .done)))) (.one 10 (.one 8 (.one 11 (.one 12 .done)))))) (.one 8 (.one 7 (.one 10 (.one 11 (.one 12 .done))))))))))
/-- an atom that is not one: no coefficients -/
def badA (a : AtomD) : Prop := a.coefs = [] ∧ a.mod = 0
theorem digs_small (k c : Nat) : SmallI 4 (digs k c) := fun x hx => by
  obtain ⟨i, hi, e⟩ := List.getElem_of_mem hx
  rw [digs_len] at hi
  have h2 := digs_at k c i hi
  rw [getElem!_pos _ i (by rw [digs_len]; exact hi), e] at h2
  omega
theorem candMod_ok {k n : Nat} (hn : n < 8 * 3 ^ k) : ModOk (candMod k n) := by
  have hpos : 0 < 3 ^ k := Nat.pow_pos (by decide)
  have hlt : n / 3 ^ k < 8 := (Nat.div_lt_iff_lt_mul hpos).2 hn
  unfold candMod ModOk
  split
  · left; rfl
  · rename_i h0
    right
    have := Nat.pos_of_ne_zero h0
    generalize n / 3 ^ k = y at *
    omega
theorem in_set {B y : Int} {v : List Int} {X : Nat} (h : InB B v) (hX : X < v.length) (h1 : -B ≤ y) (h2 : y ≤ B) : InB B (v.set X y) := fun s => by
  rw [set_bang hX]
  split
  · exact .inr ⟨h1, h2⟩
  · exact h s
theorem in_zero (n : Nat) : InB 10000000000 (List.replicate n (0 : Int)) := fun s => by
  have : (List.replicate n (0 : Int))[s]! = 0 := by
    by_cases hs : s < n
    · rw [getElem!_pos _ s (by simpa using hs)]; simp
    · rw [getElem!_neg _ s (by simpa using hs)]; rfl
  rw [this]; right; omega
theorem pot_in10 {m : MD} {v0 c w : List Int} {mod : Int} (h : PlainM m 0 v0) (hc : c.length = m.places.length) (h4 : SmallI 4 c) (hm : ModOk mod) (hp : potR mod c m.rules m.states.length v0 = some w) : InB 10000000000 w := by
  have h1 := h.good.states
  have h2 := h.good.places
  have h3 := h.good.few
  have hsum := sum_small h4 h.conf.small
  have hR : RulesIn m.states.length m.rules := fun r hr => by have := (h.fine r hr).right; unfold RightR at this; omega
  have hE : ∀ r ∈ m.rules, -50331648 ≤ effectF c r ∧ effectF c r ≤ 50331648 := fun r hr => effect_small (h.fine r hr) (by omega) h4
  unfold potR at hp
  have hb := pot_bnd (by omega) hR hE (begin_len mod m.states.length (sumF c v0)) (show mod ≤ 25165824 by unfold ModOk at hm; omega) (begin_bnd (by omega) hm ⟨by omega, by omega⟩) hp
  refine hb.2.mono ?_
  have h5 : ((m.states.length + 1 : Nat) : Int) * (m.rules.length * 50331648) ≤ 9 * (12 * 50331648) := Int.mul_le_mul (by omega) (by omega) (by omega) (by omega)
  omega
theorem pot_len {mod : Int} {c : List Int} {rules : List RD} {ns : Nat} {v0 w : List Int} (h : potR mod c rules ns v0 = some w) : w.length = ns :=
  pot_inv (P := fun v => v.length = ns) (fun r _ v hv => by rw [flow_len]; exact hv) (begin_len _ _ _) h
set_option maxRecDepth 100000 in
set_option maxHeartbeats 4000000 in
theorem con_atom (l : List Int) (at_ : Nat) (m : MD) (v0 : List Int) (hs : Seeds l) (ha : at_ ≤ l.length) (h : PlainM m 0 v0) :
    Con Tryz.prog 32 [.pb 0 0, vM m] [diceA l at_] fun r b => ∃ (a : AtomD) (at' : Nat), (FormA m a ∧ InB 10000000000 a.values ∨ badA a) ∧ at' ≤ l.length ∧ b = [diceA l at'] ∧ leV (r.freeze fun _ => true) (vAtom a) := by
  refine Con.intro Tryz.func32 rfl Tryz.ntmps32 Tryz.results32 (by kernel_rfl) (by simp) 1 (by simp) ?_
  have h1 := h.good.states
  have h2 := h.good.places
  have q1 := pickV_lt (l := l) (at_ := at_) (show (1 : Int) ≤ 72 by omega)
  obtain ⟨n, en, hn⟩ : ∃ n : Nat, pickV l at_ 72 = n ∧ n < 72 := ⟨(pickV l at_ 72).toNat, by omega, by omega⟩
  have hp1 := pickA_le ha
  unfold vM cM
  simp only [go_sem, vss]
  obtain ⟨cv, cm, cb, hcand, hcase⟩ : ∃ (cv : AV) (cm : Int) (cb : Bool), Con Tryz.prog 61 [vi m.places.length, vi n] [] (fun r _ => r = .tup [cv, vi cm, vb cb]) ∧ ((∃ c, cv = vs 0 c ∧ c.length = m.places.length ∧ SmallI 4 c ∧ ModOk cm) ∨ (cv = .nil ∧ cm = 0)) := by
    by_cases hlt : n < 8 * 3 ^ m.places.length
    · refine ⟨vs 0 (digs m.places.length (n % 3 ^ m.places.length)), candMod m.places.length n, true, ?_, .inl ⟨_, rfl, digs_len .., digs_small _ _, candMod_ok hlt⟩⟩
      exact ((con_rcandidate m.places.length n h2.1 h2.2 hlt).freezeB fun _ => true).mono fun r b ⟨r1, b1, e1, e2, e3⟩ => by
        subst e1; subst e2; rfl
    · exact ⟨.nil, 0, false, con_rcandidateBad m.places.length n h2.1 h2.2 (by omega), .inr ⟨rfl, rfl⟩⟩
  refine DrawK.meet ⟨64, [(0, .pb 0 0), (3, .pb 1 0), (4, .pb 2 0), (5, cv), (6, vi cm)], [diceA l (pickA l at_), cM m, [.any, .any, .any]]⟩ ?_ ?_
  · refine DrawK.effs0 0 [4] [] 5 atomTree none (diceA l at_) mixed (by kernel_rfl) (by kernel_rfl) (by simp only [go_sem]) (by simp only [go_sem]) ?_
    simp only [go_sem, List.length_map]
    refine EffK.mk (con_pickF l at_ 72 hs ha (by omega)) (by simp only [go_sem]) (by simp only [go_sem]) (by simp only [go_sem]) (by simp only [go_sem]) ?_
    rw [en]
    rcases hcase with ⟨c, rfl, hc1, hc2, hc3⟩ | ⟨rfl, rfl⟩
    all_goals
      unfold atomTree
      simp only [go_sem]
      refine ⟨CallU.free hcand (by simp only [go_sem]) (by simp only [go_sem]) ?_, trivial⟩
      rintro r bx rfl
      repeat' (first | with_reducible apply andK_mk | simp only [go_sem])
  · obtain ⟨at2, hat2⟩ : ∃ x, x = pickA l (pickA l at_) := ⟨_, rfl⟩
    have hp2 := pickA_le hp1
    rw [← hat2] at hp2
    generalize hat1 : pickA l at_ = at1 at hp1 hat2
    have hrep : List.replicate m.states.length (AV.sc (.int .i64 0)) = (List.replicate m.states.length (0 : Int)).map vi := by rw [List.map_replicate]; rfl
    rcases hcase with ⟨c, rfl, hc1, hc2, hc3⟩ | ⟨rfl, rfl⟩
    · have hPot := (con_rPotential m c cm v0 h hc1 hc2 hc3).freezeB fun _ => true
      have hPot2 : Con Tryz.prog 58 [vM m, vs 0 c, vi cm] [] fun x _ => x = (match potR cm c m.rules m.states.length v0 with
        | some w => .tup [.ag [vs 0 c, vi cm, vs 0 w], vb true, vi 0]
        | none => .tup [noA, vb false, vi 0]) := hPot.mono fun r b ⟨r1, b1, e1, e2, e3⟩ => by
          subst e1; subst e2
          cases potR cm c m.rules m.states.length v0 <;> rfl
      simp only [go_sem, cM, vss]
      refine CallU.free hPot2 (by simp only [go_sem]) (by simp only [go_sem, vM, cM, vss]) ?_
      rintro r bx rfl
      cases hpo : potR cm c m.rules m.states.length v0 with
      | some w =>
        simp only [go_sem]
        subst hat2
        have hvl : (w).length = m.states.length := pot_len hpo
        have hvp : (0 : Int) < ((w).length : Int) := by omega
        have hvb : InB 10000000000 (w) := pot_in10 h hc1 hc2 hc3 hpo
        have hrm : roomFor (0 + (w).length) 8 := by simp only [roomFor]; omega
        generalize (w) = vals at hvl hvp hrm hvb
        refine CallU.boxes (i := 0) (is := []) (bx0 := [diceA l at1]) (con_pickF l at1 3 hs hp1 (by omega)) (by simp only [go_sem]) (by simp only [go_sem]) (by simp only [go_sem]) (by simp only [go_sem]) (by simp only [go_sem]) ?_
        rintro r b ⟨rfl, rfl⟩
        by_cases hz : pickV l at1 3 = 0
        · have hz' : (pickV l at1 3 == 0) = true := beq_iff_eq.2 hz
          simp only [go_sem, hz', hvp, hrm, List.length_map]
          refine DrawK.effs0 0 [6, 8] [] 10 (.one 10 (.one 11 .done)) none (diceA l (pickA l at1)) mixed (by kernel_rfl) (by kernel_rfl) (by simp only [go_sem]) (by simp only [go_sem]) ?_
          simp only [go_sem, List.length_map]
          refine EffK.mk (con_pickF l (pickA l at1) vals.length hs hp2 (by omega)) (by simp only [go_sem]) (by simp only [go_sem]) (by simp only [go_sem]) (by simp only [go_sem]) ?_
          have q3 := pickV_lt (l := l) (at_ := (pickA l at1)) (n := (vals.length : Int)) (by omega)
          obtain ⟨X, eX, hX⟩ : ∃ X : Nat, pickV l (pickA l at1) vals.length = X ∧ X < vals.length := ⟨(pickV l (pickA l at1) vals.length).toNat, by omega, by omega⟩
          rw [eX]
          simp only [go_sem]
          refine EffK.mk (con_pickF l (pickA l (pickA l at1)) 4 hs (pickA_le hp2) (by omega)) (by simp only [go_sem]) (by simp only [go_sem]) (by simp only [go_sem]) (by simp only [go_sem]) ?_
          have q4 := pickV_lt (l := l) (at_ := pickA l (pickA l at1)) (show (1 : Int) ≤ 4 by omega)
          have w4 : IntKind.i64.wrap (pickV l (pickA l (pickA l at1)) 4 - 1) = pickV l (pickA l (pickA l at1)) 4 - 1 := wrap_in (by omega) (by omega)
          have hset : (List.map vi vals).modify X (updElem 0 [AV.sc (.int .i64 (pickV l (pickA l (pickA l at1)) 4 - 1))]) = (vals.set X (pickV l (pickA l (pickA l at1)) 4 - 1)).map vi := modify_vi
          have hsb : InB 10000000000 (vals.set X (pickV l (pickA l (pickA l at1)) 4 - 1)) := in_set hvb hX (by omega) (by omega)
          simp only [go_sem, w4, hX, hset, List.length_map]
          exact ⟨⟨⟨c, cm, vals.set X (pickV l (pickA l (pickA l at1)) 4 - 1)⟩, pickA l (pickA l (pickA l at1)), .inl ⟨⟨hc1, hc2, hc3, by show (vals.set _ _).length = _; rw [List.length_set]; exact hvl⟩, hsb⟩, pickA_le (pickA_le hp2), rfl, leV_refl _⟩, trivial⟩
        · have hz' : (pickV l at1 3 == 0) = false := beq_eq_false_iff_ne.2 hz
          simp only [go_sem, hz']
          exact ⟨⟨c, cm, vals⟩, (pickA l at1), .inl ⟨⟨hc1, hc2, hc3, hvl⟩, hvb⟩, hp2, rfl, leV_refl _⟩
      | none =>
        simp only [go_sem, List.length_map]
        subst hat2
        refine ⟨Nat.le_refl _, by omega, by omega, ?_⟩
        rw [hrep]
        have hvl : (List.replicate m.states.length (0 : Int)).length = m.states.length := List.length_replicate
        have hvp : (0 : Int) < ((List.replicate m.states.length (0 : Int)).length : Int) := by omega
        have hvb : InB 10000000000 (List.replicate m.states.length (0 : Int)) := in_zero _
        have hrm : roomFor (0 + (List.replicate m.states.length (0 : Int)).length) 8 := by simp only [roomFor]; omega
        generalize (List.replicate m.states.length (0 : Int)) = vals at hvl hvp hrm hvb
        refine CallU.boxes (i := 0) (is := []) (bx0 := [diceA l at1]) (con_pickF l at1 3 hs hp1 (by omega)) (by simp only [go_sem]) (by simp only [go_sem]) (by simp only [go_sem]) (by simp only [go_sem]) (by simp only [go_sem]) ?_
        rintro r b ⟨rfl, rfl⟩
        by_cases hz : pickV l at1 3 = 0
        · have hz' : (pickV l at1 3 == 0) = true := beq_iff_eq.2 hz
          simp only [go_sem, hz', hvp, hrm, List.length_map]
          refine DrawK.effs0 0 [6, 8] [] 10 (.one 10 (.one 11 .done)) none (diceA l (pickA l at1)) mixed (by kernel_rfl) (by kernel_rfl) (by simp only [go_sem]) (by simp only [go_sem]) ?_
          simp only [go_sem, List.length_map]
          refine EffK.mk (con_pickF l (pickA l at1) vals.length hs hp2 (by omega)) (by simp only [go_sem]) (by simp only [go_sem]) (by simp only [go_sem]) (by simp only [go_sem]) ?_
          have q3 := pickV_lt (l := l) (at_ := (pickA l at1)) (n := (vals.length : Int)) (by omega)
          obtain ⟨X, eX, hX⟩ : ∃ X : Nat, pickV l (pickA l at1) vals.length = X ∧ X < vals.length := ⟨(pickV l (pickA l at1) vals.length).toNat, by omega, by omega⟩
          rw [eX]
          simp only [go_sem]
          refine EffK.mk (con_pickF l (pickA l (pickA l at1)) 4 hs (pickA_le hp2) (by omega)) (by simp only [go_sem]) (by simp only [go_sem]) (by simp only [go_sem]) (by simp only [go_sem]) ?_
          have q4 := pickV_lt (l := l) (at_ := pickA l (pickA l at1)) (show (1 : Int) ≤ 4 by omega)
          have w4 : IntKind.i64.wrap (pickV l (pickA l (pickA l at1)) 4 - 1) = pickV l (pickA l (pickA l at1)) 4 - 1 := wrap_in (by omega) (by omega)
          have hset : (List.map vi vals).modify X (updElem 0 [AV.sc (.int .i64 (pickV l (pickA l (pickA l at1)) 4 - 1))]) = (vals.set X (pickV l (pickA l (pickA l at1)) 4 - 1)).map vi := modify_vi
          have hsb : InB 10000000000 (vals.set X (pickV l (pickA l (pickA l at1)) 4 - 1)) := in_set hvb hX (by omega) (by omega)
          simp only [go_sem, w4, hX, hset, List.length_map]
          exact ⟨⟨⟨c, cm, vals.set X (pickV l (pickA l (pickA l at1)) 4 - 1)⟩, pickA l (pickA l (pickA l at1)), .inl ⟨⟨hc1, hc2, hc3, by show (vals.set _ _).length = _; rw [List.length_set]; exact hvl⟩, hsb⟩, pickA_le (pickA_le hp2), rfl, leV_refl _⟩, trivial⟩
        · have hz' : (pickV l at1 3 == 0) = false := beq_eq_false_iff_ne.2 hz
          simp only [go_sem, hz']
          exact ⟨⟨c, cm, vals⟩, (pickA l at1), .inl ⟨⟨hc1, hc2, hc3, hvl⟩, hvb⟩, hp2, rfl, leV_refl _⟩
    · simp only [go_sem, cM, vss]
      refine CallU.free (con_rPotentialBad m v0 h) (by simp only [go_sem]) (by simp only [go_sem, vM, cM, vss]) ?_
      rintro r bx rfl
      simp only [go_sem, List.length_map]
      subst hat2
      refine ⟨Nat.le_refl _, by omega, by omega, ?_⟩
      rw [hrep]
      have hvl : (List.replicate m.states.length (0 : Int)).length = m.states.length := List.length_replicate
      have hvp : (0 : Int) < ((List.replicate m.states.length (0 : Int)).length : Int) := by omega
      have hvb : InB 10000000000 (List.replicate m.states.length (0 : Int)) := in_zero _
      have hrm : roomFor (0 + (List.replicate m.states.length (0 : Int)).length) 8 := by simp only [roomFor]; omega
      generalize (List.replicate m.states.length (0 : Int)) = vals at hvl hvp hrm hvb
      refine CallU.boxes (i := 0) (is := []) (bx0 := [diceA l at1]) (con_pickF l at1 3 hs hp1 (by omega)) (by simp only [go_sem]) (by simp only [go_sem]) (by simp only [go_sem]) (by simp only [go_sem]) (by simp only [go_sem]) ?_
      rintro r b ⟨rfl, rfl⟩
      by_cases hz : pickV l at1 3 = 0
      · have hz' : (pickV l at1 3 == 0) = true := beq_iff_eq.2 hz
        simp only [go_sem, hz', hvp, hrm, List.length_map]
        refine DrawK.effs0 0 [6, 8] [] 10 (.one 10 (.one 11 .done)) none (diceA l (pickA l at1)) mixed (by kernel_rfl) (by kernel_rfl) (by simp only [go_sem]) (by simp only [go_sem]) ?_
        simp only [go_sem, List.length_map]
        refine EffK.mk (con_pickF l (pickA l at1) vals.length hs hp2 (by omega)) (by simp only [go_sem]) (by simp only [go_sem]) (by simp only [go_sem]) (by simp only [go_sem]) ?_
        have q3 := pickV_lt (l := l) (at_ := (pickA l at1)) (n := (vals.length : Int)) (by omega)
        obtain ⟨X, eX, hX⟩ : ∃ X : Nat, pickV l (pickA l at1) vals.length = X ∧ X < vals.length := ⟨(pickV l (pickA l at1) vals.length).toNat, by omega, by omega⟩
        rw [eX]
        simp only [go_sem]
        refine EffK.mk (con_pickF l (pickA l (pickA l at1)) 4 hs (pickA_le hp2) (by omega)) (by simp only [go_sem]) (by simp only [go_sem]) (by simp only [go_sem]) (by simp only [go_sem]) ?_
        have q4 := pickV_lt (l := l) (at_ := pickA l (pickA l at1)) (show (1 : Int) ≤ 4 by omega)
        have w4 : IntKind.i64.wrap (pickV l (pickA l (pickA l at1)) 4 - 1) = pickV l (pickA l (pickA l at1)) 4 - 1 := wrap_in (by omega) (by omega)
        have hset : (List.map vi vals).modify X (updElem 0 [AV.sc (.int .i64 (pickV l (pickA l (pickA l at1)) 4 - 1))]) = (vals.set X (pickV l (pickA l (pickA l at1)) 4 - 1)).map vi := modify_vi
        have hsb : InB 10000000000 (vals.set X (pickV l (pickA l (pickA l at1)) 4 - 1)) := in_set hvb hX (by omega) (by omega)
        simp only [go_sem, w4, hX, hset, List.length_map]
        exact ⟨⟨⟨[], 0, vals.set X (pickV l (pickA l (pickA l at1)) 4 - 1)⟩, pickA l (pickA l (pickA l at1)), .inr ⟨rfl, rfl⟩, pickA_le (pickA_le hp2), rfl, leV_ag ⟨leV_nil 0 1, leV_refl _, leV_refl _, trivial⟩⟩, trivial⟩
      · have hz' : (pickV l at1 3 == 0) = false := beq_eq_false_iff_ne.2 hz
        simp only [go_sem, hz']
        exact ⟨⟨[], 0, vals⟩, (pickA l at1), .inr ⟨rfl, rfl⟩, hp2, rfl, leV_ag ⟨leV_nil 0 1, leV_refl _, leV_refl _, trivial⟩⟩
/-- an atom of the laws, never written again -/
theorem con_Atom (l : List Int) (at_ : Nat) (m : MD) (v0 : List Int) (hs : Seeds l) (ha : at_ ≤ l.length) (h : PlainM m 0 v0) :
    Con Tryz.prog 32 [.pb 0 0, vM m] [diceA l at_] fun r b => ∃ (a : AtomD) (at' : Nat), (FormA m a ∧ InB 10000000000 a.values ∨ badA a) ∧ at' ≤ l.length ∧ b = [diceA l at'] ∧ r = vAtom a :=
  ((con_atom l at_ m v0 hs ha h).freezeB fun _ => true).weak fun r b ⟨r1, b1, ⟨a, at1, h1, h2, h3, h4⟩, h5, h6⟩ => by
    subst h3; subst h5; subst h6
    exact ⟨_, ⟨a, at1, h1, h2, rfl, rfl⟩, h4⟩
set_option maxRecDepth 100000 in
theorem con_acheckBad (m : MD) (a : AtomD) (h : GoodM m) (hs : m.rules.all stillB = true) (ha : badA a) : Con Tryz.prog 53 [vM m, vAtom a] [] fun r _ => r = vi 44 := by
  refine Con.intro Tryz.func53 rfl Tryz.ntmps53 Tryz.results53 (by kernel_rfl) (by simp) 2 (by simp) ?_
  have h2 := h.places
  have c1 : ((0 : Int) != (m.places.length : Int)) = true := bne_iff_ne.2 (by omega)
  simp only [go_sem]
  refine CallU.free (con_counts m h hs) (by simp only [go_sem]) (by simp only [go_sem]) ?_
  rintro r bx rfl
  simp only [go_sem, ha.1, List.map_nil, List.length_nil, c1]
set_option maxRecDepth 100000 in
theorem con_ClosedBad (m : MD) (a : AtomD) (h : GoodM m) (hs : m.rules.all stillB = true) (ha : badA a) : Con Tryz.prog 33 [vM m, vAtom a] [] fun r _ => r = vi 44 := by
  refine Con.intro Tryz.func33 rfl Tryz.ntmps33 Tryz.results33 (by kernel_rfl) (by simp) 2 (by simp) ?_
  simp only [go_sem]
  refine CallU.free (con_acheckBad m a h hs ha) (by simp only [go_sem]) (by simp only [go_sem]) ?_
  rintro r bx rfl
  simp only [go_sem]
end Go.AM

/-! ## CrJ -/
namespace Go.AM
open Go Go.Proofs Go.RowKit

/-! ### values less by one number -/
def lessF (k x : Int) : Int := if x = omegaI then omegaI else x - k
theorem less_at {k : Int} {l : List Int} {s : Nat} (h : s < l.length) : (l.map (lessF k))[s]! = lessF k l[s]! := by
  rw [getElem!_pos _ s (by simpa using h), getElem!_pos l s h, List.getElem_map]
theorem less_omega {k x : Int} (hk : 0 ≤ k) (hx : x = omegaI ∨ x ≤ 10000000000) : lessF k x = omegaI ↔ x = omegaI := by
  unfold lessF omegaI at *
  split
  · rename_i h; simp [h]
  · rename_i h; constructor
    · intro e; omega
    · intro e; exact absurd e h
theorem less_follows {a : AtomD} {k n : Int} {s : Nat} (hk : 0 ≤ k) (hm : a.mod = 0) (hb : InB 10000000000 a.values) (hs : s < a.values.length) (h : followsF a n s = true) : followsF ⟨a.coefs, 0, a.values.map (lessF k)⟩ n s = true := by
  unfold followsF at *
  show (if (a.values.map (lessF k))[s]! = omegaI then false else if (0 : Int) = 0 then decide ((a.values.map (lessF k))[s]! ≤ n) else _) = true
  rw [less_at hs]
  by_cases ho : a.values[s]! = omegaI
  · rw [if_pos ho] at h; cases h
  · rw [if_neg ho, if_pos hm, decide_eq_true_eq] at h
    have h1 := (hb s).resolve_left ho
    rw [if_neg (fun e => ho ((less_omega hk (.inr h1.2)).1 e)), if_pos rfl, decide_eq_true_eq]
    unfold lessF
    rw [if_neg ho]; omega
theorem less_keeps {a : AtomD} {k : Int} {r : RD} (hk : 0 ≤ k) (hm : a.mod = 0) (hb : InB 10000000000 a.values) (h1 : r.src.toNat < a.values.length) (h2 : r.dst.toNat < a.values.length) (h : keepsF a r = true) : keepsF ⟨a.coefs, 0, a.values.map (lessF k)⟩ r = true := by
  unfold keepsF at *
  show ((a.values.map (lessF k))[r.src.toNat]! == omegaI || followsF _ ((a.values.map (lessF k))[r.src.toNat]! + effectF a.coefs r) r.dst.toNat) = true
  rw [less_at h1]
  rw [Bool.or_eq_true] at *
  by_cases hp : a.values[r.src.toNat]! = omegaI
  · left; unfold lessF; rw [if_pos hp]; simp
  · right
    have h := h.resolve_left (by rw [beq_iff_eq]; exact hp)
    unfold followsF at *
    show (if (a.values.map (lessF k))[r.dst.toNat]! = omegaI then false else if (0 : Int) = 0 then decide ((a.values.map (lessF k))[r.dst.toNat]! ≤ _) else _) = true
    rw [less_at h2]
    by_cases ho : a.values[r.dst.toNat]! = omegaI
    · rw [if_pos ho] at h; cases h
    · rw [if_neg ho, if_pos hm, decide_eq_true_eq] at h
      have h1 := (hb r.dst.toNat).resolve_left ho
      rw [if_neg (fun e => ho ((less_omega hk (.inr h1.2)).1 e)), if_pos rfl, decide_eq_true_eq]
      unfold lessF
      rw [if_neg ho, if_neg hp]; omega
theorem less_values {k : Int} {l : List Int} (hk : 0 ≤ k ∧ k ≤ 255) (hb : InB 10000000000 l) : valuesB 0 (l.map (lessF k)) = true := by
  refine values_zero fun s => ?_
  by_cases hs : s < l.length
  · rw [less_at hs]
    unfold lessF
    split
    · exact .inl rfl
    · rename_i ho
      have := (hb s).resolve_left ho
      right; omega
  · rw [getElem!_neg _ s (by simpa using hs)]
    right
    show -1099511627775 ≤ (0 : Int) ∧ (0 : Int) ≤ 1099511627775
    omega
theorem less_closed {a : AtomD} {k : Int} {rules : List RD} {v0 : List Int} (hk : 0 ≤ k) (hm : a.mod = 0) (hb : InB 10000000000 a.values) (hs : 0 < a.values.length) (hr : ∀ r ∈ rules, r.src.toNat < a.values.length ∧ r.dst.toNat < a.values.length) (h : closedF rules 0 v0 a = 0) : closedF rules 0 v0 ⟨a.coefs, 0, a.values.map (lessF k)⟩ = 0 := by
  obtain ⟨h1, h2⟩ := closed_zero h
  unfold closedF
  rw [if_pos (show holdsF ⟨a.coefs, 0, a.values.map (lessF k)⟩ 0 v0 = true from less_follows hk hm hb hs h1)]
  rw [if_pos (List.all_eq_true.2 fun r hx => less_keeps hk hm hb (hr r hx).1 (hr r hx).2 (h2 r hx))]
end Go.AM

/-! ## CrK -/
namespace Go.AM
open Go Go.Proofs Go.RowKit

set_option maxRecDepth 100000 in
set_option maxHeartbeats 8000000 in
theorem con_weakerLaw (l : List Int) (k : Nat) (hl : l.length ≤ 9223372036854775807) (hx : ∀ x ∈ l, 0 ≤ x ∧ x < 256) (hk : k < 256) :
    Con Tryz.prog 9 [.sl 0 1 (l.map vu), .sc (.int .u8 k)] [] fun r _ => r = vb true := by
  refine Con.intro Tryz.func9 rfl Tryz.ntmps9 Tryz.results9 (by kernel_rfl) (by simp) 0 (by simp) ?_
  have hs : Seeds (l.take 200) := ⟨by rw [List.length_take]; omega, fun x h => hx x (List.mem_of_mem_take h)⟩
  have wk : IntKind.i64.wrap (k : Int) = k := wrap_in (by omega) (by omega)
  simp only [go_sem]
  refine CallU.free con_sane32 (by simp only [go_sem]) (by simp only [go_sem]) ?_
  rintro r bx rfl
  simp only [go_sem]
  refine CallU.news (bx0 := []) (con_new l hl) (by simp only [go_sem]) (by simp only [go_sem]) (by simp only [go_sem]) (by simp only [go_sem]) (by simp only [go_sem]) ?_
  rintro r bx ⟨rfl, rfl⟩
  generalize l.take 200 = l at hs
  simp only [go_sem]
  refine CallU.boxes (i := 0) (is := []) (bx0 := [diceA l 0]) (con_Counter l 0 hs (by omega)) (by simp only [go_sem]) (by simp only [go_sem]) (by simp only [go_sem]) (by simp only [go_sem]) (by simp only [go_sem]) ?_
  rintro r bx ⟨ns, np, rules, v0, at1, hd, ha1, rfl, rfl⟩
  have hP := deal_plain hd
  have hns := hd.hns
  have hnp := hd.hnp
  have l1 : (dealM ns np rules v0).states.length = ns := states_len hns.2
  have l2 : (dealM ns np rules v0).places.length = np := places_len hnp.2
  have ek : (dealM ns np rules v0).kind = 1 := rfl
  have er : (dealM ns np rules v0).rules = rules := rfl
  generalize dealM ns np rules v0 = m at hP l1 l2 ek er
  simp only [go_sem, vM, cM, vss]
  refine CallU.boxes (i := 0) (is := []) (bx0 := [diceA l at1]) (con_Atom l at1 m v0 hs ha1 hP) (by simp only [go_sem]) (by simp only [go_sem]) (by simp only [go_sem]) (by simp only [go_sem]) (by simp only [go_sem]) ?_
  rintro r bx ⟨a, at2, hcase, ha2, rfl, rfl⟩
  rcases hcase with ⟨hFa, hIn⟩ | hbad
  case inr =>
    have hCb := con_ClosedBad m a hP.good hP.still hbad
    simp only [go_sem, hbad.2]
    refine CallU.free hCb (by simp only [go_sem]) (by simp only [go_sem, vM, cM, vss, hbad.2]) ?_
    rintro r bx rfl
    simp only [go_sem]
  by_cases hm0 : a.mod = 0
  case neg =>
    have hm' : (a.mod != 0) = true := bne_iff_ne.2 hm0
    simp only [go_sem, hm']
  have hCa := con_Closed m a 0 v0 hP hFa
  rw [er] at hCa
  obtain ⟨z, hz⟩ : ∃ z : Int, z = if valuesB a.mod a.values = true then closedF rules 0 v0 a else 44 := ⟨_, rfl⟩
  rw [← hz] at hCa
  simp only [go_sem, hm0]
  refine CallU.free hCa (by simp only [go_sem]) (by simp only [go_sem, vM, cM, vss, hm0]) ?_
  rintro r bx rfl
  by_cases hz0 : z = 0
  case neg =>
    have hzn : (z != 0) = true := bne_iff_ne.2 hz0
    simp only [go_sem, hzn]
  have hv : valuesB a.mod a.values = true := by
    cases hv : valuesB a.mod a.values
    · rw [hv, hz0] at hz; cases hz
    · rfl
  rw [hv, if_pos rfl, hz0] at hz
  have hca := hz.symm
  subst hz0
  have hal := hFa.values
  simp only [go_sem]
  refine LoopK.intro (fun i : Nat => ⟨103, [(1, .sc (.int .u8 k)), (5, .pb 0 0), (6, .pb 1 0), (7, .pb 2 0), (8, .pb 3 0), (38, vs 0 a.values), (39, vi a.values.length), (40, vi i)], [diceA l at2, cM m, [vs 0 a.coefs, vi 0, vs 0 a.values], [vs 0 a.coefs, vi 0, vs 3520 ((a.values.take i).map (lessF k))]]⟩)
    (fun i => a.values.length - i) (fun i => i ≤ a.values.length) 0 (by omega) ?_ ?_
  · simp only [go_sem, List.take_zero, List.map_nil, cM, vss]
  rintro i hi
  by_cases h : i < a.values.length
  · have hw : IntKind.i64.wrap (i + 1) = i + 1 := wrap_in (by omega) (by omega)
    have hg := getv h
    have hr : roomFor ((a.values.take i).length + 1) 8 := by simp only [roomFor, List.length_take]; omega
    have e := take_map_succ (lessF k) h
    by_cases ho : a.values[i]! = 1099511627776
    · have ho' : (a.values[i]! != 1099511627776) = false := by rw [ho]; rfl
      have el : lessF k a.values[i]! = a.values[i]! := by unfold lessF omegaI; rw [if_pos ho]; exact ho.symm
      simp only [go_sem, cM, vss, h, hg, ho', hw, hr]
      refine roundK.intro (i + 1) (by omega) (by omega) ?_
      simp only [go_sem, cM, vss, e, el, List.map_append, List.map_cons, List.map_nil]
    · have ho' : (a.values[i]! != 1099511627776) = true := bne_iff_ne.2 ho
      have hv2 := (hIn i).resolve_left ho
      have el : lessF k a.values[i]! = a.values[i]! - k := by unfold lessF omegaI; rw [if_neg ho]
      have w3 : IntKind.i64.wrap (a.values[i]! - k) = a.values[i]! - k := wrap_in (by omega) (by omega)
      simp only [go_sem, cM, vss, h, hg, ho', hw, hr, wk, w3]
      refine roundK.intro (i + 1) (by omega) (by omega) ?_
      simp only [go_sem, cM, vss, e, el, List.map_append, List.map_cons, List.map_nil]
  · obtain rfl : i = a.values.length := by omega
    simp only [go_sem, cM, vss, h, List.take_length]
    have hCf := con_ConfigC l at2 m hs ha2 ek (by rw [l1]; omega) (by rw [l2]; omega)
    rw [l1, l2] at hCf
    obtain ⟨S, hS, hSl⟩ : ∃ S : Nat, S = rollS l at2 ns ∧ S < ns := ⟨_, rfl, (rollS_lt hns.1).1⟩
    obtain ⟨v, hv1, hv2, hv3⟩ : ∃ v : List Int, v = rollV l (pickA l at2) 3 np ∧ v.length = np ∧ ∀ x ∈ v, 0 ≤ x ∧ x ≤ 1048576 := ⟨_, rfl, rollV_len np, fun x hx => by have := rollV_low (show (0 : Int) ≤ 3 by omega) np x hx; omega⟩
    rw [← hS, ← hv1] at hCf
    have hGc : GoodC m S v := ⟨by rw [l1]; exact hSl, hv2.trans l2.symm, hv3⟩
    have hanl : a.values.length = ns := hal.trans l1
    have hFb : FormA m ⟨a.coefs, 0, a.values.map (lessF k)⟩ := ⟨hFa.coefs, hFa.small, .inl rfl, by show (a.values.map (lessF k)).length = _; rw [List.length_map]; exact hal⟩
    have hHa := con_Holds m a 0 v0 S v hP hFa hGc
    have hHb := con_Holds m ⟨a.coefs, 0, a.values.map (lessF k)⟩ 0 v0 S v hP hFb hGc
    have hCb := con_Closed m ⟨a.coefs, 0, a.values.map (lessF k)⟩ 0 v0 hP hFb
    have hvb : valuesB 0 (a.values.map (lessF k)) = true := less_values ⟨by omega, by omega⟩ hIn
    have hcb : closedF rules 0 v0 ⟨a.coefs, 0, a.values.map (lessF k)⟩ = 0 := less_closed (by omega) hm0 hIn (by omega) (fun r hr => by have := (hd.rules r hr).src; have := (hd.rules r hr).dst; omega) hca
    have himp : holdsF a S v = true → holdsF ⟨a.coefs, 0, a.values.map (lessF k)⟩ S v = true := fun hh => less_follows (by omega) hm0 hIn (by omega) hh
    rw [er, hvb, if_pos rfl, hcb] at hCb
    unfold acheckF at hHa hHb
    rw [hv] at hHa
    rw [hvb] at hHb
    have hPl := con_rplain m hP.good hP.still
    have hVa := con_rmvalid m (cfgC S v) hP.good hGc.conf
    refine CallU.boxes (i := 0) (is := []) (bx0 := [diceA l at2]) hCf (by simp only [go_sem]) (by simp only [go_sem]) (by simp only [go_sem]) (by simp only [go_sem]) (by simp only [go_sem]) ?_
    rintro r b ⟨rfl, rfl⟩
    have e0 := vV_eq (cfgC S v)
    simp only [go_sem, e0]
    refine CallU.freeze hHa (by simp only [go_sem]) (by simp only [go_sem, vM, cM, vss, e0, hm0]) ?_
    rintro r b rfl
    simp only [go_sem]
    refine CallU.freeze hHb (by simp only [go_sem]) (by simp only [go_sem, vM, cM, vss, e0]) ?_
    rintro r b rfl
    simp only [go_sem]
    refine CallU.freeze hCb (by simp only [go_sem]) (by simp only [go_sem, vM, cM, vss]) ?_
    rintro r b rfl
    have h3 : (holdsF a S v = false ∧ holdsF ⟨a.coefs, 0, a.values.map (lessF k)⟩ S v = false) ∨ (holdsF a S v = false ∧ holdsF ⟨a.coefs, 0, a.values.map (lessF k)⟩ S v = true) ∨ (holdsF a S v = true ∧ holdsF ⟨a.coefs, 0, a.values.map (lessF k)⟩ S v = true) := by
      cases hA : holdsF a S v
      · cases hB : holdsF ⟨a.coefs, 0, a.values.map (lessF k)⟩ S v
        · exact .inl ⟨rfl, rfl⟩
        · exact .inr (.inl ⟨rfl, rfl⟩)
      · exact .inr (.inr ⟨rfl, himp hA⟩)
    rcases h3 with ⟨x1, x2⟩ | ⟨x1, x2⟩ | ⟨x1, x2⟩
    all_goals rw [x1, x2]
    all_goals
      simp only [go_sem, if_true]
      refine CallU.free hPl (by simp only [go_sem]) (by simp only [go_sem, vM, cM, vss]) ?_
      rintro r b rfl
      simp only [go_sem]
      refine CallU.free hVa (by simp only [go_sem]) (by simp only [go_sem, vM, cM, vss, e0]) ?_
      rintro r b rfl
      simp only [go_sem]
end Go.AM

/-! ## ClosedD -/
namespace Go.Proofs.YtlldkikmjeeamaaGreat
open Go.ChangeShapes Go.WideShapes Go.ChangeAt Go.RowKit Go.AM

theorem and_mk {a b : Bool} (h1 : a = true) (h2 : b = true) : (a && b) = true := by rw [h1, h2]; rfl
theorem cLaid : laidOutB Tryz.prog = true := by kernel_rfl
theorem cRowed : mapsRowed Tryz.prog = true := by kernel_rfl
theorem cHeard : Tryz.prog.stopsHeard = true := by kernel_rfl
theorem cEnter : Tryz.prog.mayEnter = true := by kernel_rfl
theorem cLifts : (Rows.invariantWeakerRow.lifted == Tryz.prog.liftsFinal) = true := by kernel_rfl
theorem invariantWeakerC0 : (Rows.invariantWeakerRow.wf (OpenSpec.ofChange Rows.invariantWeakerSpec)) = true := by kernel_rfl
theorem invariantWeakerC3 : (Tryz.f9.params.all (Tryz.prog.readableRec ·)) = true := by kernel_rfl
theorem invariantWeakerC4 : (namedTie Tryz.prog Rows.invariantWeakerRow.named Rows.invariantWeakerSpec.vars) = true := by kernel_rfl
theorem invariantWeakerC5 : ((Rows.invariantWeakerRow.stops == [])) = true := by kernel_rfl
theorem invariantWeakerC6 : ((Tryz.prog.stops == [])) = true := by kernel_rfl
theorem invariantWeakerC7 : ((Rows.invariantWeakerRow.knobs == [])) = true := by kernel_rfl
theorem invariantWeakerC8 : ((Tryz.prog.stopKnobs == [])) = true := by kernel_rfl
theorem invariantWeakerC9 : ((Rows.invariantWeakerRow.inPlace == Tryz.prog.inPlace 9)) = true := by kernel_rfl
theorem invariantWeakerC10 : ((Rows.invariantWeakerRow.unfollowed == Tryz.prog.unfollowed 9)) = true := by kernel_rfl
theorem invariantWeakerC11 : ((Rows.invariantWeakerRow.recurses == Tryz.prog.recurses 9)) = true := by kernel_rfl
theorem invariantWeakerC12 : ((Rows.invariantWeakerRow.named == Tryz.prog.varsNamed 9)) = true := by kernel_rfl
theorem invariantWeakerC13 : ((Rows.invariantWeakerRow.maps == (Tryz.f9.params.toList ++ Rows.invariantWeakerSpec.plain.varTypes Tryz.prog).any (Tryz.prog.mapsRec ·))) = true := by kernel_rfl
theorem invariantWeakerC14 : ((Rows.invariantWeakerRow.ifaces == (Tryz.f9.params.toList ++ Rows.invariantWeakerSpec.plain.varTypes Tryz.prog).any (Tryz.prog.ifacesRec ·))) = true := by kernel_rfl
theorem invariantWeakerC15 : ((Rows.invariantWeakerRow.mapsOut == Tryz.prog.mapsAmong Tryz.f9.resultTypes.toList)) = true := by kernel_rfl
theorem invariantWeakerC16 : ((Rows.invariantWeakerRow.loops == (Tryz.f9.params.toList ++ Rows.invariantWeakerSpec.plain.varTypes Tryz.prog).any (Tryz.prog.loopsFrom ·))) = true := by kernel_rfl
theorem invariantWeakerC17 : ((Rows.invariantWeakerRow.wideKeys == (Tryz.f9.params.toList ++ Rows.invariantWeakerSpec.plain.varTypes Tryz.prog ++ Tryz.f9.resultTypes.toList).any (Tryz.prog.wideKeysFrom ·))) = true := by kernel_rfl
theorem invariantWeakerC18 : (Rows.invariantWeakerSpec.vars.all (Tryz.prog.varReadable ·)) = true := by kernel_rfl
theorem invariantWeakerC19 : (Tryz.f9.resultTypes.all (fun t => Tryz.prog.readableRec t && decide (t < Tryz.prog.types.size))) = true := by kernel_rfl
theorem invariantWeakerC20 : ((Rows.invariantWeakerRow.ifacesOut == Tryz.f9.resultTypes.toList.any (Tryz.prog.ifacesRec ·))) = true := by kernel_rfl
theorem invariantWeakerC21 : ((Rows.invariantWeakerRow.loopsOut == Tryz.f9.resultTypes.toList.any (Tryz.prog.loopsFrom ·))) = true := by kernel_rfl
theorem invariantWeakerC22 : ((Rows.invariantWeakerRow.plainKeys == Tryz.prog.plainKeys)) = true := by kernel_rfl
theorem invariantWeakerC23 : (Rows.invariantWeakerRow.shortTexts.isNone) = true := by kernel_rfl
theorem invariantWeakerC27 : ((Tryz.prog.make == some Rows.invariantWeakerRow.make)) = true := by kernel_rfl
theorem invariantWeakerC28 : ((Rows.invariantWeakerRow.kinds == (if Rows.invariantWeakerRow.domain.isEmpty then [] else Tryz.f9.params.toList.map fun t => match Tryz.prog.underlying t with | some (.int k) => some k | _ => none))) = true := by kernel_rfl
theorem invariantWeakerC29 : ((Rows.invariantWeakerRow.pinned == Rows.invariantWeakerRow.pinnedBy)) = true := by kernel_rfl
theorem invariantWeakerC30 : ((Rows.invariantWeakerRow.veiled == (Tryz.f9.params.toList ++ Rows.invariantWeakerSpec.plain.varTypes Tryz.prog ++ Tryz.f9.resultTypes.toList).any (Tryz.prog.veiledRec ·))) = true := by kernel_rfl
theorem invariantWeakerC31 : (Rows.invariantWeakerRow.veiledFits Tryz.prog Tryz.f9.params.toList (Tryz.f9.params.toList ++ Rows.invariantWeakerSpec.plain.varTypes Tryz.prog ++ Tryz.f9.resultTypes.toList)) = true := by kernel_rfl
end Go.Proofs.YtlldkikmjeeamaaGreat

/-! ## ClosedDz -/
namespace Go.Proofs.YtlldkikmjeeamaaGreat
open Go.ChangeShapes Go.WideShapes Go.ChangeAt Go.RowKit Go.AM

set_option maxRecDepth 100000 in
theorem invariantWeakerClosed : joinedFacts Tryz.prog 9 Tryz.f9 Rows.invariantWeakerSpec Rows.invariantWeakerRow = true := by
  unfold joinedFacts
  exact and_mk (and_mk (and_mk (and_mk (and_mk (and_mk (and_mk (and_mk (and_mk (and_mk (and_mk (and_mk (and_mk (and_mk (and_mk (and_mk (and_mk (and_mk (and_mk (and_mk (and_mk (and_mk (and_mk (and_mk (and_mk (and_mk (and_mk (and_mk (and_mk (and_mk (and_mk invariantWeakerC0 cLaid) cRowed) invariantWeakerC3) invariantWeakerC4) invariantWeakerC5) invariantWeakerC6) invariantWeakerC7) invariantWeakerC8) invariantWeakerC9) invariantWeakerC10) invariantWeakerC11) invariantWeakerC12) invariantWeakerC13) invariantWeakerC14) invariantWeakerC15) invariantWeakerC16) invariantWeakerC17) invariantWeakerC18) invariantWeakerC19) invariantWeakerC20) invariantWeakerC21) invariantWeakerC22) invariantWeakerC23) cHeard) cEnter) cLifts) invariantWeakerC27) invariantWeakerC28) invariantWeakerC29) invariantWeakerC30) invariantWeakerC31
theorem invariantWeakerNamed : Tryz.prog.funcNamed Rows.invariantWeakerRow.func = some 9 := by kernel_rfl
end Go.Proofs.YtlldkikmjeeamaaGreat
