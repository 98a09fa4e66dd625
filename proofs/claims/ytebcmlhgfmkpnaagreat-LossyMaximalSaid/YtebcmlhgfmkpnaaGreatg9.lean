/- Am5 CmZ LEx1 LEx2 LEx3 CmE CmF CmG CmH CmI MxW1 MxW2 CmJ -/
import Derived.Test.YtebcmlhgfmkpnaaGreatg8
import Derived.Test.YtebcmlhgfmkpnaaGreatg7
namespace Go.AM
open Go.RowKit
def noPb (N : Nat) : AV -> Bool
 | .pb i _ => decide (i ≠ N)
 | .cl _ caps => caps.all fun c => match c with
  | .pb i _ => decide (i ≠ N)
  | _ => true
 | _ => true
def noPbT (N : Nat) : List (Nat × AV) -> Bool
 | [] => true
 | (_, v) :: r => v.allLeaf (noPb N) && noPbT N r
def noPbB (N : Nat) : List (List AV) -> Bool
 | [] => true
 | cs :: r => allLeafs (noPb N) cs && noPbB N r
theorem noPbT_look {N : Nat} : ∀ {l : List (Nat × AV)}, noPbT N l = true -> ∀ s, (lookT l s).allLeaf (noPb N) = true
 | [], _, s => by simp [lookT, AV.allLeaf, noPb]
 | (k, v) :: r, h, s => by
  simp only [noPbT, Bool.and_eq_true] at h
  simp only [lookT]
  split
  ·exact h.1
  ·exact noPbT_look h.2 s
theorem noPbB_mem {N : Nat} : ∀ {l : List (List AV)}, noPbB N l = true -> ∀ (i : Nat) cs, l[i]? = some cs -> ∀ x ∈ cs, x.allLeaf (noPb N) = true
 | [], _, i, cs, h, _, _ => by simp at h
 | y :: r, h, i, cs, hi, x, hx => by
  simp only [noPbB, Bool.and_eq_true] at h
  cases i with
  | zero => simp at hi; subst hi; exact allLeafs_mem h.1 x hx
  | succ i => exact noPbB_mem h.2 i cs (by simpa using hi) x hx
theorem noPbT_put {N : Nat} {x : AV} (hx : x.allLeaf (noPb N) = true) : ∀ {l : List (Nat × AV)} {s : Nat}, noPbT N l = true -> noPbT N (putT l s x) = true
 | [], s, _ => by simp [putT, noPbT, hx]
 | (s', v) :: r, s, h => by
  simp only [noPbT, Bool.and_eq_true] at h
  unfold putT
  split
  ·simp [noPbT, hx, h.2]
  ·simp [noPbT, h.1, noPbT_put hx h.2]
theorem noPbB_set {N : Nat} : ∀ (bx : List (List AV)) (k : Nat) (c' : List AV), noPbB N bx = true -> allLeafs (noPb N) c' = true -> noPbB N (bx.set k c') = true
 | [], _, _, _, _ => rfl
 | b :: bx, 0, c', h1, h2 => by simp only [List.set_cons_zero, noPbB, Bool.and_eq_true] at h1 ⊢; exact ⟨h2, h1.2⟩
 | b :: bx, k + 1, c', h1, h2 => by simp only [List.set_cons_succ, noPbB, Bool.and_eq_true] at h1 ⊢; exact ⟨h1.1, noPbB_set bx k c' h1.2 h2⟩
def unboxG (N : Nat) (G : Nat -> Status) (b : Nat) : Status := if G b = .box N then .junk else G b
theorem unboxG_stable {N : Nat} {G : Nat -> Status} {b : Nat} : Stable (unboxG N G) b ↔ Stable G b := by
 unfold Stable unboxG
 split
 ·rename_i h; rw [h]; simp
 ·exact Iff.rfl
theorem unboxG_tag {N t : Nat} {G : Nat -> Status} {b : Nat} : unboxG N G b = .tag t ↔ G b = .tag t := by
 unfold unboxG
 split
 ·rename_i h; rw [h]; simp
 ·exact Iff.rfl
theorem unboxG_box {N i : Nat} {G : Nat -> Status} {b : Nat} : unboxG N G b = .box i ↔ G b = .box i /\ i ≠ N := by
 unfold unboxG
 split
 ·rename_i h; rw [h]; simp; exact fun e => e.symm
 ·rename_i h
  exact ⟨fun h' => ⟨h', fun e => h (by rw [h', e])⟩, fun h' => h'.1⟩
theorem VRel.unbox {N : Nat} {G : Nat -> Status} {w : World} {x : AV} {v : Value} (h : VRel G w x v) (hq : x.allLeaf (noPb N) = true) : VRel (unboxG N G) w x v := by
 have hF : ∀ {x v}, FRel (Stable G) w x v -> FRel (Stable (unboxG N G)) w x v := fun hr => hr.mono (fun b => unboxG_stable.2) (fun _ _ => rfl)
 have hsl : ∀ {t es xs v}, VRel G w (.sl t es xs) v -> VRel (unboxG N G) w (.sl t es xs) v := by
  intro t es xs v h
  cases h with
  | froz h => exact .froz (hF h)
  | own _ _ _ _ e vals h1 h2 h3 h4 h0 h5 => exact .own t es xs v e vals h1 h2 (fun b hb => unboxG_tag.2 (h3 b hb)) h4 h0 (h5.mono fun x y _ hr => hF hr)
 have hso : ∀ {t xs v}, VRel G w (.so t xs) v -> VRel (unboxG N G) w (.so t xs) v := by
  intro t xs v h
  have := h.so_map (f := id) (G' := unboxG N G) (w' := w) h.so_two (fun x u hx hr => ⟨hx, by
   cases hr with
   | froz hr => exact .froz (hF hr)
   | own t' es ys _ e vals h1 hrt h2 h3 h4 h0 h5 => exact .own t' es ys _ e vals h1 hrt h2 (fun b hb => unboxG_tag.2 (h3 b hb)) h4 h0 (h5.mono fun x y _ hr => hF hr)⟩)
   (fun b hb => ⟨unboxG_tag.2 hb, rfl⟩)
  simpa using this
 refine h.keepQ (fun x v hx hq h => ?_) hq
 cases x with
 | so t xs => exact hso h
 | po t xs i =>
  obtain ⟨b, off, c, h1, h2, rfl⟩ := h.po_inv
  exact (hso h1).po_of rfl h2
 | sl t es xs => exact hsl h
 | pe t es xs i o =>
  obtain ⟨b, off, c, h1, h2, rfl⟩ := h.pe_inv
  exact .pe _ _ _ _ _ _ _ _ (hsl h1) h2
 | pb i o =>
  obtain ⟨b, hb, rfl⟩ := h.pb_inv
  simp only [noPb, decide_eq_true_eq] at hq
  exact .pb _ _ _ (unboxG_box.2 ⟨hb, hq⟩)
 | ag cs => simp [AV.leafy] at hx
 | tup cs => simp [AV.leafy] at hx
 | any => exact .froz (.any _)
 | nil => rw [h.nil_inv]; exact .froz .nil
 | ub => obtain ⟨b, rfl⟩ := h.ub_inv; exact .froz (.ub b)
 | sc u => rw [h.sc_inv]; exact .froz (.sc _)
 | fn g caps => cases h with | froz h => exact .froz (hF h)
 | mp t P k e D => exact h.mpMono (fun b hb => unboxG_tag.2 hb) (fun _ _ _ _ _ => rfl)
 | cl g caps =>
  obtain ⟨vs, rfl, hp⟩ := h.cl_inv
  simp only [noPb, List.all_eq_true] at hq
  refine .cl _ _ _ (hp.mono fun x u hx hr => ?_)
  rcases hr with ⟨i, o, b, rfl, hb, rfl⟩ | hr
  ·have := hq _ hx
   simp only [decide_eq_true_eq] at this
   exact .inl ⟨i, o, b, rfl, unboxG_box.2 ⟨hb, this⟩, rfl⟩
  ·exact .inr (hF hr)
 | tl t es xs i =>
  obtain ⟨b, off, off', c, h1, h2, h3, _, rfl⟩ := h.tl_inv
  exact .tl _ _ _ _ _ _ _ _ (hsl h1) h2 h3
 | fp cs o => cases h with | froz h => exact .froz (hF h)
theorem SRel.unbox {G0 w0 σ G a w} (h : SRel G0 w0 σ G a w) {N k : Nat} (hg : G0.gh N = none) (h0 : ∀ b, b < w0.heap.size -> G0 b ≠ .box N) (ht : noPbT N σ.tmps = true) (hb : noPbB N σ.boxes = true) (hc : σ.boxes[N]? = some (List.replicate k .any)) :
  SRel G0 w0 σ (unboxG N G) a w /\ ∀ b, unboxG N G b ≠ .box N := by
 have hn : ∀ b, unboxG N G b ≠ .box N := fun b hb => (unboxG_box.1 hb).2 rfl
 refine ⟨{ h with good := ?_, slots := fun s => (h.slots s).unbox (noPbT_look ht s), boxes := ⟨h.boxes.low, fun i cs hi => ?_⟩, blt := fun b i hb => h.blt b i (unboxG_box.1 hb).1, stat := fun b hbl hnt => ?_ }, hn⟩
 ·refine ⟨fun b hb => h.good.lt b fun h' => hb (by unfold unboxG; rw [h']; simp), fun b b' t h1 h2 => h.good.tags b b' t (unboxG_tag.1 h1) (unboxG_tag.1 h2), fun b b' i h1 h2 => h.good.boxes b b' i (unboxG_box.1 h1).1 (unboxG_box.1 h2).1⟩
 ·by_cases hiN : i = N
  ·subst hiN
   rw [hc] at hi; cases hi
   exact .inr (.inr ⟨hg, hn, fun x hx v => by rw [(List.mem_replicate.1 hx).2]; exact .froz (.any _)⟩)
  ·refine (h.boxes.cell i cs hi).turn rfl (fun j x y v h1 h2 hr => ?_) (fun b hb => ⟨unboxG_box.2 ⟨hb, hiN⟩, rfl⟩) fun h0 b hb => h0 b (unboxG_box.1 hb).1
   rw [h1] at h2; cases h2
   exact hr.unbox (noPbB_mem hb i cs hi x (List.mem_of_getElem? h1))
 ·have h1 := h.stat b hbl hnt
  unfold unboxG
  rw [if_neg (fun h' => h0 b hbl (by rw [<- h1, h'])), h1]
theorem SRel.realize {G0 w0 σ G a w} (h : SRel G0 w0 σ G a w) {N d : Nat} {z : Value} {T : TypeId} (hg : G0.gh N = none) (hn : ∀ b, G b ≠ .box N) (hc : σ.boxes[N]? = some (List.replicate z.cells.size .any)) (hz : One z.cells.toList) (hd : d < σ.n) :
  SRel G0 w0 (σ.put (some d) (.pb N 0)) (updG G w.heap.size (.box N)) (a.put (some d) (.pointer (some ⟨w.heap.size, 0, none⟩))) (w.alloc (.cells z.cells T)) := by
 have hE : Ext G w (updG G w.heap.size (.box N)) (w.alloc (.cells z.cells T)) := .alloc _ _
 have hG : Good (updG G w.heap.size (.box N)) (w.alloc (.cells z.cells T)) := h.good.upd _ _ (Nat.le_refl _) (by simp) (by simp) (fun t ht => by cases ht) (fun i hi b hb => by cases hi; exact hn b hb)
 have hbx : ∀ b i, updG G w.heap.size (.box N) b = .box i -> (b = w.heap.size /\ i = N) \/ G b = .box i := fun b i hb => by
  unfold updG at hb
  split at hb
  ·rename_i e; cases hb; exact .inl ⟨e, rfl⟩
  ·exact .inr hb
 have hNl : N < σ.boxes.length := (List.getElem?_eq_some_iff.1 hc).1
 refine { good := hG, slots := slots_put (fun s => (h.slots s).ext h.good hE) h.size (by simpa [dstOk] using hd) (.pb _ _ _ (by simp [updG])), boxes := ⟨fun i vs hv => by rw [put_boxes]; exact h.boxes.low i vs hv, fun i cs hi => ?_⟩, blt := fun b i hb => ?_, size := by rw [put_size, put_n]; exact h.size, defs := by rw [put_defers]; exact h.defs, os := hE.os.trans h.os, tape := hE.tape.trans h.tape, output := hE.output.trans h.output, hsize := Nat.le_trans h.hsize hE.size, stat := fun b hb ht => (hE.stat b (Nat.lt_of_lt_of_le hb h.hsize)).trans (h.stat b hb ht), keep := fun b hb hn' ht => (hE.keep b (Nat.lt_of_lt_of_le hb h.hsize)).trans (h.keep b hb hn' ht) }
 ·rw [put_boxes] at hi
  by_cases hiN : i = N
  ·subst hiN
   rw [hc] at hi; cases hi
   refine .inl ⟨hg, w.heap.size, z.cells, T, by simp [updG], heap_alloc_new w _, hz, by simp, fun j x u hx _ => ?_⟩
   rw [List.getElem?_replicate] at hx
   split at hx
   ·cases hx; exact .froz (.any _)
   ·cases hx
  ·refine (h.boxes.cell i cs hi).same (fun x v hr => hr.ext h.good hE) (fun b hb => ?_) fun h0 b hb => ?_
   ·have hbs := h.good.lt b (by rw [hb]; simp)
    exact ⟨by rw [hE.stat b hbs]; exact hb, hE.keep b hbs⟩
   ·rcases hbx b i hb with ⟨_, e⟩ | h1
    ·exact hiN e
    ·exact h0 b h1
 ·rw [put_boxes]
  rcases hbx b i hb with ⟨_, rfl⟩ | h1
  ·exact hNl
  ·exact h.blt b i h1
def lookA : List (Nat × Nat) -> Nat -> Option Nat
 | [], _ => none
 | (i, N) :: r, k => if i = k then some N else lookA r k
def AllocP (P : Program) (bx : List (List AV)) (o : Oper) (N : Nat) (y : AV) : Prop :=
 o.guard = none /\ y = .pb N 0 /\ ∃ T q z, o.op = .alloc T /\ tinfo P T = some q /\ q.2.2 = some z /\ zeroOk q.1 z = true /\ bx[N]? = some (List.replicate q.1 .any)
section
variable {P : Program} {ops : Array Oper} {m : Nat} {vs : List (Nat × AV)} {E : List Nat} {A : List (Nat × Nat)} {C : Nat -> List AV} {i0 : Nat} {σ : St} {K : St -> Prop} {G0 : Orig} {w0 : World} {Q : Exit -> Act -> World -> Prop}
theorem head_runP {LF : List Nat} {tr : Tr} {sg : Option (Nat × Tr)} (hp : PlanL ops m E LF tr sg) (hE : PlanE ops m E) (h0 : True) (hN : ∀ e a w, e ≠ .normal -> ¬ Q e a w) (hQ : ∀ σ' G' a' w', K σ' -> SRel G0 w0 σ' G' a' w' -> Q .normal a' w') (hvl : vs.length = m) (hap : Apart vs) (hC : ∀ j, (C j).length = (C 0).length)
    (hK : treeA P ops tr (puts { σ with boxes := σ.boxes.set i0 (C E.length) } vs) K) (hK2 : sgA P ops sg (puts { σ with boxes := σ.boxes.set i0 (C E.length) } vs) K)
    (hst : ∀ i o, i < m -> ops[i]? = some o -> ∃ d y, vs[i]? = some (d, y) /\ o.dst = some d /\ d < σ.n /\
      if i ∈ E then EffC P σ i0 o d (puts σ (vs.take i)).ev (C (E.filter fun e => decide (e < i)).length) y (C ((E.filter fun e => decide (e < i)).length + 1)) else if i ∈ LF then FrontC P o (puts σ (vs.take i)).ev y else match lookA A i with | some N => AllocP P σ.boxes o N y | none => StepG P ops o d (puts σ (vs.take i)) (σ.boxes.set i0 (blankC E (C 0))) y)
    (hA : ∀ i N, i < m -> lookA A i = some N -> N ≠ i0 /\ G0.gh N = none /\ (∀ b, b < w0.heap.size -> G0 b ≠ .box N) /\ (∀ j d y, j ≠ i -> vs[j]? = some (d, y) -> y.allLeaf (noPb N) = true) /\ ∀ j, allLeafs (noPb N) (C j) = true)
    (hfr : ∀ i o d, ops[i]? = some o -> i < m -> o.dst = some d -> creates o.op = true -> (∀ j d' y, j ≠ i -> vs[j]? = some (d', y) -> y.allLeaf (freeLeaf d) = true \/ reach ops j j i = true) /\ ∀ j, allLeafs (freeLeaf d) (C j) = true) :
    ∀ (fuel : Nat) (listed : Array Bool) (U : List Nat) (τ : St) (G : Nat -> Status) (a : Act) (w : World), Left ops listed U -> U.length = fuel -> (∀ i, m <= i -> listed.getD i false = false) ->
      Closed ops (fun k => listed.getD k false) -> AtE vs E C i0 (fun i => listed.getD i false) σ τ -> SRel G0 w0 τ G a w ->
      (∀ i o d, ops[i]? = some o -> i < m -> o.dst = some d -> creates o.op = true -> listed.getD i false = false -> τ.free d = true) ->
      (∀ i N, i < m -> lookA A i = some N -> i ∉ E -> i ∉ LF -> listed.getD i false = false -> noPbT N τ.tmps = true /\ noPbB N τ.boxes = true) -> wpAny P .any ops Q fuel listed a w := by
  have posAll : ∀ {L : Nat -> Bool}, (∀ i, i < m -> L i = true) -> posE E L = E.length := fun {L} h => by
    unfold posE
    rw [List.filter_eq_self.2 fun e he => h e (hE.lt e he)]
  have done : ∀ {τ G a w} {L : Nat -> Bool}, AtE vs E C i0 L σ τ -> (∀ i, i < m -> L i = true) -> SRel G0 w0 τ G a w -> SRel G0 w0 (puts { σ with boxes := σ.boxes.set i0 (C E.length) } vs) G a w := by
    intro τ G a w L hat hall h
    have hpa := puts_at m vs { σ with boxes := σ.boxes.set i0 (C E.length) } hap
    rw [List.take_of_length_le (by omega)] at hpa
    refine h.slotsEq (by rw [hpa.n, hat.n]) (by rw [hpa.boxes, hat.boxes, posAll hall]) fun s => ?_
    by_cases hs : ∀ (i d : Nat) (y : AV), vs[i]? = some (d, y) -> d ≠ s
    · rw [hpa.rest s hs, hat.rest s hs]; rfl
    · have : ∃ (i : Nat) (y : AV), vs[i]? = some (s, y) := by
        apply Classical.byContradiction
        intro hcon
        exact hs fun i d y hi hds => hcon ⟨i, y, by rw [<- hds]; exact hi⟩
      obtain ⟨i, y, hi⟩ := this
      have hil : i < m := by rw [<- hvl]; exact (List.getElem?_eq_some_iff.1 hi).1
      rw [hpa.dst i s y hi, hat.dst i s y hi]
      simp [hil, hall i hil]
  have done2 : ∀ {τ G a w} {L : Nat -> Bool} {x dx : Nat} {yx : AV}, AtE vs E C i0 L σ τ -> x ∉ E -> vs[x]? = some (dx, yx) -> (∀ i, i < m -> i ≠ x -> L i = true) -> SRel G0 w0 τ G a w -> SRel G0 w0 ((puts { σ with boxes := σ.boxes.set i0 (C E.length) } vs).put (some dx) .any) G a w := by
    intro τ G a w L x dx yx hat hxE hx hall h
    have hpa := puts_at m vs { σ with boxes := σ.boxes.set i0 (C E.length) } hap
    rw [List.take_of_length_le (by omega)] at hpa
    have hpos : posE E L = E.length := by
      unfold posE
      rw [List.filter_eq_self.2 fun e he => hall e (hE.lt e he) fun h' => hxE (h' ▸ he)]
    have h2 := h.reput (d := dx) (x := .any) (.froz (.any _))
    refine h2.slotsEq (by rw [put_n, put_n, hpa.n, hat.n]) (by rw [put_boxes, put_boxes, hpa.boxes, hat.boxes, hpos]) fun s => ?_
    rw [get_put, get_put]
    by_cases hds : dx = s
    · rw [if_pos hds, if_pos hds]
    rw [if_neg hds, if_neg hds]
    by_cases hs : ∀ (i d : Nat) (y : AV), vs[i]? = some (d, y) -> d ≠ s
    · rw [hpa.rest s hs, hat.rest s hs]; rfl
    · have : ∃ (i : Nat) (y : AV), vs[i]? = some (s, y) := by
        apply Classical.byContradiction
        intro hcon
        exact hs fun i d y hi hds => hcon ⟨i, y, by rw [<- hds]; exact hi⟩
      obtain ⟨i, y, hi⟩ := this
      have hil : i < m := by rw [<- hvl]; exact (List.getElem?_eq_some_iff.1 hi).1
      have hix : i ≠ x := fun h' => by subst h'; rw [hx] at hi; cases hi; exact hds rfl
      rw [hpa.dst i s y hi, hat.dst i s y hi]
      simp [hil, hall i hil hix]
  intro fuel
  induction fuel with
  | zero =>
    intro listed U τ G a w hl hU hm hc hat h _ _
    have hUn : U = [] := List.eq_nil_of_length_eq_zero hU
    subst hUn
    have hall : ∀ i, i < ops.size -> listed.getD i false = true := fun i hi => by
      cases hb : listed.getD i false
      · have := (hl.mem i).2 ⟨hi, hb⟩; simp at this
      · rfl
    have hms : m = ops.size := by
      apply Classical.byContradiction
      intro hne
      have := hp.le
      have h1 := hall m (by omega)
      rw [hm m (Nat.le_refl m)] at h1; cases h1
    exact (tree_run (P := P) h0 hp.lt hN hQ tr true (List.range m) listed [] _ G a w hp.tr hl hc (fun i hi => by rw [hall i hi]; simp; omega) hK (done hat (fun i hi => hall i (by have := hp.le; omega)) h)).1 rfl
  | succ fuel ih =>
    intro listed U τ G a w hl hU hm hc hat h hfree hph
    have hUn : U ≠ [] := by intro h; rw [h] at hU; simp at hU
    by_cases hdone : ∀ i, i < m -> listed.getD i false = true
    · have := (tree_run (P := P) h0 hp.lt hN hQ tr true (List.range m) listed U _ G a w hp.tr hl hc (fun i hi => by
        simp only [List.contains_iff_mem, List.mem_range]
        refine ⟨fun hb => ?_, fun hlt => hdone i hlt⟩
        apply Classical.byContradiction
        intro hge
        rw [hm i (by omega)] at hb; cases hb) hK (done hat hdone h)).1 rfl
      rw [hU] at this; exact this
    by_cases hsg : ∃ x t, sg = some (x, t) /\ ∀ i, i < m -> i ≠ x -> listed.getD i false = true
    · obtain ⟨x, t, rfl, hall⟩ := hsg
      obtain ⟨hxm, hxE, hxL, _, ht⟩ := hp.sg x t rfl
      obtain ⟨o, ho⟩ : ∃ p, ops[x]? = some p := ⟨ops[x]'(by have := hp.le; omega), by have := hp.le; simp [show x < ops.size by omega]⟩
      obtain ⟨dx, yx, hv, hd, _, _⟩ := hst x o hxm ho
      have hxf : listed.getD x false = false := by
        cases hb : listed.getD x false
        · rfl
        · exact absurd (fun i hi => by by_cases hix : i = x; · rw [hix]; exact hb
                                       · exact hall i hi hix) hdone
      simp only [sgA, ho] at hK2
      obtain ⟨d', hd', hK2⟩ := hK2
      rw [hd] at hd'; cases hd'
      have := (tree_run (P := P) h0 hp.lt hN hQ t true _ listed U _ G a w ht hl hc (fun i hi => by
        simp only [List.contains_iff_mem, List.mem_filter, List.mem_range, Bool.not_eq_true', beq_eq_false_iff_ne, ne_eq]
        refine ⟨fun hb => ⟨?_, fun hix => by rw [hix, hxf] at hb; cases hb⟩, fun ⟨h1, h2⟩ => hall i h1 h2⟩
        apply Classical.byContradiction
        intro hge
        rw [hm i (by omega)] at hb; cases hb) hK2 (done2 hat hxE hv hall h)).1 rfl
      rw [hU] at this; exact this
    · suffices key : ∀ i, i ∈ Region.ready .any ops listed -> i < m -> (i ∈ LF -> wpAny P .any ops Q (fuel + 1) listed a w) /\ (i ∉ LF -> Go.wpOp P ops Q i (wpAny P .any ops Q fuel (listed.setIfInBounds i true)) a w) by
        by_cases hLF : ∃ j, j ∈ LF /\ j ∈ Region.ready .any ops listed
        · obtain ⟨j, h1, h2⟩ := hLF
          exact (key j h2 (hp.fr j h1).1).1 h1
        · refine ⟨fun hr => absurd hr (some_ready hl hp.lt hUn), fun i hi => (key i hi ?_).2 fun hiL => hLF ⟨i, hiL, hi⟩⟩
          obtain ⟨o, ho, h1, h2⟩ := (ready_iff hl.size).1 hi
          apply Classical.byContradiction
          intro hge
          have hall : ∀ j, j < m -> sgIs sg j = false -> listed.getD j false = true := fun j => by
            refine Nat.strongRecOn (motive := fun j => j < m -> sgIs sg j = false -> listed.getD j false = true) j ?_
            intro j ihj hjm hjs
            by_cases hjL : j ∈ LF
            · obtain ⟨p, hpj⟩ : ∃ p, ops[j]? = some p := ⟨ops[j]'(by have := hp.le; omega), by have := hp.le; simp [show j < ops.size by omega]⟩
              cases hb : listed.getD j false
              · exact absurd ⟨j, hjL, (ready_iff hl.size).2 ⟨p, hpj, hb, fun k hk => by
                  have := hp.lt j p hpj k hk
                  refine ihj k this (by omega) ?_
                  cases hsg' : sg with
                  | none => rfl
                  | some q =>
                    obtain ⟨x, t⟩ := q
                    have := (hp.sg x t hsg').2.2.2.1 j hjL p hpj
                    simp only [sgIs, beq_eq_false_iff_ne, ne_eq]
                    exact fun hkx => this (hkx ▸ hk)⟩⟩ hLF
              · rfl
            · exact reach_listed hc ops.size i j o ho h2 (hp.tail i o ho (by omega) j hjm hjL hjs)
          cases hsg' : sg with
          | none => exact hdone fun j hj => hall j hj (by rw [hsg']; rfl)
          | some q =>
            obtain ⟨x, t⟩ := q
            exact hsg ⟨x, t, hsg', fun j hj hjx => hall j hj (by rw [hsg']; simpa [sgIs] using hjx)⟩
      intro i hi him
      obtain ⟨o, ho, h1, h2⟩ := (ready_iff hl.size).1 hi
      have hlt := (Array.getElem?_eq_some_iff.1 ho).1
      obtain ⟨d, y, hv, hd, hdn, hstep⟩ := hst i o him ho
      obtain ⟨d', hd', hself, hpair⟩ := hp.head i o ho him
      rw [hd] at hd'; cases hd'
      have hmem : i ∈ U := (hl.mem i).2 ⟨hlt, h1⟩
      obtain ⟨l1, l2⟩ := hl.step hmem
      have hsz : i < listed.size := by rw [hl.size]; exact hlt
      have hsame : ∀ s ∈ slotsG ops o, (puts σ (vs.take i)).get s = τ.get s := by
        intro s hsm
        have hpa := puts_at i vs σ hap
        by_cases hs : ∀ (i d : Nat) (y : AV), vs[i]? = some (d, y) -> d ≠ s
        · rw [hpa.rest s hs, hat.rest s hs]
        · have : ∃ (j : Nat) (y : AV), vs[j]? = some (s, y) := by
            apply Classical.byContradiction
            intro hcon
            exact hs fun i d y hi hds => hcon ⟨i, y, by rw [<- hds]; exact hi⟩
          obtain ⟨j, y', hj⟩ := this
          have hjl : j < m := by rw [<- hvl]; exact (List.getElem?_eq_some_iff.1 hj).1
          obtain ⟨p, hpj⟩ : ∃ p, ops[j]? = some p := ⟨ops[j]'(by have := hp.le; omega), by have := hp.le; simp [show j < ops.size by omega]⟩
          obtain ⟨d'', y'', hv'', hds'', _⟩ := hst j p hjl hpj
          rw [hj] at hv''; cases hv''
          have hji : j ≠ i := fun hji => by subst hji; rw [hv] at hj; cases hj; exact hself hsm
          have hre := (hpair j p s hjl hji hpj hds'').2 hsm
          rw [hpa.dst j s y' hj, hat.dst j s y' hj]
          by_cases hjlt : j < i
          · rw [if_pos hjlt] at hre
            have := reach_listed hc ops.size i j o ho h2 hre
            simp [hjlt, this]
          · rw [if_neg hjlt] at hre
            have hjf : listed.getD j false = false := by
              cases hb : listed.getD j false
              · rfl
              · have := reach_listed hc ops.size j i p hpj (fun k hk => hc j p hpj hb k hk) hre
                rw [h1] at this; cases this
            simp [hjlt, hjf]
      have hevs : ∀ x ∈ o.op.operands, (puts σ (vs.take i)).ev x = τ.ev x := by
        intro x hx
        cases x with
        | tmp s =>
          simp only [St.ev]
          refine hsame s (List.mem_append.2 (.inr ?_))
          unfold slotsOf
          exact List.mem_filterMap.2 ⟨.tmp s, by simpa using hx, rfl⟩
        | const v => rfl
        | func f => rfl
        | global g => rfl
      -- the frame behind the step
      have hLi : (listed.setIfInBounds i true).getD i false = true := by rw [set_getD hsz]; simp
      have hLj : ∀ j, j ≠ i -> (listed.setIfInBounds i true).getD j false = listed.getD j false := fun j hj => by rw [set_getD hsz, if_neg (Ne.symm hj)]
      have hpos := posE_step (L := fun k => listed.getD k false) (L' := fun k => (listed.setIfInBounds i true).getD k false) hE.nodup hLj h1 hLi
      have hgo : ∀ {τ' G' a' w'}, τ'.n = τ.n -> τ'.tmps = putT τ.tmps d y -> τ'.boxes = σ.boxes.set i0 (C (posE E fun k => (listed.setIfInBounds i true).getD k false)) -> SRel G0 w0 τ' G' a' w' -> wpAny P .any ops Q fuel (listed.setIfInBounds i true) a' w' := by
        intro τ' G' a' w' e1 e2 e3 hs'
        have hget : ∀ s, τ'.get s = if d = s then y else τ.get s := fun s => by unfold St.get; rw [e2, lookT_put]
        refine ih _ _ τ' G' _ _ l1 (by omega) (fun j hj => ?_) (hc.step hsz ho h2) ⟨by rw [e1, hat.n], e3, fun j d' y' hj => ?_, fun s hs => ?_⟩ hs' (fun j oj dj hoj hjm hdj hcr hjf => ?_) (fun j N hjm hjA hjE hjL hjf => ?_)
        · rw [set_getD hsz, if_neg (by omega)]; exact hm j hj
        · rw [hget]
          by_cases hij : j = i
          · subst hij; rw [hv] at hj; cases hj; simp [hLi]
          · rw [if_neg (hap i j d y d' y' hv hj (Ne.symm hij)), hat.dst j d' y' hj, hLj j hij]
        · rw [hget, if_neg (hs i d y hv), hat.rest s hs]
        · by_cases hij : j = i
          · subst hij; rw [hLi] at hjf; cases hjf
          · rw [hLj j hij] at hjf
            have hf := hfree j oj dj hoj hjm hdj hcr hjf
            obtain ⟨f1, f2⟩ := hfr j oj dj hoj hjm hdj hcr
            have f1 : y.allLeaf (freeLeaf dj) = true := (f1 i d y (Ne.symm hij) hv).elim id fun f1 => by
              have := reach_listed hc i i j o ho h2 f1
              rw [hjf] at this; cases this
            simp only [St.free, Bool.and_eq_true, decide_eq_true_eq] at hf ⊢
            refine ⟨hf.1, by rw [e2]; exact freeT_put f1 hf.2.1, ?_⟩
            rw [e3]
            have hfb := hf.2.2
            rw [hat.boxes] at hfb
            have hset : ∀ (bx : List (List AV)) (k : Nat) (c c' : List AV), freeB dj (bx.set k c) = true -> allLeafs (freeLeaf dj) c' = true -> freeB dj (bx.set k c') = true := by
              intro bx
              induction bx with
              | nil => intro k c c' _ _; rfl
              | cons b bx ihb =>
                intro k c c' h1 h2
                cases k with
                | zero => simp only [List.set_cons_zero, freeB, Bool.and_eq_true] at h1 ⊢; exact ⟨h2, h1.2⟩
                | succ k => simp only [List.set_cons_succ, freeB, Bool.and_eq_true] at h1 ⊢; exact ⟨h1.1, ihb k c c' h1.2 h2⟩
            exact hset _ _ _ _ hfb (f2 _)
        · by_cases hij : j = i
          · subst hij; rw [hLi] at hjf; cases hjf
          · rw [hLj j hij] at hjf
            obtain ⟨q1, q2⟩ := hph j N hjm hjA hjE hjL hjf
            obtain ⟨_, _, _, f1, f2⟩ := hA j N hjm hjA
            refine ⟨by rw [e2]; exact noPbT_put (f1 i d y (Ne.symm hij) hv) q1, ?_⟩
            rw [e3]
            rw [hat.boxes] at q2
            have := noPbB_set _ i0 _ q2 (f2 (posE E fun k => (listed.setIfInBounds i true).getD k false))
            rw [List.set_set] at this
            exact this
      refine ⟨fun hiL => ?_, fun hnL => ?_⟩
      · obtain ⟨_, hiE, hfr'⟩ := hp.fr i hiL
        obtain ⟨d', hfront⟩ := hfr' o ho
        obtain rfl : d = d' := by have := hfront.dst; rw [hd] at this; simpa using this
        rw [if_neg hiE, if_pos hiL] at hstep
        rw [if_neg hiE, Nat.add_zero] at hpos
        obtain ⟨v, hv', hex⟩ := hstep G a w h.good (fun x hx => by rw [hevs x hx]; exact h.ev x)
        have hs' := h.add (.refl G w) h.good (fun _ _ h => h) (d := some d) (x := y) (v := v) (by simp [dstOk, hat.n, hdn]) hv'
        exact front_run hN hfront fuel listed a w v hl.size hc hi hex (hgo (τ' := τ.put (some d) y) rfl rfl (by rw [put_boxes, hat.boxes, hpos]) hs')
      by_cases hiE : i ∈ E
      case neg =>
        rw [if_neg hiE, if_neg hnL] at hstep
        rw [if_neg hiE, Nat.add_zero] at hpos
        cases hlA : lookA A i with
        | some N =>
          rw [hlA] at hstep
          obtain ⟨hgd, rfl, T, q, z, hop, hq, hz, hzo, hbN⟩ := hstep
          obtain ⟨a1, a2, a3, _, _⟩ := hA i N him hlA
          obtain ⟨p1, p2⟩ := hph i N him hlA hiE hnL h1
          have hbN' : τ.boxes[N]? = some (List.replicate q.1 .any) := by rw [hat.boxes, List.getElem?_set_ne (Ne.symm a1)]; exact hbN
          obtain ⟨hu, hun⟩ := h.unbox a2 a3 p1 p2 hbN'
          simp only [zeroOk, Bool.and_eq_true, decide_eq_true_eq] at hzo
          obtain ⟨_, hone⟩ := ofConst_cells (S := fun _ => False) (w := w) z hzo.2
          have hr := hu.realize (d := d) (z := z) (T := T) a2 hun (by rw [hzo.1]; exact hbN') hone (by rw [hat.n]; exact hdn)
          obtain ⟨sz, by_, zz⟩ := q
          simp only at hz
          subst hz
          obtain ⟨ti, hti, _, _, hzz⟩ := tinfo_some hq
          have hrun : (execOp a.eval o).run P w = .ok (.value (.pointer (some ⟨w.heap.size, 0, none⟩))) (w.alloc (.cells z.cells T)) := by
            simp [execOp, hop, Instr.alloc, newVar, newRow, zeroValue, typeInfo, hti, hzz]
          simp only [Go.wpOp, ho]
          rw [if_pos (by simp [Region.wanted, hgd])]
          refine .inl ?_
          simp only [Oper.wp, hrun, Oper.upon, hd]
          exact hgo (τ' := τ.put (some d) (.pb N 0)) rfl rfl (by rw [put_boxes, hat.boxes, hpos]) hr
        | none =>
        rw [hlA] at hstep
        have hops : ∀ x ∈ o.op.operands, ∀ {G}, SRel G0 w0 τ G a w -> VRel G w ((puts σ (vs.take i)).ev x) (a.eval x) := fun x hx G h => by rw [hevs x hx]; exact h.ev x
        have hgo2 : ∀ {G' a' w'}, SRel G0 w0 (τ.put (some d) y) G' a' w' -> wpAny P .any ops Q fuel (listed.setIfInBounds i true) a' w' := fun hs' =>
          hgo (τ' := τ.put (some d) y) rfl rfl (by rw [put_boxes, hat.boxes, hpos]) hs'
        have hrun : StepOk P o d (puts σ (vs.take i)).ev (σ.boxes.set i0 (blankC E (C 0))) y -> o.wp P a w (wpAny P .any ops Q fuel (listed.setIfInBounds i true)) Q := by
          intro hstep
          have key : ∀ {G}, SRel G0 w0 τ G a w -> (creates o.op = true -> Fresh d G) -> o.wp P a w (wpAny P .any ops Q fuel (listed.setIfInBounds i true)) Q := fun {G} h hfr' =>
            hstep _ G a w h.good ((show BRel _ G w (σ.boxes.set i0 (C (posE E fun k => listed.getD k false))) from by rw [<- hat.boxes]; exact h.boxes).blank (hC _) fun hE0 => by rw [hE0]; rfl) hfr' (fun x hx => hops x hx h) _ _ fun v w' G' g1 g2 g3 g4 =>
              hgo2 (by rw [hd]; exact h.add g2 g3 g4.boxes (by simp [dstOk, hat.n, hdn]) g1)
          by_cases hcr : creates o.op = true
          · obtain ⟨hs, hf⟩ := h.fresh (hfree i o d ho him hd hcr h1) h0
            exact key hs fun _ => hf
          · exact key h fun hc' => absurd hc' hcr
        simp only [Go.wpOp, ho]
        rcases hstep with ⟨hg, hstep⟩ | ⟨j, want, g, c, hg, hgs, hgv, hc2⟩ | ⟨j, want, g, vs', hg, hgs, hgv, rfl⟩
        · rw [if_pos (by simp [Region.wanted, hg])]
          exact .inl (hrun hstep)
        · have hgm : g ∈ slotsG ops o := by simp [slotsG, guardS, hg, hgs]
          have hv2 := h.slots g
          rw [<- hsame g hgm, hgv] at hv2
          have hy := yielded_bool hgs hv2.sc_inv
          rcases hc2 with ⟨rfl, hstep⟩ | ⟨hne, rfl⟩
          · rw [if_pos (by simp [Region.wanted, hg, hy])]
            exact .inl (hrun hstep)
          · rw [if_neg (by simp [Region.wanted, hg, hy, hne])]
            have hs' := h.add (.refl G w) h.good (fun _ _ h => h) (d := o.dst) (x := .sc undef) (v := undef) (by rw [hd]; simp [dstOk, hat.n, hdn]) (.froz (.sc _))
            exact hgo2 (G' := G) (by rw [hd] at hs' ⊢; exact hs')
        · have hgm : g ∈ slotsG ops o := by simp [slotsG, guardS, hg, hgs]
          have hv2 := h.slots g
          rw [<- hsame g hgm, hgv] at hv2
          have hy := yielded_none hgs hv2.sc_inv
          rw [if_neg (by simp [Region.wanted, hg, hy])]
          have hs' := h.add (.refl G w) h.good (fun _ _ h => h) (d := o.dst) (x := .sc undef) (v := undef) (by rw [hd]; simp [dstOk, hat.n, hdn]) (.froz (.sc _))
          exact hgo2 (G' := G) (by rw [hd] at hs' ⊢; exact hs')
      case pos =>
        rw [if_pos hiE] at hstep
        rw [if_pos hiE] at hpos
        obtain ⟨hg, fid, args, As, r, c1, hop, hpb, hnt, hnt0, hcon, hr1, hr2, hye, hce⟩ := hstep
        -- all effects ahead of it are listed, none behind it is
        have hposi : posE E (fun k => listed.getD k false) = (E.filter fun e => decide (e < i)).length := by
          unfold posE
          congr 1
          refine List.filter_congr fun e he => ?_
          rcases Nat.lt_trichotomy e i with hlt' | heq | hgt
          · have := reach_listed hc ops.size i e o ho h2 (hE.chain e he i hiE hlt')
            simp [hlt', this]
          · subst heq; simp [h1]
          · have hnl : listed.getD e false = false := by
              cases hb : listed.getD e false
              · rfl
              · have hel := hE.lt e he
                obtain ⟨p, hpe⟩ : ∃ p, ops[e]? = some p := ⟨ops[e]'(by have := hp.le; omega), by have := hp.le; simp [show e < ops.size by omega]⟩
                have := reach_listed hc ops.size e i p hpe (fun k hk => hc e p hpe hb k hk) (hE.chain i hiE e he hgt)
                rw [h1] at this; cases this
            simp [hnl]; omega
        have hargs : args.toList.map (puts σ (vs.take i)).ev = args.toList.map τ.ev := by
          refine List.map_congr_left fun x hx => hevs x ?_
          simp [hop, Op.operands, Call.operands]
          exact .inr (by simpa using hx)
        rw [hargs] at hpb hnt hcon
        have hcr : creates o.op = true := by simp [creates, hop]
        have hfd := hfree i o d ho him hd hcr h1
        -- the variable is there
        have hva : ∀ G, SRel G0 w0 τ G a w -> PW (VRel G w) (args.toList.map τ.ev) (args.map a.eval).toList := fun G hs => by
          rw [Array.toList_map]
          refine ⟨by simp, fun j x u hx hu => ?_⟩
          simp only [List.getElem?_map] at hx hu
          cases hj : args.toList[j]? with
          | none => simp [hj] at hx
          | some c => simp [hj] at hx hu; subst hx; subst hu; exact hs.ev c
        have hi0 : i0 < σ.boxes.length := by
          obtain ⟨b, hb⟩ := pbss_real (i := i0) _ _ (hva G h) (dedup_mem _ (by rw [hpb]; simp))
          have := h.blt b i0 hb
          rw [hat.boxes] at this; simpa using this
        have hbx : getAll τ.boxes [i0] = some [C (posE E fun k => listed.getD k false)] := by
          simp only [getAll, hat.boxes, List.getElem?_set, if_true, hi0]
        have hlen : τ.boxes.length = σ.boxes.length := by rw [hat.boxes]; simp
        rw [<- hposi] at hcon hnt0 hce
        have hcall : CallB P fid (args.toList.map τ.ev) [i0] d τ fun σ' => σ'.n = τ.n /\ σ'.tmps = putT τ.tmps d y /\ σ'.boxes = σ.boxes.set i0 (C (posE E (fun k => listed.getD k false) + 1)) := by
          refine ⟨hfd, by rw [hat.n]; exact hdn, hnt, rfl, _, hbx, hnt0, hcon.mono ?_⟩
          rintro r' bx ⟨rfl, rfl⟩
          refine ⟨hr1, hr2, rfl, by rw [hlen, <- hye]; rfl, ?_⟩
          rw [put_boxes]
          have hce' : mapB (outLeaf (64 * (d + 1)) [i0] σ.boxes.length) [c1] = [C (posE E (fun k => listed.getD k false) + 1)] := hce.symm
          simp only [List.length_singleton, List.take_succ_cons, List.take_zero, List.drop_succ_cons, List.drop_nil, hlen, hce', mapB, setAll, List.append_nil]
          rw [hat.boxes, List.set_set]
        obtain ⟨⟨fn, hfn, hname, hbody⟩, hcalls⟩ := CallB.sound hcall h h0 hva (fun G hs j hj => by
          simp at hj; subst hj
          exact pbss_real _ _ (hva G hs) (dedup_mem _ (by rw [hpb]; simp)))
        have hrun : (execOp a.eval o).run P w = .ok (.enter fid (args.map a.eval)) w := by
          have hname' : ¬ fn.name = "runtime.NumGoroutine" := by simpa using hname
          have hbody' : ¬ fn.body = none := by intro h; rw [h] at hbody; simp at hbody
          have hfe : a.eval (.func fid) = .func (.func fid) #[] #[] := rfl
          simp [execOp, hop, resolve, hfe, Deferred.ofValue, invoke, callFunc, hfn, hname', hbody']
        simp only [Go.wpOp, ho]
        rw [if_pos (by simp [Region.wanted, hg])]
        refine .inl ?_
        unfold Oper.wp
        rw [hrun, Oper.upon_enter]
        refine hcalls.mono ?_
        rintro e w' ⟨v, σ', G', rfl, ⟨e1, e2, e3⟩, hs'⟩
        exact hgo e1 e2 (by rw [e3, hpos]) (by rw [hd]; exact hs')
end
def noVar : AV -> Bool
 | .pb _ _ => false
 | .cl _ _ => false
 | _ => true
theorem noVar_noPb {N : Nat} : ∀ x : AV, noVar x = true -> noPb N x = true := fun x h => by cases x <;> simp_all [noVar, noPb]
def AllocK (P : Program) (o : Oper) (N : Nat) (σ : St) (K : St -> Prop) : Prop :=
 ∃ d, o.dst = some d /\ d < σ.n /\ AllocP P σ.boxes o N (.pb N 0) /\ K (σ.put (some d) (.pb N 0))
def headF (P : Program) (ops : Array Oper) (n0 i0 : Nat) (E LF : List Nat) (A : List (Nat × Nat)) : Nat -> List Oper -> St -> List AV -> (St -> List AV -> Prop) -> Prop
 | _, [], σ, c, K => K σ c
 | k, o :: r, σ, c, K => if E.contains k = true then EffK P n0 i0 o σ c fun σ' c' => allLeafs noVar c' = true /\ headF P ops n0 i0 E LF A (k + 1) r σ' c' K else if LF.contains k = true then frB P o σ fun σ' => headF P ops n0 i0 E LF A (k + 1) r σ' c K else match lookA A k with
  | some N => AllocK P o N σ fun σ' => headF P ops n0 i0 E LF A (k + 1) r σ' c K
  | none => headG P ops o σ fun σ' => headF P ops n0 i0 E LF A (k + 1) r σ' c K
section
variable {P : Program} {ops : Array Oper} {n0 i0 : Nat} {E LF : List Nat} {A : List (Nat × Nat)}
theorem headF_vals (hn : E.Nodup) : ∀ (l : List Oper) (k : Nat) (σ : St) (c : List AV) (K : St -> List AV -> Prop), headF P ops n0 i0 E LF A k l σ c K -> allLeafs noTag c = true -> allLeafs noVar c = true -> ∃ (vs : List (Nat × AV)) (C : Nat -> List AV), vs.length = l.length /\ (∀ j, j <= cntE E k -> C j = c) /\ (∀ j, (C j).length = c.length /\ allLeafs noTag (C j) = true /\ allLeafs noVar (C j) = true) /\ K (puts σ vs) (C (cntE E (k + l.length))) /\
  ∀ i o, l[i]? = some o -> ∃ d y, vs[i]? = some (d, y) /\ o.dst = some d /\ d < σ.n /\
   if k + i ∈ E then EffC P ⟨0, [], List.replicate n0 []⟩ i0 o d (puts σ (vs.take i)).ev (C (cntE E (k + i))) y (C (cntE E (k + i) + 1)) else if k + i ∈ LF then FrontC P o (puts σ (vs.take i)).ev y else match lookA A (k + i) with | some N => AllocP P σ.boxes o N y | none => StepG P ops o d (puts σ (vs.take i)) σ.boxes y
 | [], k, σ, c, K, h, hc, hn0 => ⟨[], fun _ => c, rfl, fun _ _ => rfl, fun _ => ⟨rfl, hc, hn0⟩, h, fun i o hi => by simp at hi⟩
 | o :: l, k, σ, c, K, h, hc, hn0 => by
  unfold headF at h
  have hcs := cntE_succ hn k
  by_cases hk : k ∈ E
  ·rw [if_pos (by simpa using hk)] at h
   rw [if_pos hk] at hcs
   obtain ⟨d, y, c', h1, h2, h3, h4, h5, h7, h6⟩ := h
   obtain ⟨vs, C, g1, g2, g3, g4, g5⟩ := headF_vals hn l (k + 1) _ c' K h6 h5 h7
   refine ⟨(d, y) :: vs, fun j => if j <= cntE E k then c else C j, by simp [g1], fun j hj => if_pos hj, fun j => ?_, ?_, fun i o' hi => ?_⟩
   ·simp only
    split
    ·exact ⟨rfl, hc, hn0⟩
    ·exact ⟨(g3 j).1.trans h4, (g3 j).2⟩
   ·simp only [puts, List.length_cons]
    rw [show k + (l.length + 1) = k + 1 + l.length by omega]
    have : ¬ cntE E (k + 1 + l.length) <= cntE E k := by
     have : ∀ t, cntE E (k + 1) <= cntE E (k + 1 + t) := fun t => by
      induction t with
      | zero => exact Nat.le_refl _
      | succ t ih => have := cntE_succ hn (k + 1 + t); rw [show k + 1 + (t + 1) = k + 1 + t + 1 by omega]; omega
     have := this l.length; omega
    rw [if_neg this]; exact g4
   ·cases i with
    | zero =>
     simp at hi; subst hi
     refine ⟨d, y, rfl, h1, h2, ?_⟩
     rw [Nat.add_zero, if_pos hk]
     dsimp only
     rw [if_pos (Nat.le_refl _), if_neg (by omega), <- hcs, g2 _ (Nat.le_refl _)]
     exact h3
    | succ i =>
     obtain ⟨d', y', k1, k2, k3, k4⟩ := g5 i o' (by simpa using hi)
     rw [put_n] at k3
     refine ⟨d', y', by simpa using k1, k2, k3, ?_⟩
     rw [show k + (i + 1) = k + 1 + i by omega]
     have hge : ∀ t, cntE E (k + 1) <= cntE E (k + 1 + t) := fun t => by
      induction t with
      | zero => exact Nat.le_refl _
      | succ t ih => have := cntE_succ hn (k + 1 + t); rw [show k + 1 + (t + 1) = k + 1 + t + 1 by omega]; omega
     have := hge i
     dsimp only
     rw [if_neg (show ¬ cntE E (k + 1 + i) <= cntE E k by omega), if_neg (show ¬ cntE E (k + 1 + i) + 1 <= cntE E k by omega)]
     rw [put_boxes] at k4
     exact k4
  ·rw [if_neg (by simpa using hk)] at h
   rw [if_neg hk, Nat.add_zero] at hcs
   obtain ⟨d, y, h1, h2, h3, h4⟩ : ∃ d y, o.dst = some d /\ d < σ.n /\ headF P ops n0 i0 E LF A (k + 1) l (σ.put (some d) y) c K /\ if k ∈ LF then FrontC P o σ.ev y else match lookA A k with | some N => AllocP P σ.boxes o N y | none => StepG P ops o d σ σ.boxes y := by
    by_cases hkL : k ∈ LF
    ·rw [if_pos (by simpa using hkL)] at h
     obtain ⟨d, y, h1, h2, h3, h4⟩ := frB_sound h
     exact ⟨d, y, h1, h2, h3, by rw [if_pos hkL]; exact h4⟩
    ·rw [if_neg (by simpa using hkL)] at h
     cases hlA : lookA A k with
     | some N =>
      rw [hlA] at h
      obtain ⟨d, h1, h2, h4, h3⟩ := h
      exact ⟨d, _, h1, h2, h3, by rw [if_neg hkL]; exact h4⟩
     | none =>
      rw [hlA] at h
      obtain ⟨d, y, h1, h2, h3, h4⟩ := headG_sound h
      exact ⟨d, y, h1, h2, h3, by rw [if_neg hkL]; exact h4⟩
   obtain ⟨vs, C, g1, g2, g3, g4, g5⟩ := headF_vals hn l (k + 1) _ c K h3 hc hn0
   refine ⟨(d, y) :: vs, C, by simp [g1], fun j hj => g2 j (by omega), g3, ?_, fun i o' hi => ?_⟩
   ·simp only [puts, List.length_cons]
    rw [show k + (l.length + 1) = k + 1 + l.length by omega]; exact g4
   ·cases i with
    | zero =>
     simp at hi; subst hi
     refine ⟨d, y, rfl, h1, h2, ?_⟩
     rw [Nat.add_zero, if_neg hk]; exact h4
    | succ i =>
     obtain ⟨d', y', k1, k2, k3, k4⟩ := g5 i o' (by simpa using hi)
     rw [put_n] at k3
     rw [put_boxes] at k4
     refine ⟨d', y', by simpa using k1, k2, k3, ?_⟩
     rw [show k + (i + 1) = k + 1 + i by omega]; exact k4
def pbBut (N d : Nat) : List (Nat × AV) -> Bool
 | [] => true
 | (s, v) :: r => (s == d || v.allLeaf (noPb N)) && pbBut N d r
theorem pbBut_look {N d : Nat} : ∀ {l : List (Nat × AV)}, pbBut N d l = true -> ∀ s, s ≠ d -> (lookT l s).allLeaf (noPb N) = true
 | [], _, _, _ => rfl
 | (s', v) :: r, h, s, hs => by
  simp only [pbBut, Bool.and_eq_true, Bool.or_eq_true, beq_iff_eq] at h
  unfold lookT
  split
  ·rename_i he
   rcases h.1 with h1 | h1
   ·exact absurd (he.symm.trans h1) (by intro e; exact hs e)
   ·exact h1
  ·exact pbBut_look h.2 s hs
def keptOk (ops : Array Oper) (l : List (Nat × AV)) : List (Nat × Nat) -> Bool
 | [] => true
 | (i, N) :: r => (match (ops[i]?).bind (·.dst) with
  | some d => pbBut N d l
  | none => false) && keptOk ops l r
def keptFree (σ : St) : List (Nat × Nat) -> Bool
 | [] => true
 | (_, N) :: r => (decide (σ.boxes.length <= N) && (noPbT N σ.tmps && noPbB N σ.boxes)) && keptFree σ r
theorem keptOk_mem {l : List (Nat × AV)} : ∀ {A : List (Nat × Nat)}, keptOk ops l A = true -> ∀ i N, lookA A i = some N -> ∃ d, (ops[i]?).bind (·.dst) = some d /\ pbBut N d l = true
 | [], _, i, N, h => by simp [lookA] at h
 | (k, M) :: r, h, i, N, hi => by
  simp only [keptOk, Bool.and_eq_true] at h
  simp only [lookA] at hi
  split at hi
  ·rename_i e; subst e; cases hi
   have h1 := h.1
   split at h1
   ·rename_i d hd; exact ⟨d, hd, h1⟩
   ·cases h1
  ·exact keptOk_mem h.2 i N hi
theorem keptFree_mem {σ : St} : ∀ {A : List (Nat × Nat)}, keptFree σ A = true -> ∀ i N, lookA A i = some N -> σ.boxes.length <= N /\ noPbT N σ.tmps = true /\ noPbB N σ.boxes = true
 | [], _, i, N, h => by simp [lookA] at h
 | (k, M) :: r, h, i, N, hi => by
  simp only [keptFree, Bool.and_eq_true, decide_eq_true_eq] at h
  simp only [lookA] at hi
  split at hi
  ·cases hi; exact h.1
  ·exact keptFree_mem h.2 i N hi
def anyB (ph : List Nat) : List (List AV) := ph.map fun k => List.replicate k .any
theorem noPbB_any {N : Nat} : ∀ ph : List Nat, noPbB N (anyB ph) = true
 | [] => rfl
 | k :: r => by
  show (allLeafs (noPb N) (List.replicate k .any) && noPbB N (anyB r)) = true
  rw [noPbB_any r, Bool.and_true]
  induction k with
  | zero => rfl
  | succ k ih => rw [List.replicate_succ]; simp only [allLeafs, ih, Bool.and_true]; rfl
theorem noPbB_app {N : Nat} : ∀ (x y : List (List AV)), noPbB N (x ++ y) = (noPbB N x && noPbB N y)
 | [], y => by simp [noPbB]
 | c :: x, y => by rw [List.cons_append, noPbB, noPbB, noPbB_app x y, Bool.and_assoc]
theorem SRel.kept {G0 w0 σ G a w} (h : SRel G0 w0 σ G a w) (ph : List Nat) : SRel G0 w0 { σ with boxes := σ.boxes ++ anyB ph } G a w :=
 { h with
  boxes := ⟨fun i vs hv => by have := h.boxes.low i vs hv; simp only [List.length_append]; omega, fun i cs hi => by
   simp only at hi
   by_cases hlt : i < σ.boxes.length
   ·rw [List.getElem?_append_left hlt] at hi; exact h.boxes.cell i cs hi
   ·rw [List.getElem?_append_right (by omega)] at hi
    refine .inr (.inr ⟨by cases hgh : G0.gh i with | none => rfl | some vs => have := h.boxes.low _ vs hgh; omega, fun b hb => by have := h.blt b i hb; omega, fun x hx v => ?_⟩)
    unfold anyB at hi
    rw [List.getElem?_map] at hi
    cases hp : ph[i - σ.boxes.length]? with
    | none => simp [hp] at hi
    | some k => simp [hp] at hi; subst hi; rw [(List.mem_replicate.1 hx).2]; exact .froz (.any _)⟩
  blt := fun b i hb => by have := h.blt b i hb; simp only [List.length_append]; omega }
theorem freeB_kept {d : Nat} : ∀ ph : List Nat, freeB d (anyB ph) = true
 | [] => rfl
 | k :: r => by
  show (allLeafs (freeLeaf d) (List.replicate k .any) && freeB d (anyB r)) = true
  rw [freeB_kept r, Bool.and_true]
  induction k with
  | zero => rfl
  | succ k ih => rw [List.replicate_succ]; simp only [allLeafs, ih, Bool.and_true]; rfl
theorem freeB_two {d : Nat} : ∀ (x y : List (List AV)), freeB d (x ++ y) = (freeB d x && freeB d y)
 | [], y => by simp [freeB]
 | c :: x, y => by rw [List.cons_append, freeB, freeB, freeB_two x y, Bool.and_assoc]
theorem freeAll_kept {σ : St} (ph : List Nat) : ∀ {ds : List Nat}, freeAll σ ds = true -> freeAll { σ with boxes := σ.boxes ++ anyB ph } ds = true
 | [], _ => rfl
 | d :: r, h => by
  simp only [freeAll, Bool.and_eq_true] at h ⊢
  refine ⟨?_, freeAll_kept ph h.2⟩
  have h1 := h.1
  simp only [St.free, Bool.and_eq_true] at h1 ⊢
  exact ⟨h1.1, h1.2.1, by rw [freeB_two, h1.2.2, freeB_kept]; rfl⟩
def hasD (d s : Nat) : List (Nat × Nat) -> Bool
 | [] => false
 | (a, b) :: r => (a == d && b == s) || hasD d s r
def freeButD (D : List (Nat × Nat)) (d : Nat) : List (Nat × AV) -> Bool
 | [] => true
 | (s, v) :: r => (s == d || (hasD d s D || v.allLeaf (freeLeaf d))) && freeButD D d r
def freeOthersD (D : List (Nat × Nat)) (l : List (Nat × AV)) : List Nat -> Bool
 | [] => true
 | d :: r => freeButD D d l && freeOthersD D l r
theorem freeButD_look {D : List (Nat × Nat)} {d : Nat} : ∀ {l : List (Nat × AV)}, freeButD D d l = true -> ∀ s, s ≠ d -> hasD d s D = true \/ (lookT l s).allLeaf (freeLeaf d) = true
 | [], _, _, _ => .inr rfl
 | (s', v) :: r, h, s, hs => by
  simp only [freeButD, Bool.and_eq_true, Bool.or_eq_true, beq_iff_eq] at h
  unfold lookT
  split
  ·rename_i he
   rcases h.1 with h1 | h1 | h1
   ·exact absurd (he.symm.trans h1) (by intro e; exact hs e)
   ·rw [<- he]; exact .inl h1
   ·exact .inr h1
  ·exact freeButD_look h.2 s hs
theorem freeOthersD_mem {D : List (Nat × Nat)} {l : List (Nat × AV)} : ∀ {ds : List Nat}, freeOthersD D l ds = true -> ∀ d ∈ ds, freeButD D d l = true
 | d' :: r, h, d, hd => by
  simp only [freeOthersD, Bool.and_eq_true] at h
  rcases List.mem_cons.1 hd with rfl | hd
  ·exact h.1
  ·exact freeOthersD_mem h.2 d hd
def lateP (ops : Array Oper) (m d s : Nat) : Bool := (List.range m).all fun i => match ops[i]? with
 | some o => (o.dst != some s) || (List.range m).all fun j => match ops[j]? with
  | some o' => (o'.dst != some d) || reach ops i i j
  | none => true
 | none => true
def lateD (ops : Array Oper) (m : Nat) : List (Nat × Nat) -> Bool
 | [] => true
 | (d, s) :: r => lateP ops m d s && lateD ops m r
theorem lateD_has {ops : Array Oper} {m d s : Nat} : ∀ {D : List (Nat × Nat)}, lateD ops m D = true -> hasD d s D = true -> lateP ops m d s = true
 | (a, b) :: r, h, hd => by
  simp only [lateD, Bool.and_eq_true] at h
  simp only [hasD, Bool.or_eq_true, Bool.and_eq_true, beq_iff_eq] at hd
  rcases hd with ⟨rfl, rfl⟩ | hd
  ·exact h.1
  ·exact lateD_has h.2 hd
theorem lateP_spec {ops : Array Oper} {m d s i j : Nat} {o o' : Oper} (h : lateP ops m d s = true) (hi : ops[i]? = some o) (him : i < m) (hd : o.dst = some s) (hj : ops[j]? = some o') (hjm : j < m) (hd' : o'.dst = some d) : reach ops i i j = true := by
 unfold lateP at h
 have h1 := List.all_eq_true.1 h i (List.mem_range.2 him)
 rw [hi] at h1
 simp only [hd, bne_self_eq_false, Bool.false_or] at h1
 have h2 := List.all_eq_true.1 h1 j (List.mem_range.2 hjm)
 rw [hj] at h2
 simpa only [hd', bne_self_eq_false, Bool.false_or] using h2
theorem DrawN.effP {σ0 : St} {K : St -> Prop} (A : List (Nat × Nat)) (ph : List Nat) (D : List (Nat × Nat)) (i0 : Nat) (E LF : List Nat) (m : Nat) (tr : Tr) (sg : Option (Nat × Tr)) (c : List AV) (hok : lateOk ops m E LF tr sg = true) (hE : effOk ops m E = true) (hD : lateD ops m D = true) (hc : (σ0.boxes ++ anyB ph)[i0]? = some c) (hi0 : i0 < σ0.boxes.length) (hnt : allLeafs noTag c = true) (hnv : allLeafs noVar c = true) (hfree : freeAll σ0 (creators ops m) = true) (hkf : keptFree σ0 A = true)
  (h : headF P ops (σ0.boxes ++ anyB ph).length i0 E LF A 0 (ops.toList.take m) { σ0 with boxes := (σ0.boxes ++ anyB ph).set i0 (blankC E c) } c fun σ' c' => (freeOthersD D σ'.tmps (creators ops m) = true /\ keptOk ops σ'.tmps A = true) /\ treeA P ops tr { σ' with boxes := σ'.boxes.set i0 c' } K /\ sgA P ops sg { σ' with boxes := σ'.boxes.set i0 c' } K) : DrawN P ops σ0 K := by
 intro G0 w0 G a w Q h0 hs0 hN hQ
 have hs := hs0.kept ph
 have hkf := fun i N => keptFree_mem hkf i N
 have hfree : freeAll { σ0 with boxes := σ0.boxes ++ anyB ph } (creators ops m) = true := freeAll_kept ph hfree
 have hall : ∀ N, noPbB N σ0.boxes = true -> noPbB N (σ0.boxes ++ anyB ph) = true := fun N hN => by rw [noPbB_app, hN, noPbB_any]; rfl
 obtain ⟨σ, hσ⟩ : ∃ σ : St, σ = { σ0 with boxes := σ0.boxes ++ anyB ph } := ⟨_, rfl⟩
 have hσb : σ.boxes = σ0.boxes ++ anyB ph := by rw [hσ]
 have hσt : σ.tmps = σ0.tmps := by rw [hσ]
 have hσn : σ.n = σ0.n := by rw [hσ]
 rw [<- hσ] at hs hfree
 have h : headF P ops σ.boxes.length i0 E LF A 0 (ops.toList.take m) { σ with boxes := σ.boxes.set i0 (blankC E c) } c fun σ' c' => (freeOthersD D σ'.tmps (creators ops m) = true /\ keptOk ops σ'.tmps A = true) /\ treeA P ops tr { σ' with boxes := σ'.boxes.set i0 c' } K /\ sgA P ops sg { σ' with boxes := σ'.boxes.set i0 c' } K := by
  rw [hσ]; exact h
 rw [<- hσb] at hc
 have hp := lateOk_plan hok
 simp only [effOk, Bool.and_eq_true, List.all_eq_true, decide_eq_true_eq, Bool.or_eq_true, Bool.not_eq_true', decide_eq_false_iff_not] at hE
 have hpE : PlanE ops m E := ⟨nodupE_spec hE.1.1, hE.1.2, fun e he e' he' hlt => (hE.2 e he e' he').resolve_left (fun hn => hn hlt)⟩
 obtain ⟨vs, C, hvl, hC0, hC, ⟨⟨hoth, hkp⟩, hK, hK2⟩, hst⟩ := headF_vals hpE.nodup _ _ _ _ _ h hnt hnv
 have hlen : (ops.toList.take m).length = m := by have := hp.le; simp; omega
 rw [hlen] at hvl
 have hcm : cntE E (0 + (ops.toList.take m).length) = E.length := by
  rw [hlen, Nat.zero_add]
  unfold cntE posE
  rw [List.filter_eq_self.2 fun e he => by simpa using hpE.lt e he]
 rw [hcm] at hK hK2
 have hst' : ∀ i o, i < m -> ops[i]? = some o -> ∃ d y, vs[i]? = some (d, y) /\ o.dst = some d /\ d < σ.n /\
   if i ∈ E then EffC P σ i0 o d (puts σ (vs.take i)).ev (C (E.filter fun e => decide (e < i)).length) y (C ((E.filter fun e => decide (e < i)).length + 1)) else if i ∈ LF then FrontC P o (puts σ (vs.take i)).ev y else match lookA A i with | some N => AllocP P σ.boxes o N y | none => StepG P ops o d (puts σ (vs.take i)) (σ.boxes.set i0 (blankC E (C 0))) y := fun i o hi ho => by
  obtain ⟨d, y, k1, k2, k3, k4⟩ := hst i o (by rw [List.getElem?_take, if_pos hi]; simpa using ho)
  refine ⟨d, y, k1, k2, k3, ?_⟩
  rw [Nat.zero_add] at k4
  split
  ·rename_i hiE
   rw [if_pos hiE, puts_ev] at k4
   unfold EffC at k4 ⊢
   simp only [List.length_replicate] at k4
   exact k4
  ·rename_i hiE
   rw [if_neg hiE] at k4
   rw [hC0 0 (Nat.zero_le _)]
   split
   ·rename_i hiL
    rw [if_pos hiL, puts_ev] at k4
    exact k4
   rename_i hiL
   rw [if_neg hiL] at k4
   cases hlA : lookA A i with
   | some N =>
    rw [hlA] at k4
    have hNi : i0 ≠ N := fun e => by have := (hkf i N hlA).1; omega
    obtain ⟨q1, q2, T, q, z, q3, q4, q5, q6, q7⟩ := k4
    simp only [List.getElem?_set_ne hNi] at q7
    exact ⟨q1, q2, T, q, z, q3, q4, q5, q6, q7⟩
   | none =>
   rw [hlA] at k4
   unfold StepG at k4 ⊢
   rw [puts_ev] at k4
   simp only [puts_get] at k4
   exact k4
 have hap : Apart vs := by
  intro i j d y d' y' h1 h2 hij
  have hil : i < m := by have := (List.getElem?_eq_some_iff.1 h1).1; omega
  have hjl : j < m := by have := (List.getElem?_eq_some_iff.1 h2).1; omega
  have hle := hp.le
  obtain ⟨oi, hoi⟩ : ∃ p, ops[i]? = some p := ⟨ops[i]'(by omega), by simp [show i < ops.size by omega]⟩
  obtain ⟨oj, hoj⟩ : ∃ p, ops[j]? = some p := ⟨ops[j]'(by omega), by simp [show j < ops.size by omega]⟩
  obtain ⟨_, _, k1, k2, _⟩ := hst' i oi hil hoi
  obtain ⟨_, _, k3, k4, _⟩ := hst' j oj hjl hoj
  rw [h1] at k1; cases k1
  rw [h2] at k3; cases k3
  obtain ⟨d1, e1, _, e2⟩ := hp.head j oj hoj hjl
  rw [k4] at e1; cases e1
  exact (e2 i oi d hil hij hoi k2).1
 have hs' := hs
 have hgd : ∀ i, (Array.replicate ops.size false).getD i false = false := fun i => by
  by_cases hi : i < ops.size <;> simp [hi]
 have hcrm : ∀ i o d, ops[i]? = some o -> i < m -> o.dst = some d -> creates o.op = true -> d ∈ creators ops m := fun i o d ho hi hd hcr => by
  unfold creators
  refine List.mem_filterMap.2 ⟨o, ?_, by rw [if_pos hcr]; exact hd⟩
  refine List.mem_of_getElem? (i := i) ?_
  rw [List.getElem?_take, if_pos hi]; simpa using ho
 have hset : ∀ c', (puts { σ with boxes := σ.boxes.set i0 (blankC E c) } vs).boxes.set i0 c' = σ.boxes.set i0 c' := fun c' => by rw [puts_boxes, List.set_set]
 refine head_runP (P := P) (A := A) hp hpE h0 hN hQ hvl hap (fun j => by rw [(hC j).1, (hC 0).1]) ?_ ?_ hst' (fun i N hi hlA => ⟨fun e => by have := (hkf i N hlA).1; omega, ?_, fun b hb e => ?_, fun j d' y hji hj => ?_, fun j => allLeafs_mono noVar_noPb _ (hC j).2.2⟩) (fun i o d ho hi hd hcr => ⟨fun j d' y hji hj => ?_, fun j => allLeafs_mono noTag_free _ (hC j).2.1⟩) ops.size (Array.replicate ops.size false) (List.range ops.size) σ G a _ ⟨by simp, List.nodup_range, fun i => ?_⟩ (by simp) (fun i _ => hgd i)
  (fun i o _ hi => absurd (show (Array.replicate ops.size false).getD i false = true from hi) (by rw [hgd]; simp)) ⟨rfl, ?_, fun i d y _ => by simp only [hgd]; simp, fun _ _ => rfl⟩ hs' (fun i o d ho hi hd hcr _ => freeAll_mem hfree d (hcrm i o d ho hi hd hcr)) (fun i N hi hlA _ _ _ => ⟨by rw [hσt]; exact (hkf i N hlA).2.1, by rw [hσb]; exact hall N (hkf i N hlA).2.2⟩)
 ·rw [hset] at hK
  rw [puts_eq] at hK ⊢
  exact hK
 ·rw [hset] at hK2
  rw [puts_eq] at hK2 ⊢
  exact hK2
 ·have := (hkf i N hlA).1
  cases hgh : G0.gh N with
  | none => rfl
  | some vs => have := hs0.boxes.low _ vs hgh; omega
 ·have h1 := hs0.stat b hb (fun t ht => by rw [e] at ht; cases ht)
  rw [e] at h1
  have := hs0.blt b N h1
  have := (hkf i N hlA).1
  omega
 ·obtain ⟨di, hdi, hbut⟩ := keptOk_mem hkp i N hlA
  obtain ⟨oi, hoi⟩ : ∃ p, ops[i]? = some p := ⟨ops[i]'(by have := hp.le; omega), by have := hp.le; simp [show i < ops.size by omega]⟩
  rw [hoi, Option.bind_some] at hdi
  obtain ⟨_, yi, k1, k2, _⟩ := hst' i oi hi hoi
  rw [hdi] at k2; cases k2
  have hne := hap i j di yi d' y k1 hj (Ne.symm hji)
  have hpa := puts_at m vs { σ with boxes := σ.boxes.set i0 (blankC E c) } hap
  rw [List.take_of_length_le (by omega)] at hpa
  have hjm : j < m := by have := (List.getElem?_eq_some_iff.1 hj).1; omega
  have hg := hpa.dst j d' y hj
  simp only [hjm, decide_true, if_true] at hg
  rw [<- hg]
  exact pbBut_look hbut d' (Ne.symm hne)
 ·have hb := freeOthersD_mem hoth d (hcrm i o d ho hi hd hcr)
  obtain ⟨oi, yi, k1, k2, _⟩ := hst' i o hi ho
  rw [hd] at k2; cases k2
  have hne := hap i j d yi d' y k1 hj (Ne.symm hji)
  have hpa := puts_at m vs { σ with boxes := σ.boxes.set i0 (blankC E c) } hap
  rw [List.take_of_length_le (by omega)] at hpa
  have hjm : j < m := by have := (List.getElem?_eq_some_iff.1 hj).1; omega
  have hg := hpa.dst j d' y hj
  simp only [hjm, decide_true, if_true] at hg
  rw [<- hg]
  rcases freeButD_look hb d' (Ne.symm hne) with h1 | h1
  ·obtain ⟨oj, hoj⟩ : ∃ p, ops[j]? = some p := ⟨ops[j]'(by have := hp.le; omega), by have := hp.le; simp [show j < ops.size by omega]⟩
   obtain ⟨_, yj, q1, q2, _⟩ := hst' j oj hjm hoj
   rw [hj] at q1; cases q1
   exact .inr (lateP_spec (lateD_has hD h1) hoj hjm q2 ho hi hd)
  ·exact .inl h1
 ·rw [List.mem_range, hgd]; simp
 ·have : posE E (fun i => (Array.replicate ops.size false).getD i false) = 0 := by
   unfold posE
   rw [List.filter_eq_nil_iff.2 fun e _ => by rw [hgd]; simp]; rfl
  rw [this, hC0 0 (Nat.zero_le _)]
  have hi := (List.getElem?_eq_some_iff.1 hc).1
  rw [<- (List.getElem?_eq_some_iff.1 hc).2, List.set_getElem_self]
end
def headZ (P : Program) (ops : Array Oper) (_n0 i0 : Nat) (_E _LF : List Nat) (A : List (Nat × Nat)) (D : List (Nat × Nat)) (ds : List Nat) (tr : Tr) (sg : Option (Nat × Tr)) (σ : St) (c : List AV) (K : St -> Prop) : Prop :=
 (freeOthersD D σ.tmps ds = true /\ keptOk ops σ.tmps A = true) /\ treeA P ops tr { σ with boxes := σ.boxes.set i0 c } K /\ sgA P ops sg { σ with boxes := σ.boxes.set i0 c } K
def headY (P : Program) (ops : Array Oper) (n0 i0 : Nat) (E LF : List Nat) (A : List (Nat × Nat)) (D : List (Nat × Nat)) (ds : List Nat) (tr : Tr) (sg : Option (Nat × Tr)) : Nat -> Nat -> List Oper -> St -> List AV -> (St -> Prop) -> Prop
 | _, 0, _, σ, c, K => headZ P ops n0 i0 E LF A D ds tr sg σ c K
 | _, _ + 1, [], σ, c, K => headZ P ops n0 i0 E LF A D ds tr sg σ c K
 | k, m + 1, o :: r, σ, c, K => if E.contains k = true then EffK P n0 i0 o σ c fun σ' c' => allLeafs noVar c' = true /\ headY P ops n0 i0 E LF A D ds tr sg (k + 1) m r σ' c' K else if LF.contains k = true then frB P o σ fun σ' => headY P ops n0 i0 E LF A D ds tr sg (k + 1) m r σ' c K else match lookA A k with
  | some N => AllocK P o N σ fun σ' => headY P ops n0 i0 E LF A D ds tr sg (k + 1) m r σ' c K
  | none => headG P ops o σ fun σ' => headY P ops n0 i0 E LF A D ds tr sg (k + 1) m r σ' c K
theorem headY_eq {P : Program} {ops : Array Oper} {n0 i0 : Nat} {E LF : List Nat} {A D : List (Nat × Nat)} {ds : List Nat} {tr : Tr} {sg : Option (Nat × Tr)} {K : St -> Prop} : ∀ (m k : Nat) (l : List Oper) (σ : St) (c : List AV), headY P ops n0 i0 E LF A D ds tr sg k m l σ c K =
  headF P ops n0 i0 E LF A k (l.take m) σ c fun σ' c' => headZ P ops n0 i0 E LF A D ds tr sg σ' c' K
 | 0, k, l, σ, c => by cases l <;> rfl
 | m + 1, k, [], σ, c => rfl
 | m + 1, k, o :: l, σ, c => by
  have ih : ∀ σ' c', headY P ops n0 i0 E LF A D ds tr sg (k + 1) m l σ' c' K = headF P ops n0 i0 E LF A (k + 1) (l.take m) σ' c' fun σ' c' => headZ P ops n0 i0 E LF A D ds tr sg σ' c' K := fun σ' c' => headY_eq m (k + 1) l σ' c'
  simp only [headY, List.take_succ_cons, headF, ih]
theorem DrawK.news0 {P : Program} {l : List Oper} {σ : St} {K : St -> Prop} (A : List (Nat × Nat)) (ph : List Nat) (D : List (Nat × Nat)) (i0 : Nat) (E LF : List Nat) (m : Nat) (tr : Tr) (sg : Option (Nat × Tr)) (c : List AV) (hm : P.follows .mixedOrders = true) (hok : lateOk l.toArray m E LF tr sg = true) (hE : effOk l.toArray m E = true) (hD : lateD l.toArray m D = true) (hc : (σ.boxes ++ anyB ph)[i0]? = some c) (hi0 : i0 < σ.boxes.length) (hnt : allLeafs noTag c = true /\ allLeafs noVar c = true)
  (hfree : freeAll σ (crs (l.take m)) = true /\ keptFree σ A = true)
  (h : headY P l.toArray (σ.boxes ++ anyB ph).length i0 E LF A D (crs (l.take m)) tr sg 0 m l ⟨σ.n, σ.tmps, (σ.boxes ++ anyB ph).set i0 (blankC E c)⟩ c K) : DrawK P l.toArray σ K :=
 DrawK.ofN hm (DrawN.effP A ph D i0 E LF m tr sg c hok hE hD hc hi0 hnt.1 hnt.2 (by rw [crs_creators]; exact hfree.1) hfree.2 (by rw [crs_creators]; rw [headY_eq] at h; exact h))
section
variable {P : Program} {n : Nat} {t : List (Nat × AV)} {b : List (List AV)} {ops : Array Oper} {n0 i0 k m : Nat} {E LF ds : List Nat} {A D : List (Nat × Nat)} {tr : Tr} {sg : Option (Nat × Tr)} {l : List Oper} {c : List AV} {K : St -> Prop}
variable {d : Nat} {T : TypeId} {pos : String} {af : Array Edge} {g : Option (Nat × Bool)}
@[congr] theorem headY_congr {n0' k' : Nat} {σ σ' : St} {c' : List AV} (h0 : n0 = n0') (h1 : k = k') (h : mkd σ = σ') (h2 : c = c') : headY P ops n0 i0 E LF A D ds tr sg k m l σ c K = headY P ops n0' i0 E LF A D ds tr sg k' m l σ' c' K := by subst_vars; rfl
def selN (o : Option Nat) (f : Nat -> Prop) (p : Prop) : Prop := match o with
 | some N => f N
 | none => p
@[congr] theorem selN_congr {o o' : Option Nat} {f : Nat -> Prop} {p : Prop} (h : o = o') : selN o f p = selN o' f p := by subst_vars; rfl
@[go_sem] theorem selN_some {N : Nat} {f : Nat -> Prop} {p : Prop} : selN (some N) f p = f N := rfl
@[go_sem] theorem selN_none {f : Nat -> Prop} {p : Prop} : selN none f p = p := rfl
@[go_sem] theorem headY_zero : headY P ops n0 i0 E LF A D ds tr sg k 0 l ⟨n, t, b⟩ c K = andK (freeOthersD D t ds = true) (andK (keptOk ops t A = true) (andK (treeA P ops tr ⟨n, t, b.set i0 c⟩ K) (sgA P ops sg ⟨n, t, b.set i0 c⟩ K))) := by
 cases l <;> (simp only [headY, headZ, andK]; exact propext and_assoc)
@[go_sem] theorem headY_succ {dst : Option Tmp} {op : Op} : headY P ops n0 i0 E LF A D ds tr sg k (m + 1) (⟨dst, op, T, pos, af, none⟩ :: l) ⟨n, t, b⟩ c K = selK (E.contains k) (EffK P n0 i0 ⟨dst, op, T, pos, af, none⟩ ⟨n, t, b⟩ c fun σ' c' => andK (allLeafs noVar c' = true) (headY P ops n0 i0 E LF A D ds tr sg (k + 1) m l σ' c' K))
  (selK (LF.contains k) (frB P ⟨dst, op, T, pos, af, none⟩ ⟨n, t, b⟩ fun σ' => headY P ops n0 i0 E LF A D ds tr sg (k + 1) m l σ' c K) (selN (lookA A k) (fun N => AllocK P ⟨dst, op, T, pos, af, none⟩ N ⟨n, t, b⟩ fun σ' => headY P ops n0 i0 E LF A D ds tr sg (k + 1) m l σ' c K) (headOp P ⟨dst, op, T, pos, af, none⟩ ⟨n, t, b⟩ fun σ' => headY P ops n0 i0 E LF A D ds tr sg (k + 1) m l σ' c K))) := by
 rw [selK_ite, selK_ite]
 show (if E.contains k = true then _ else if LF.contains k = true then _ else _) = _
 cases lookA A k <;> rfl
@[congr] theorem AllocK_congr {o : Oper} {N : Nat} {σ σ' : St} {K : St -> Prop} (h : mkd σ = σ') : AllocK P o N σ K = AllocK P o N σ' K := by subst_vars; rfl
@[go_sem] theorem AllocK_eq {N : Nat} : AllocK P ⟨some d, .alloc T, k, pos, af, none⟩ N ⟨n, t, b⟩ K = andK (d < n) (caseO (tinfo P T) fun q => caseO q.2.2 fun z => andK (zeroOk q.1 z = true) (caseO b[N]? fun cs => andK (cs = List.replicate q.1 .any) (K (St.put ⟨n, t, b⟩ (some d) (.pb N 0))))) := by
 unfold AllocK AllocP andK caseO
 apply propext
 constructor
 ·rintro ⟨d', hd, h1, ⟨_, _, T', q, z, h3, h4, h5, h6, h7⟩, h8⟩
  cases hd; cases h3
  exact ⟨h1, q, h4, z, h5, h6, _, h7, rfl, h8⟩
 ·rintro ⟨h1, q, h4, z, h5, h6, cs, h7, rfl, h8⟩
  exact ⟨d, rfl, h1, ⟨rfl, rfl, T, q, z, rfl, h4, h5, h6, h7⟩, h8⟩
attribute [go_sem] freeOthersD freeButD hasD lookA keptOk pbBut keptFree noPbT noPbB noPb noVar anyB
end
end Go.AM
namespace Go.AM
open Go Go.Proofs Go.RowKit
theorem Con.freezeB {P : Program} {f : FuncId} {args : List AV} {bx : List (List AV)} {post : AV -> List (List AV) -> Prop} (p : Nat -> Bool) (h : Con P f args bx post) : Con P f args bx fun r' b' => ∃ r b, post r b /\ r' = r.freeze p /\ b' = b.map fun cs => cs.map (AV.freeze p) :=
 ⟨h.1, fun G w vs h1 h2 h3 h4 h5 => (h.2 G w vs h1 h2 h3 h4 h5).mono fun e w' ⟨v, r, bx', G', he, hq, hr, hg, hbx, hlt, e1, e2, e3, e4, e5, e6⟩ => by
  have hbox : ∀ k i, freezeG p G' k = .box i ↔ G' k = .box i := fun k i => by
   unfold freezeG; split
   ·rename_i t ht; split <;> simp [ht]
   ·exact Iff.rfl
  refine ⟨v, _, bx'.map (fun cs => cs.map (AV.freeze p)), freezeG p G', he, ⟨r, bx', hq, rfl, rfl⟩, hr.freeze, hg.freeze, ⟨fun i vs hv => by simp [noGh] at hv, fun i cs hi => ?_⟩, fun k i hk => by simpa using hlt k i ((hbox k i).1 hk), e1, e2, e3, e4, fun k hk => ?_, e6⟩
  ·rw [List.getElem?_map] at hi
   cases hc : bx'[i]? with
   | none => simp [hc] at hi
   | some cs' =>
    simp [hc] at hi; subst hi
    exact (hbx.cell i cs' hc).map (fun x v hr => hr.freeze) (fun k hk => ⟨(hbox k i).2 hk, rfl⟩) fun h0 k hk => h0 k ((hbox k i).1 hk)
  ·have := e5 k hk
   unfold freezeG
   split
   ·rename_i t ht; rw [this] at ht; exact absurd ht (h2 k t)
   ·exact this⟩
def kidN (n : Int) : AV := .ag [vi n, .nil]
def cfgN (t s : Nat) (v : List Int) : AV := .ag [vi 0, .sl t 2 (((s : Int) :: v).map kidN)]
attribute [go_sem] kidN cfgN
end Go.AM
namespace Go.AM
structure TmD where
 star : Bool
 ls : List Int
deriving DecidableEq, Inhabited
def ascI : List Int -> Bool
 | x :: y :: l => decide (x < y) && ascI (y :: l)
 | _ => true
structure TmD.Ok (t : TmD) : Prop where
 one : t.star = false -> ∃ x, t.ls = [x]
 asc : ascI t.ls = true
def OkP (p : List TmD) : Prop := ∀ t ∈ p, t.Ok
def memP : List TmD -> List Int -> Bool
 | _, [] => true
 | [], _ :: _ => false
 | u :: q, x :: w => if x ∈ u.ls then (if u.star then memP (u :: q) w else memP q w) else memP q (x :: w)
termination_by p w => p.length + w.length
def witT (t u : TmD) : Bool := if u.star then t.ls.all (fun x => decide (x ∈ u.ls)) else t.ls.isEmpty || (!t.star && t.ls.head? == u.ls.head?)
def leqP : List TmD -> List TmD -> Bool
 | [], _ => true
 | t :: p, [] => t.ls.isEmpty && leqP p []
 | t :: p, u :: q => if t.ls.isEmpty then leqP p (u :: q) else if !witT t u then leqP (t :: p) q else if u.star then leqP p (u :: q) else leqP p q
termination_by p q => p.length + q.length
theorem memP_nil (p : List TmD) : memP p [] = true := by unfold memP; cases p <;> rfl
theorem memP_none (x : Int) (w : List Int) : memP [] (x :: w) = false := by rw [memP]
theorem memP_cons (u : TmD) (q : List TmD) (x : Int) (w : List Int) : memP (u :: q) (x :: w) = if x ∈ u.ls then (if u.star then memP (u :: q) w else memP q w) else memP q (x :: w) := by rw [memP]
theorem memP_front : ∀ (n : Nat) (p : List TmD) (w : List Int), p.length + w.length <= n -> (∀ x, memP p (x :: w) = true -> memP p w = true) /\ ∀ u, memP p w = true -> memP (u :: p) w = true
 | 0, p, w, h => by
  have : p = [] := List.length_eq_zero_iff.1 (by omega)
  subst this
  have : w = [] := List.length_eq_zero_iff.1 (by simpa using h)
  subst this
  exact ⟨fun x _ => memP_nil _, fun u _ => memP_nil _⟩
 | n + 1, p, w, h => by
  have h1 : ∀ x, memP p (x :: w) = true -> memP p w = true := by
   intro x hx
   match p, h, hx with
   | [], _, hx => rw [memP_none] at hx; cases hx
   | u :: q, h, hx =>
    simp only [List.length_cons] at h
    rw [memP_cons] at hx
    split at hx
    ·split at hx
     ·exact hx
     ·exact (memP_front n q w (by omega)).2 u hx
    ·exact (memP_front n q w (by omega)).2 u ((memP_front n q w (by omega)).1 x hx)
  refine ⟨h1, fun u hp => ?_⟩
  match w, h, hp with
  | [], _, _ => exact memP_nil _
  | x :: w, h, hp =>
   simp only [List.length_cons] at h
   rw [memP_cons]
   have hd := (memP_front n p w (by omega)).1 x hp
   split
   ·split
    ·exact (memP_front n p w (by omega)).2 u hd
    ·exact hd
   ·exact hp
theorem memP_drop {p : List TmD} {x : Int} {w : List Int} (h : memP p (x :: w) = true) : memP p w = true := (memP_front _ p w (Nat.le_refl _)).1 x h
theorem memP_put {p : List TmD} (u : TmD) {w : List Int} (h : memP p w = true) : memP (u :: p) w = true := (memP_front _ p w (Nat.le_refl _)).2 u h
theorem memP_empty {t : TmD} (h : t.ls = []) (p : List TmD) : ∀ w, memP (t :: p) w = memP p w
 | [] => by rw [memP_nil, memP_nil]
 | x :: w => by rw [memP_cons, h, if_neg (by simp)]
theorem memP_in {t : TmD} {x : Int} (hx : x ∈ t.ls) (hs : t.star = true) (p : List TmD) (w : List Int) : memP (t :: p) (x :: w) = memP (t :: p) w := by
 rw [memP_cons, if_pos hx, if_pos hs]
theorem memP_one {t : TmD} {x : Int} (hx : x ∈ t.ls) (hs : t.star = false) (p : List TmD) (w : List Int) : memP (t :: p) (x :: w) = memP p w := by
 rw [memP_cons, if_pos hx, if_neg (by simp [hs])]
theorem memP_out {t : TmD} {x : Int} (hx : x ∉ t.ls) (p : List TmD) (w : List Int) : memP (t :: p) (x :: w) = memP p (x :: w) := by
 rw [memP_cons, if_neg hx]
theorem wit_star {t u : TmD} (h : u.star = true) : witT t u = true ↔ ∀ x ∈ t.ls, x ∈ u.ls := by
 unfold witT; rw [if_pos h, List.all_eq_true]
 constructor
 ·intro h x hx; exact of_decide_eq_true (h x hx)
 ·intro h x hx; exact decide_eq_true (h x hx)
theorem wit_one {t u : TmD} {y : Int} (h : u.star = false) (hu : u.ls = [y]) (ht : t.Ok) (hn : t.ls ≠ []) : witT t u = true ↔ t.star = false /\ t.ls = [y] := by
 unfold witT
 rw [if_neg (by simp [h]), hu]
 cases hl : t.ls with
 | nil => exact absurd hl hn
 | cons x l =>
  simp only [List.isEmpty_cons, Bool.false_or, Bool.and_eq_true, Bool.not_eq_true', List.head?_cons, beq_iff_eq, Option.some.injEq]
  constructor
  ·rintro ⟨h1, h2⟩
   obtain ⟨z, hz⟩ := ht.one h1
   rw [hl] at hz
   injection hz with e1 e2
   subst e2
   exact ⟨h1, by rw [h2]⟩
  ·rintro ⟨h1, h2⟩
   injection h2 with e1 e2
   exact ⟨h1, e1⟩
theorem leqP_nil (q : List TmD) : leqP [] q = true := by rw [leqP]
theorem leqP_none (t : TmD) (p : List TmD) : leqP (t :: p) [] = (t.ls.isEmpty && leqP p []) := by rw [leqP]
theorem leqP_cons (t u : TmD) (p q : List TmD) : leqP (t :: p) (u :: q) = if t.ls.isEmpty then leqP p (u :: q) else if !witT t u then leqP (t :: p) q else if u.star then leqP p (u :: q) else leqP p q := by rw [leqP]
theorem OkP.tail {t : TmD} {p : List TmD} (h : OkP (t :: p)) : OkP p := fun x hx => h x (by simp [hx])
theorem OkP.head {t : TmD} {p : List TmD} (h : OkP (t :: p)) : t.Ok := h t (by simp)
theorem nil_iff {l : List Int} : l.isEmpty = true ↔ l = [] := List.isEmpty_iff
theorem mem_absorb {t u : TmD} {p q : List TmD} (hw : ∀ x ∈ t.ls, x ∈ u.ls) (hs : u.star = true) (h : ∀ w, memP p w = true -> memP (u :: q) w = true) : ∀ w, memP (t :: p) w = true -> memP (u :: q) w = true
 | [], _ => memP_nil _
 | x :: w, hm => by
  by_cases hx : x ∈ t.ls
  ·rw [memP_in (hw x hx) hs]
   by_cases ht : t.star = true
   ·rw [memP_in hx ht] at hm
    exact mem_absorb hw hs h w hm
   ·rw [memP_one hx (by simpa using ht)] at hm
    exact h w hm
  ·rw [memP_out hx] at hm
   exact h _ hm
theorem leq_sound : ∀ (n : Nat) (p q : List TmD), p.length + q.length <= n -> OkP p -> OkP q -> leqP p q = true -> ∀ w, memP p w = true -> memP q w = true
 | _, [], q, _, _, _, _, w, hw => by
  cases w with
  | nil => exact memP_nil _
  | cons x w => rw [memP_none] at hw; cases hw
 | 0, _ :: _, _, h, _, _, _, _, _ => by simp only [List.length_cons] at h; omega
 | n + 1, t :: p, [], h, hp, hq, hl, w, hw => by
  rw [leqP_none, Bool.and_eq_true, nil_iff] at hl
  rw [memP_empty hl.1] at hw
  simp only [List.length_cons] at h
  exact leq_sound n p [] (by omega) hp.tail hq hl.2 w hw
 | n + 1, t :: p, u :: q, h, hp, hq, hl, w, hw => by
  simp only [List.length_cons] at h
  rw [leqP_cons] at hl
  by_cases h1 : t.ls = []
  ·rw [if_pos (nil_iff.2 h1)] at hl
   rw [memP_empty h1] at hw
   exact leq_sound n p (u :: q) (by simp only [List.length_cons]; omega) hp.tail hq hl w hw
  rw [if_neg (by simpa [nil_iff] using h1)] at hl
  cases h2 : witT t u with
  | false =>
   rw [h2, if_pos (show (!false) = true from rfl)] at hl
   exact memP_put u (leq_sound n (t :: p) q (by simp only [List.length_cons]; omega) hp hq.tail hl w hw)
  | true =>
   rw [h2, if_neg (by simp)] at hl
   by_cases h3 : u.star = true
   ·rw [if_pos h3] at hl
    exact mem_absorb ((wit_star h3).1 h2) h3 (leq_sound n p (u :: q) (by simp only [List.length_cons]; omega) hp.tail hq hl) w hw
   ·rw [if_neg h3] at hl
    have h3 : u.star = false := by simpa using h3
    obtain ⟨y, hy⟩ := hq.head.one h3
    obtain ⟨h4, h5⟩ := (wit_one h3 hy hp.head h1).1 h2
    have ih := leq_sound n p q (by omega) hp.tail hq.tail hl
    cases w with
    | nil => exact memP_nil _
    | cons x w =>
     by_cases hx : x = y
     ·subst hx
      rw [memP_one (by rw [h5]; simp) h4] at hw
      rw [memP_one (by rw [hy]; simp) h3]
      exact ih w hw
     ·rw [memP_out (by rw [h5]; simpa using hx)] at hw
      rw [memP_out (by rw [hy]; simpa using hx)]
      exact ih _ hw
theorem leq_witness : ∀ (n : Nat) (p q : List TmD), p.length + q.length <= n -> OkP p -> OkP q -> leqP p q = false -> ∃ w, memP p w = true /\ memP q w = false
 | _, [], q, _, _, _, h => by rw [leqP_nil] at h; cases h
 | 0, _ :: _, _, h, _, _, _ => by simp only [List.length_cons] at h; omega
 | n + 1, t :: p, [], h, hp, hq, hl => by
  simp only [List.length_cons] at h
  rw [leqP_none] at hl
  cases hls : t.ls with
  | nil =>
   rw [hls] at hl
   obtain ⟨w, h1, h2⟩ := leq_witness n p [] (by omega) hp.tail hq (by simpa using hl)
   exact ⟨w, by rw [memP_empty hls]; exact h1, h2⟩
  | cons x l =>
   refine ⟨[x], ?_, memP_none _ _⟩
   have hx : x ∈ t.ls := by rw [hls]; simp
   by_cases hs : t.star = true
   ·rw [memP_in hx hs, memP_nil]
   ·rw [memP_one hx (by simpa using hs), memP_nil]
 | n + 1, t :: p, u :: q, h, hp, hq, hl => by
  simp only [List.length_cons] at h
  rw [leqP_cons] at hl
  by_cases h1 : t.ls = []
  ·rw [if_pos (nil_iff.2 h1)] at hl
   obtain ⟨w, h2, h3⟩ := leq_witness n p (u :: q) (by simp only [List.length_cons]; omega) hp.tail hq hl
   exact ⟨w, by rw [memP_empty h1]; exact h2, h3⟩
  rw [if_neg (by simpa [nil_iff] using h1)] at hl
  cases h2 : witT t u with
  | false =>
   rw [h2, if_pos (show (!false) = true from rfl)] at hl
   obtain ⟨w, h3, h4⟩ := leq_witness n (t :: p) q (by simp only [List.length_cons]; omega) hp hq.tail hl
   by_cases hts : t.star = true
   ·-- any letter of the star goes in front, one that the other has not if there is one
    have key : ∀ x ∈ t.ls, (u.star = true -> x ∉ u.ls) -> ∃ w, memP (t :: p) w = true /\ memP (u :: q) w = false := by
     intro x hx hxu
     refine ⟨x :: w, by rw [memP_in hx hts]; exact h3, ?_⟩
     by_cases hxu2 : x ∈ u.ls
     ·have hus : u.star = false := by
       cases hb : u.star with
       | true => exact absurd hxu2 (hxu hb)
       | false => rfl
      rw [memP_one hxu2 hus]; exact h4
     ·rw [memP_out hxu2]
      cases hb : memP q (x :: w) with
      | true => rw [memP_drop hb] at h4; cases h4
      | false => rfl
    by_cases hus : u.star = true
    ·have : ¬ ∀ x ∈ t.ls, x ∈ u.ls := fun hh => by rw [(wit_star hus).2 hh] at h2; cases h2
     obtain ⟨x, hx⟩ := Classical.not_forall.1 this
     obtain ⟨hx1, hx2⟩ := Classical.not_imp.1 hx
     exact key x hx1 fun _ => hx2
    ·cases hls : t.ls with
     | nil => exact absurd hls h1
     | cons x l => exact key x (by rw [hls]; simp) fun h => absurd h hus
   ·have hts : t.star = false := by simpa using hts
    obtain ⟨x, hx⟩ := hp.head.one hts
    have hxm : x ∈ t.ls := by rw [hx]; simp
    have hxu : x ∉ u.ls := by
     intro hxu
     by_cases hus : u.star = true
     ·have : witT t u = true := (wit_star hus).2 (by rw [hx]; intro y hy; rw [List.mem_singleton] at hy; subst hy; exact hxu)
      rw [this] at h2; cases h2
     ·have hus : u.star = false := by simpa using hus
      obtain ⟨y, hy⟩ := hq.head.one hus
      rw [hy, List.mem_singleton] at hxu
      have : witT t u = true := (wit_one hus hy hp.head h1).2 ⟨hts, by rw [hx, hxu]⟩
      rw [this] at h2; cases h2
    have key : ∀ w, memP p w = true -> memP q (x :: w) = false -> ∃ w, memP (t :: p) w = true /\ memP (u :: q) w = false := fun w ha hb =>
     ⟨x :: w, by rw [memP_one hxm hts]; exact ha, by rw [memP_out hxu]; exact hb⟩
    cases w with
    | nil => rw [memP_nil] at h4; cases h4
    | cons z w =>
     by_cases hz : z = x
     ·subst hz
      rw [memP_one hxm hts] at h3
      exact key w h3 h4
     ·rw [memP_out (by rw [hx]; simpa using hz)] at h3
      refine key (z :: w) h3 ?_
      cases hb : memP q (x :: z :: w) with
      | true => rw [memP_drop hb] at h4; cases h4
      | false => rfl
  | true =>
   rw [h2, if_neg (by simp)] at hl
   by_cases h3 : u.star = true
   ·rw [if_pos h3] at hl
    obtain ⟨w, h4, h5⟩ := leq_witness n p (u :: q) (by simp only [List.length_cons]; omega) hp.tail hq hl
    exact ⟨w, memP_put t h4, h5⟩
   ·rw [if_neg h3] at hl
    have h3 : u.star = false := by simpa using h3
    obtain ⟨y, hy⟩ := hq.head.one h3
    obtain ⟨h4, h5⟩ := (wit_one h3 hy hp.head h1).1 h2
    obtain ⟨w, h6, h7⟩ := leq_witness n p q (by omega) hp.tail hq.tail hl
    exact ⟨y :: w, by rw [memP_one (by rw [h5]; simp) h4]; exact h6, by rw [memP_one (by rw [hy]; simp) h3]; exact h7⟩
theorem leq_iff {p q : List TmD} (hp : OkP p) (hq : OkP q) : leqP p q = true ↔ ∀ w, memP p w = true -> memP q w = true := by
 constructor
 ·exact leq_sound _ p q (Nat.le_refl _) hp hq
 ·intro h
  cases hl : leqP p q with
  | true => rfl
  | false =>
   obtain ⟨w, h1, h2⟩ := leq_witness _ p q (Nat.le_refl _) hp hq hl
   rw [h w h1] at h2; cases h2
theorem leq_refl {p : List TmD} (hp : OkP p) : leqP p p = true := (leq_iff hp hp).2 fun _ h => h
theorem leq_trans {p q r : List TmD} (hp : OkP p) (hq : OkP q) (hr : OkP r) (h1 : leqP p q = true) (h2 : leqP q r = true) : leqP p r = true :=
 (leq_iff hp hr).2 fun w hw => (leq_iff hq hr).1 h2 w ((leq_iff hp hq).1 h1 w hw)
def adjT (t u : TmD) : Prop := ¬ (u.star = true /\ witT t u = true) /\ ¬ (t.star = true /\ witT u t = true)
def redP : List TmD -> Prop
 | [] => True
 | [t] => t.ls ≠ []
 | t :: u :: p => t.ls ≠ [] /\ adjT t u /\ redP (u :: p)
theorem redP.head {t : TmD} {p : List TmD} (h : redP (t :: p)) : t.ls ≠ [] := by
 cases p with
 | nil => exact h
 | cons u p => exact h.1
theorem redP.tail {t : TmD} {p : List TmD} (h : redP (t :: p)) : redP p := by
 cases p with
 | nil => trivial
 | cons u p => exact h.2.2
theorem red_init : ∀ {a : List TmD} {u : TmD}, redP (a ++ [u]) -> redP a
 | [], _, _ => trivial
 | [_], _, h => h.1
 | _ :: v :: a, _, h => ⟨h.1, h.2.1, red_init (a := v :: a) h.2.2⟩
theorem red_snoc : ∀ {a : List TmD} {u t : TmD}, redP (a ++ [u]) -> adjT u t -> t.ls ≠ [] -> redP (a ++ [u, t])
 | [], _, _, h, h1, h2 => ⟨h, h1, h2⟩
 | [_], _, _, h, h1, h2 => ⟨h.1, h.2.1, h.2.2, h1, h2⟩
 | _ :: x :: a, _, _, h, h1, h2 => ⟨h.1, h.2.1, red_snoc (a := x :: a) h.2.2 h1 h2⟩
theorem red_one {t : TmD} (h : t.ls ≠ []) : redP ([] ++ [t]) := h
theorem mem_congr {p q : List TmD} (h : ∀ w, memP p w = true -> memP q w = true) (t : TmD) : ∀ w, memP (t :: p) w = true -> memP (t :: q) w = true
 | [], _ => memP_nil _
 | x :: w, hm => by
  rw [memP_cons] at hm ⊢
  split at hm
  ·rename_i hx
   rw [if_pos hx]
   split at hm
   ·rename_i hs
    rw [if_pos hs]; exact mem_congr h t w hm
   ·rename_i hs
    rw [if_neg hs]; exact h w hm
  ·rename_i hx
   rw [if_neg hx]; exact h _ hm
def EqP (p q : List TmD) : Prop := ∀ w, memP p w = memP q w
theorem EqP.refl (p : List TmD) : EqP p p := fun _ => rfl
theorem EqP.symm {p q : List TmD} (h : EqP p q) : EqP q p := fun w => (h w).symm
theorem EqP.trans {p q r : List TmD} (h : EqP p q) (h' : EqP q r) : EqP p r := fun w => (h w).trans (h' w)
theorem eqP_of {p q : List TmD} (h1 : ∀ w, memP p w = true -> memP q w = true) (h2 : ∀ w, memP q w = true -> memP p w = true) : EqP p q := fun w => by
 rw [Bool.eq_iff_iff]; exact ⟨h1 w, h2 w⟩
theorem EqP.cons {p q : List TmD} (h : EqP p q) (t : TmD) : EqP (t :: p) (t :: q) :=
 eqP_of (mem_congr (fun w hw => by rw [<- h w]; exact hw) t) (mem_congr (fun w hw => by rw [h w]; exact hw) t)
theorem EqP.app {p q : List TmD} (h : EqP p q) : ∀ a : List TmD, EqP (a ++ p) (a ++ q)
 | [] => h
 | t :: a => (EqP.app h a).cons t
theorem eq_empty {t : TmD} (h : t.ls = []) (p : List TmD) : EqP (t :: p) p := memP_empty h p
theorem eq_next {t u : TmD} (hs : u.star = true) (hw : witT t u = true) (p : List TmD) : EqP (t :: u :: p) (u :: p) :=
 eqP_of (mem_absorb ((wit_star hs).1 hw) hs fun _ h => h) (fun _ h => memP_put t h)
theorem eq_prev {t u : TmD} (hs : u.star = true) (hw : witT t u = true) (p : List TmD) : EqP (u :: t :: p) (u :: p) := by
 have hin := (wit_star hs).1 hw
 refine eqP_of ?_ (mem_congr (fun _ h => memP_put t h) u)
 intro w
 induction w with
 | nil => intro _; exact memP_nil _
 | cons x w ih =>
  intro hm
  by_cases hx : x ∈ u.ls
  ·rw [memP_in hx hs] at hm ⊢; exact ih hm
  ·rw [memP_out hx] at hm ⊢
   rw [memP_out (fun h => hx (hin x h))] at hm
   exact hm
def idleP (p : List TmD) (i : Nat) : Bool :=
 p[i]!.ls.isEmpty || (decide (0 < i) && (p[i - 1]!.star && witT p[i]! p[i - 1]!)) || (decide (i + 1 < p.length) && (p[i + 1]!.star && witT p[i]! p[i + 1]!))
theorem idle_tail {t : TmD} {p : List TmD} {i : Nat} (h : idleP p i = true) : idleP (t :: p) (i + 1) = true := by
 unfold idleP at h ⊢
 simp only [Bool.or_eq_true, Bool.and_eq_true, decide_eq_true_eq] at h ⊢
 rcases h with (h | h) | h
 ·exact .inl (.inl h)
 ·obtain ⟨j, rfl⟩ : ∃ j, i = j + 1 := ⟨i - 1, by omega⟩
  exact .inl (.inr ⟨by omega, h.2⟩)
 ·exact .inr ⟨by simp only [List.length_cons]; omega, h.2⟩
theorem red_of : ∀ {p : List TmD}, (∀ i, i < p.length -> idleP p i = false) -> redP p
 | [], _ => trivial
 | [t], h => by
  have := h 0 (by simp)
  intro hn
  unfold idleP at this
  simp [hn] at this
 | t :: u :: p, h => by
  have h0 := h 0 (by simp)
  have h1 := h 1 (by simp)
  have ht : redP (u :: p) := red_of fun i hi => by
   cases hb : idleP (u :: p) i with
   | false => rfl
   | true => rw [<- h (i + 1) (by simp only [List.length_cons] at hi ⊢; omega)]; exact (idle_tail hb).symm
  refine ⟨fun hn => ?_, ⟨fun hn => ?_, fun hn => ?_⟩, ht⟩
  ·unfold idleP at h0; simp [hn] at h0
  ·unfold idleP at h0; simp [hn.1, hn.2] at h0
  ·unfold idleP at h1; simp [hn.1, hn.2] at h1
theorem idle_eq : ∀ {p : List TmD} {i : Nat}, i < p.length -> idleP p i = true -> EqP p (p.eraseIdx i)
 | [], _, h, _ => by simp at h
 | [t], 0, _, hi => by
  unfold idleP at hi
  simp at hi
  exact eq_empty hi []
 | [t], i + 1, h, _ => by simp at h
 | t :: u :: p, 0, _, hi => by
  unfold idleP at hi
  simp at hi
  rcases hi with hi | hi
  ·exact eq_empty hi _
  ·exact eq_next hi.1 hi.2 p
 | t :: u :: p, i + 1, h, hi => by
  have key : idleP (u :: p) i = true -> EqP (t :: u :: p) ((t :: u :: p).eraseIdx (i + 1)) := fun hk => by
   show EqP (t :: u :: p) (t :: (u :: p).eraseIdx i)
   exact (idle_eq (by simpa using h) hk).cons t
  unfold idleP at hi
  simp only [Bool.or_eq_true, Bool.and_eq_true, decide_eq_true_eq] at hi
  rcases hi with (hi | hi) | hi
  ·refine key ?_
   unfold idleP
   simp only [Bool.or_eq_true, Bool.and_eq_true, decide_eq_true_eq]
   exact .inl (.inl hi)
  ·cases i with
   | zero => exact eq_prev hi.2.1 hi.2.2 p
   | succ j =>
    refine key ?_
    unfold idleP
    simp only [Bool.or_eq_true, Bool.and_eq_true, decide_eq_true_eq]
    exact .inl (.inr ⟨by omega, hi.2⟩)
  ·refine key ?_
   unfold idleP
   simp only [Bool.or_eq_true, Bool.and_eq_true, decide_eq_true_eq]
   exact .inr ⟨by simpa using hi.1, hi.2⟩
def normN : Nat -> List TmD -> List TmD
 | 0, p => p
 | n + 1, p => match (List.range p.length).find? (idleP p) with
  | none => p
  | some i => normN n (p.eraseIdx i)
def normP (p : List TmD) : List TmD := normN p.length p
theorem okP_erase {p : List TmD} {i : Nat} (h : OkP p) : OkP (p.eraseIdx i) := fun t ht => h t (List.mem_of_mem_eraseIdx ht)
theorem normN_ok : ∀ (n : Nat) (p : List TmD), OkP p -> OkP (normN n p)
 | 0, _, h => h
 | n + 1, p, h => by
  rw [normN]
  split
  ·exact h
  ·exact normN_ok n _ (okP_erase h)
theorem normN_eq : ∀ (n : Nat) (p : List TmD), EqP p (normN n p)
 | 0, p => .refl p
 | n + 1, p => by
  rw [normN]
  split
  ·exact .refl p
  ·rename_i i hi
   have h1 := List.find?_some hi
   have h2 := List.mem_range.1 (List.mem_of_find?_eq_some hi)
   exact (idle_eq h2 h1).trans (normN_eq n _)
theorem normN_red : ∀ (n : Nat) (p : List TmD), p.length <= n -> redP (normN n p)
 | 0, p, h => by
  have : p = [] := List.length_eq_zero_iff.1 (by omega)
  subst this; trivial
 | n + 1, p, h => by
  rw [normN]
  split
  ·rename_i hn
   refine red_of fun i hi => ?_
   have := List.find?_eq_none.1 hn i (List.mem_range.2 hi)
   simpa using this
  ·rename_i i hi
   have h2 := List.mem_range.1 (List.mem_of_find?_eq_some hi)
   exact normN_red n _ (by rw [List.length_eraseIdx_of_lt h2]; omega)
theorem normN_len : ∀ (n : Nat) (p : List TmD), (normN n p).length <= p.length
 | 0, p => Nat.le_refl _
 | n + 1, p => by
  rw [normN]
  split
  ·exact Nat.le_refl _
  ·exact Nat.le_trans (normN_len n _) (List.length_eraseIdx_le _ _)
theorem normP_ok {p : List TmD} (h : OkP p) : OkP (normP p) := normN_ok _ p h
theorem normP_eq (p : List TmD) : EqP p (normP p) := normN_eq _ p
theorem normP_red (p : List TmD) : redP (normP p) := normN_red _ p (Nat.le_refl _)
theorem normP_len (p : List TmD) : (normP p).length <= p.length := normN_len _ p
theorem red_suffix : ∀ (n : Nat) (q : List TmD) (u : TmD) (s a : List TmD), q.length <= n -> q = a ++ s -> redP (u :: q) -> OkP (u :: q) -> leqP (u :: q) s = false
 | n, q, u, [], a, _, _, hr, _ => by
  rw [leqP_none]
  have := hr.head
  cases h : u.ls with
  | nil => exact absurd h this
  | cons x l => rfl
 | 0, q, u, v :: s, a, hn, hq, _, _ => by
  subst hq
  simp only [List.length_append, List.length_cons] at hn
  omega
 | n + 1, q, u, v :: s, a, hn, hq, hr, hok => by
  have hvq : v ∈ q := by rw [hq]; simp
  rw [leqP_cons, if_neg (by rw [nil_iff]; exact hr.head)]
  cases hw : witT u v with
  | false =>
   rw [if_pos (show (!false) = true from rfl)]
   exact red_suffix (n + 1) q u s (a ++ [v]) hn (by rw [hq]; simp) hr hok
  | true =>
   rw [if_neg (by simp)]
   by_cases hs : v.star = true
   ·rw [if_pos hs]
    cases a with
    | nil =>
     subst hq
     exact absurd ⟨hs, hw⟩ hr.2.1.1
    | cons c a =>
     subst hq
     simp only [List.cons_append, List.length_cons] at hn
     exact red_suffix n (a ++ v :: s) c (v :: s) a (by omega) rfl hr.tail hok.tail
   ·rw [if_neg hs]
    cases a with
    | nil =>
     subst hq
     simp only [List.nil_append, List.length_cons] at hn
     exact red_suffix n s v s [] (by omega) rfl hr.tail hok.tail
    | cons c a =>
     subst hq
     simp only [List.cons_append, List.length_cons] at hn
     exact red_suffix n (a ++ v :: s) c s (a ++ [v]) (by omega) (by simp) hr.tail hok.tail
termination_by n _q _u s => (n, s.length)
theorem asc_lt : ∀ {x : Int} {l : List Int}, ascI (x :: l) = true -> (∀ y ∈ l, x < y) /\ ascI l = true
 | x, [], _ => ⟨fun y hy => absurd hy (by simp), rfl⟩
 | x, z :: l, h => by
  rw [ascI, Bool.and_eq_true, decide_eq_true_eq] at h
  obtain ⟨a, b⟩ := asc_lt h.2
  refine ⟨fun y hy => ?_, h.2⟩
  rcases List.mem_cons.1 hy with rfl | hy
  ·exact h.1
  ·have := a y hy; omega
theorem asc_same : ∀ {a b : List Int}, ascI a = true -> ascI b = true -> (∀ x ∈ a, x ∈ b) -> (∀ x ∈ b, x ∈ a) -> a = b
 | [], [], _, _, _, _ => rfl
 | [], y :: b, _, _, _, h => by have := h y (by simp); cases this
 | x :: a, [], _, _, h, _ => by have := h x (by simp); cases this
 | x :: a, y :: b, ha, hb, h1, h2 => by
  obtain ⟨a1, a2⟩ := asc_lt ha
  obtain ⟨b1, b2⟩ := asc_lt hb
  have e : x = y := by
   rcases List.mem_cons.1 (h1 x (by simp)) with e | hx
   ·exact e
   ·rcases List.mem_cons.1 (h2 y (by simp)) with e | hy
    ·exact e.symm
    ·have := b1 x hx; have := a1 y hy; omega
  subst e
  have key : ∀ {c d : List Int}, (∀ y ∈ c, x < y) -> (∀ z ∈ x :: c, z ∈ x :: d) -> ∀ z ∈ c, z ∈ d := by
   intro c d hc hcd z hz
   rcases List.mem_cons.1 (hcd z (by simp [hz])) with e | h
   ·have := hc z hz; omega
   ·exact h
  rw [asc_same a2 b2 (key a1 h1) (key b1 h2)]
theorem wit_same {t u : TmD} (ht : t.Ok) (hu : u.Ok) (htn : t.ls ≠ []) (hun : u.ls ≠ []) (h1 : witT t u = true) (h2 : witT u t = true) : t = u := by
 cases hts : t.star with
 | true =>
  cases hus : u.star with
  | true =>
   have := asc_same ht.asc hu.asc ((wit_star hus).1 h1) ((wit_star hts).1 h2)
   cases t; cases u; simp_all
  | false =>
   obtain ⟨y, hy⟩ := hu.one hus
   have := ((wit_one hus hy ht htn).1 h1).1
   rw [hts] at this; cases this
 | false =>
  obtain ⟨y, hy⟩ := ht.one hts
  obtain ⟨h3, h4⟩ := (wit_one hts hy hu hun).1 h2
  cases t; cases u; simp_all
theorem red_unique : ∀ (p q : List TmD), OkP p -> OkP q -> redP p -> redP q -> leqP p q = true -> leqP q p = true -> p = q
 | [], [], _, _, _, _, _, _ => rfl
 | [], u :: q, _, _, _, hr, _, h => by
  rw [leqP_none, Bool.and_eq_true, nil_iff] at h
  exact absurd h.1 hr.head
 | t :: p, [], _, _, hr, _, h, _ => by
  rw [leqP_none, Bool.and_eq_true, nil_iff] at h
  exact absurd h.1 hr.head
 | t :: p, u :: q, hp, hq, hrp, hrq, h1, h2 => by
  have key : ∀ (t u : TmD) (p q : List TmD), OkP (t :: p) -> OkP (u :: q) -> redP (t :: p) -> redP (u :: q) -> leqP (t :: p) (u :: q) = true -> leqP (u :: q) (t :: p) = true -> witT t u = true := by
   intro t u p q hp hq hrp hrq h1 h2
   cases hw : witT t u with
   | true => rfl
   | false =>
    rw [leqP_cons, if_neg (by rw [nil_iff]; exact hrp.head), hw, if_pos (show (!false) = true from rfl)] at h1
    have := leq_trans hq hp hq.tail h2 h1
    rw [red_suffix _ q u q [] (Nat.le_refl _) rfl hrq hq] at this
    cases this
  have w1 := key t u p q hp hq hrp hrq h1 h2
  have w2 := key u t q p hq hp hrq hrp h2 h1
  have e := wit_same hp.head hq.head hrp.head hrq.head w1 w2
  subst e
  rw [leqP_cons, if_neg (by rw [nil_iff]; exact hrp.head), w1, if_neg (by simp)] at h1
  rw [leqP_cons, if_neg (by rw [nil_iff]; exact hrp.head), w1, if_neg (by simp)] at h2
  have recu := red_unique p q hp.tail hq.tail hrp.tail hrq.tail
  by_cases hs : t.star = true
  ·rw [if_pos hs] at h1 h2
   have key2 : ∀ (p q : List TmD), redP (t :: p) -> leqP p (t :: q) = true -> leqP p q = true := by
    intro p q hr h
    cases p with
    | nil => exact leqP_nil _
    | cons c p =>
     have hc : witT c t = false := by
      cases hb : witT c t with
      | false => rfl
      | true => exact absurd ⟨hs, hb⟩ hr.2.1.2
     rw [leqP_cons, if_neg (by rw [nil_iff]; exact hr.tail.head), hc, if_pos (show (!false) = true from rfl)] at h
     exact h
   rw [recu (key2 p q hrp h1) (key2 q p hrq h2)]
  ·rw [if_neg hs] at h1 h2
   rw [recu h1 h2]
theorem red_eq {p q : List TmD} (hp : OkP p) (hq : OkP q) (hrp : redP p) (hrq : redP q) (h : EqP p q) : p = q :=
 red_unique p q hp hq hrp hrq ((leq_iff hp hq).2 fun w hw => by rw [<- h w]; exact hw) ((leq_iff hq hp).2 fun w hw => by rw [h w]; exact hw)
def anyP (l : List (List TmD)) (w : List Int) : Bool := l.any fun p => memP p w
theorem any_nil (w : List Int) : anyP [] w = false := rfl
theorem any_cons (p : List TmD) (l : List (List TmD)) (w : List Int) : anyP (p :: l) w = (memP p w || anyP l w) := by
 unfold anyP; rw [List.any_cons]
def hdP (t : TmD) (l : List (List TmD)) : List (List TmD) := l.map (t :: ·)
theorem one_ok (x : Int) : (TmD.mk false [x]).Ok := ⟨fun _ => ⟨x, rfl⟩, rfl⟩
def behP (x : Int) : List TmD -> Option (List TmD)
 | [] => none
 | u :: p => if x ∈ u.ls then some (if u.star then u :: p else p) else behP x p
def ofW (w : List Int) : List TmD := w.map fun x => ⟨false, [x]⟩
theorem ofW_ok (w : List Int) : OkP (ofW w) := fun t ht => by
 obtain ⟨x, _, rfl⟩ := List.mem_map.1 ht
 exact one_ok x
theorem leq_of : ∀ (n : Nat) (w : List Int) (p : List TmD), w.length + p.length <= n -> OkP p -> leqP (ofW w) p = memP p w
 | _, [], p, _, _ => by rw [memP_nil]; exact leqP_nil p
 | 0, x :: w, p, h, _ => by simp only [List.length_cons] at h; omega
 | n + 1, x :: w, [], h, _ => by
  rw [memP_none]
  show leqP (⟨false, [x]⟩ :: ofW w) [] = false
  rw [leqP_none]; rfl
 | n + 1, x :: w, u :: p, h, hp => by
  simp only [List.length_cons] at h
  have h1 := leq_of n w (u :: p) (by simp only [List.length_cons]; omega) hp
  have h2 := leq_of n w p (by omega) hp.tail
  have h3 := leq_of n (x :: w) p (by simp only [List.length_cons]; omega) hp.tail
  have hw : witT ⟨false, [x]⟩ u = decide (x ∈ u.ls) := by
   rw [Bool.eq_iff_iff, decide_eq_true_eq]
   cases hs : u.star with
   | true => rw [wit_star hs]; simp
   | false =>
    obtain ⟨y, hy⟩ := hp.head.one hs
    rw [wit_one hs hy (one_ok x) (by simp), hy]
    simp
  show leqP (⟨false, [x]⟩ :: ofW w) (u :: p) = _
  rw [leqP_cons, memP_cons, hw, if_neg (by simp)]
  by_cases hx : x ∈ u.ls
  ·rw [if_pos hx, decide_eq_true hx, if_neg (by simp)]
   by_cases hs : u.star = true
   ·rw [if_pos hs, if_pos hs]; exact h1
   ·rw [if_neg hs, if_neg hs]; exact h2
  ·rw [if_neg hx, decide_eq_false hx, if_pos (show (!false) = true from rfl)]; exact h3
theorem leqP_of {p : List TmD} (hp : OkP p) (w : List Int) : leqP (ofW w) p = memP p w := leq_of _ w p (Nat.le_refl _) hp
end Go.AM
namespace Go.AM
open Go Go.Proofs Go.RowKit
set_option maxRecDepth 100000
theorem con_between (x low high : Int) : Con Tryz.prog 153 [vi x, vi low, vi high] [] fun r _ => r = vb (betweenB x low high) := by
 refine Con.intro Tryz.func153 rfl Tryz.ntmps153 Tryz.results153 (by kernel_rfl) (by simp) 0 (by simp) ?_
 unfold betweenB
 by_cases h1 : low <= x
 ·by_cases h2 : x <= high
  ·simp only [go_sem, h1, h2, Bool.and_true]
  ·simp only [go_sem, h1, h2, Bool.and_false]
 ·simp only [go_sem, h1, Bool.false_and]
theorem con_index (x : Int) (n : Int) (h1 : 0 <= n) (h2 : n <= 9223372036854775807) : Con Tryz.prog 244 [vi x, vi n] [] fun r _ => r = vb (decide (0 <= x) && decide (x < n)) := by
 refine Con.intro Tryz.func244 rfl Tryz.ntmps244 Tryz.results244 (by kernel_rfl) (by simp) 0 (by simp) ?_
 have hw : IntKind.i64.wrap (n - 1) = n - 1 := wrap_in (by omega) (by omega)
 have e : betweenB x 0 (n - 1) = (decide (0 <= x) && decide (x < n)) := by
  unfold betweenB
  congr 1
  exact decide_eq_decide.2 (by omega)
 simp only [go_sem, hw]
 refine CallU.free (con_between x 0 (n - 1)) (by simp only [go_sem]) (by simp only [go_sem]) ?_
 rintro r bx rfl
 simp only [go_sem, e]
def vAtom (a : AtomD) : AV := .ag [vs 0 a.coefs, vi a.mod, vs 0 a.values]
attribute [go_sem] vAtom
def u8v (c : UInt8) : AV := .sc (.int .u8 c.toNat)
attribute [go_sem] u8v vStr vss
theorem u8_low {k c : UInt8} {n : Nat} (h : k.toNat = n) : k <= c ↔ (n : Int) <= (c.toNat : Int) := UInt8.le_iff_toNat_le.trans (by rw [h]; omega)
theorem u8_high {k c : UInt8} {n : Nat} (h : k.toNat = n) : c <= k ↔ (c.toNat : Int) <= (n : Int) := UInt8.le_iff_toNat_le.trans (by rw [h]; omega)
theorem letterB_eq (c : UInt8) : letterB c = (decide ((97 : Int) <= (c.toNat : Int)) && decide ((c.toNat : Int) <= 122)) := by
 unfold letterB
 rw [decide_eq_decide.2 (u8_low (k := 97) (c := c) (n := 97) rfl), decide_eq_decide.2 (u8_high (k := 122) (c := c) (n := 122) rfl)]; rfl
theorem digitB_eq (c : UInt8) : digitB c = (decide ((48 : Int) <= (c.toNat : Int)) && decide ((c.toNat : Int) <= 57)) := by
 unfold digitB
 rw [decide_eq_decide.2 (u8_low (k := 48) (c := c) (n := 48) rfl), decide_eq_decide.2 (u8_high (k := 57) (c := c) (n := 57) rfl)]; rfl
theorem u8_eq {k c : UInt8} {n : Nat} (h : k.toNat = n) : (c == k) = (((c.toNat : Int)) == (n : Int)) := by
 rw [Bool.eq_iff_iff, beq_iff_eq, beq_iff_eq, <- UInt8.toNat_inj, h]; omega
theorem con_letter (c : UInt8) : Con Tryz.prog 297 [u8v c] [] fun r _ => r = vb (letterB c) := by
 refine Con.intro Tryz.func297 rfl Tryz.ntmps297 Tryz.results297 (by kernel_rfl) (by simp) 0 (by simp) ?_
 rw [letterB_eq]
 by_cases h1 : (97 : Int) <= (c.toNat : Int)
 ·by_cases h2 : (c.toNat : Int) <= 122
  ·simp only [go_sem, h1, h2, Bool.and_true]
  ·simp only [go_sem, h1, h2, Bool.and_false]
 ·simp only [go_sem, h1, Bool.false_and]
theorem con_digit (c : UInt8) : Con Tryz.prog 333 [u8v c] [] fun r _ => r = vb (digitB c) := by
 refine Con.intro Tryz.func333 rfl Tryz.ntmps333 Tryz.results333 (by kernel_rfl) (by simp) 0 (by simp) ?_
 rw [digitB_eq]
 by_cases h1 : (48 : Int) <= (c.toNat : Int)
 ·by_cases h2 : (c.toNat : Int) <= 57
  ·simp only [go_sem, h1, h2, Bool.and_true]
  ·simp only [go_sem, h1, h2, Bool.and_false]
 ·simp only [go_sem, h1, Bool.false_and]
theorem con_part (c : UInt8) : Con Tryz.prog 299 [u8v c] [] fun r _ => r = vb (partB c) := by
 refine Con.intro Tryz.func299 rfl Tryz.ntmps299 Tryz.results299 (by kernel_rfl) (by simp) 0 (by simp) ?_
 unfold partB
 rw [u8_eq (k := 95) (c := c) (n := 95) rfl]
 simp only [go_sem]
 refine CallU.free (con_letter c) (by simp only [go_sem]) (by simp only [go_sem]) ?_
 rintro r bx rfl
 cases h1 : letterB c
 ·simp only [go_sem]
  refine CallU.free (con_digit c) (by simp only [go_sem]) (by simp only [go_sem]) ?_
  rintro r bx rfl
  cases h2 : digitB c
  ·simp only [go_sem]
   all_goals simp
  ·simp only [go_sem]
   all_goals simp
 ·simp only [go_sem]
  all_goals simp
def runL (p : UInt8 -> Bool) (l : List UInt8) : Nat := (l.takeWhile p).length
theorem run_stop {p : UInt8 -> Bool} : ∀ {l : List UInt8} {i : Nat}, (∀ j, j < i -> p l[j]! = true) -> i <= l.length -> (i < l.length -> p l[i]! = false) -> runL p l = i
 | [], i, _, h2, _ => by simp at h2; subst h2; rfl
 | x :: l, 0, _, _, h3 => by
  have := h3 (by simp)
  simp at this
  simp [runL, this]
 | x :: l, i + 1, h1, h2, h3 => by
  have hx := h1 0 (by omega)
  simp at hx
  have := run_stop (p := p) (l := l) (i := i) (fun j hj => by simpa using h1 (j + 1) (by omega)) (by simpa using h2) (fun h => by simpa using h3 (by simpa using h))
  unfold runL at *
  rw [List.takeWhile_cons, hx, if_pos rfl, List.length_cons, this]
theorem run_all {p : UInt8 -> Bool} {l : List UInt8} : (runL p l == l.length) = l.all p := by
 unfold runL
 induction l with
 | nil => rfl
 | cons x l ih =>
  cases h : p x
  ·simp [h]
  ·simp only [List.takeWhile_cons, h, if_true, List.length_cons, List.all_cons, Bool.true_and]
   rw [<- ih]
   rw [Bool.eq_iff_iff]; simp
theorem ba_get {s : ByteArray} {i : Nat} (h : i < s.size) : s[i]? = some s.data.toList[i]! := by
 rw [getElem?_pos s i h]
 congr 1
 have h2 : i < s.data.toList.length := by simpa using h
 rw [getElem!_pos s.data.toList i h2, Array.getElem_toList]; rfl
theorem ba_len (s : ByteArray) : s.data.toList.length = s.size := Array.length_toList
theorem con_run (s : ByteArray) (f : FuncId) (p : UInt8 -> Bool) (hf : ∀ c, Con Tryz.prog f [u8v c] [] fun r _ => r = vb (p c)) (hs : s.size <= 9223372036854775806) : Con Tryz.prog 298 [vStr s, .fn f []] [] fun r _ => r = vi (runL p s.data.toList) := by
 refine Con.intro Tryz.func298 rfl Tryz.ntmps298 Tryz.results298 (by kernel_rfl) (by simp) 0 (by simp) ?_
 simp only [go_sem]
 refine LoopK.intro (fun i : Nat => ⟨20, [(0, vStr s), (1, .fn f []), (4, vi 0), (5, vi i)], []⟩)
  (fun i => s.size - i) (fun i => i <= s.size /\ ∀ j, j < i -> p s.data.toList[j]! = true) 0 ⟨by omega, fun j hj => by omega⟩ ?_ ?_
 ·simp only [go_sem]
  all_goals exact leV_refl _
 rintro i ⟨hi, hb⟩
 by_cases h : i < s.size
 ·have hg := ba_get h
  have hw : IntKind.i64.wrap (i + 1) = i + 1 := wrap_in (by omega) (by omega)
  simp only [go_sem, h, hg]
  refine CallU.free (hf s.data.toList[i]!) (by simp only [go_sem]) (by simp only [go_sem]) ?_
  rintro r bx rfl
  cases hp : p s.data.toList[i]!
  ·simp only [go_sem]
   rw [run_stop hb (by rw [ba_len]; exact hi) (fun _ => hp)]
  ·simp only [go_sem, hw]
   refine roundK.intro (i + 1) ⟨by omega, fun j hj => ?_⟩ (by omega) ?_
   ·by_cases hji : j = i
    ·subst hji; exact hp
    ·exact hb j (by omega)
   ·simp only [go_sem]
 ·simp only [go_sem, h]
  rw [run_stop hb (by rw [ba_len]; exact hi) (fun h' => absurd (by rw [ba_len] at h'; exact h') h)]
theorem size_zero {s : ByteArray} : (s.toList == ByteArray.toList { data := #[] }) = decide (s.size = 0) := by
 rw [ByteArray.toList_eq, ByteArray.toList_eq, <- ba_len]
 cases h : s.data.toList <;> simp
theorem con_word (s : ByteArray) (hs : s.size <= 9223372036854775806) : Con Tryz.prog 241 [vStr s] [] fun r _ => r = vb (wordB s) := by
 refine Con.intro Tryz.func241 rfl Tryz.ntmps241 Tryz.results241 (by kernel_rfl) (by simp) 0 (by simp) ?_
 have e : wordB s = (decide (0 < s.size) && decide (s.size <= 12) && letterB s.data.toList[0]! && (runL partB s.data.toList == s.data.toList.length)) := by
  rw [run_all]
  unfold wordB
  rw [ByteArray.toList_eq]
  by_cases h0 : 0 < s.size
  ·have h2 := ba_get h0
   congr 2
   rw [show s.get! 0 = s.data.toList[0]! from ?_]
   have h3 : 0 < s.data.toList.length := by rw [ba_len]; exact h0
   rw [getElem!_pos s.data.toList 0 h3, Array.getElem_toList]
   show s.data[0]! = _
   rw [getElem!_pos s.data 0 h0]
  ·rw [decide_eq_false h0]; simp
 rw [e]
 by_cases h0 : 0 < s.size
 ·have h0' : ¬ s.size = 0 := by omega
  have hg := ba_get h0
  by_cases h1 : (s.size : Int) <= 12
  ·have h1' : s.size <= 12 := by omega
   simp only [go_sem, size_zero, h0', h1]
   simp only [go_sem, hg]
   refine CallU.free (con_letter s.data.toList[0]!) (by simp only [go_sem]) (by simp only [go_sem]) ?_
   rintro r bx rfl
   cases h2 : letterB s.data.toList[0]!
   ·simp only [go_sem]
    all_goals simp
   ·simp only [go_sem]
    refine CallU.free (con_run s 299 partB con_part hs) (by simp only [go_sem]) (by simp only [go_sem]) ?_
    rintro r bx rfl
    simp only [go_sem, ba_len, h0, h1', decide_true, Bool.true_and]
    all_goals congr 2
  ·have h1' : ¬ s.size <= 12 := by omega
   simp only [go_sem, size_zero, h0', h1, h1']
   all_goals simp
 ·have h0' : s.size = 0 := by omega
  simp only [go_sem, size_zero, h0']
  all_goals simp
theorem mem_bangI {α : Type} [Inhabited α] {l : List α} {i : Nat} (h : i < l.length) : l[i]! ∈ l := by rw [getElem!_pos l i h]; exact List.getElem_mem h
def TellsI (f : FuncId) (caps : List AV) (l : List Int) (p : Int -> Bool) : Prop := ∀ x ∈ l, Con Tryz.prog f ([vi x] ++ caps) [] fun r _ => r = .sc (.bool (p x))
theorem con_indexInt (l : List Int) (f : FuncId) (caps : List AV) (p : Int -> Bool) (hc : mapTops (viewV []) caps = caps) (hf : TellsI f caps l p) (hl : l.length <= 9223372036854775806) : Con Tryz.prog 290 [vs 0 l, .fn f caps] [] fun r _ => r = vi (findI p l) := by
 refine Con.intro Tryz.func290 rfl Tryz.ntmps290 Tryz.results290 (by kernel_rfl) (by simp) 0 (by simp) ?_
 simp only [go_sem]
 refine LoopK.intro (fun i : Nat => ⟨19, [(0, vs 0 l), (1, .fn f caps), (7, vi l.length), (8, vi i)], []⟩)
  (fun i => l.length - i) (fun i => i <= l.length /\ ∀ j, j < i -> p l[j]! = false) 0 ⟨by omega, fun j hj => by omega⟩ ?_ ?_
 ·simp only [go_sem]
  all_goals exact leV_refl _
 ·rintro i ⟨hi, hb⟩
  by_cases h : i < l.length
  ·have hg := getv h
   have hw : IntKind.i64.wrap (i + 1) = i + 1 := wrap_in (by omega) (by omega)
   simp only [go_sem, h, hg]
   refine CallU.look (hf l[i]! (mem_bangI h)) (by simp only [go_sem]) (by simp only [go_sem, hc]) ?_
   rintro r bx rfl
   cases hp : p l[i]!
   ·simp only [go_sem, hw]
    refine roundK.intro (i + 1) ⟨by omega, fun j hj => ?_⟩ (by omega) ?_
    ·by_cases hji : j = i
     ·subst hji; exact hp
     ·exact hb j (by omega)
    ·simp only [go_sem]
   ·simp only [go_sem]
    rw [findI_stop h hb hp]
  ·simp only [go_sem, h]
   rw [findI_none (fun j hj => hb j (by omega))]
theorem con_containsInt (l : List Int) (f : FuncId) (caps : List AV) (p : Int -> Bool) (hc : mapTops (viewV []) caps = caps) (hf : TellsI f caps l p) (hl : l.length <= 9223372036854775806) : Con Tryz.prog 220 [vs 0 l, .fn f caps] [] fun r _ => r = .sc (.bool (l.any p)) := by
 refine Con.intro Tryz.func220 rfl Tryz.ntmps220 Tryz.results220 (by kernel_rfl) (by simp) 0 (by simp) ?_
 simp only [go_sem]
 refine CallU.look (con_indexInt l f caps p hc hf hl) (by simp only [go_sem]) (by simp only [go_sem]) ?_
 rintro r bx rfl
 simp only [go_sem, findI_ge]
def TellsR (f : FuncId) (caps : List AV) (l : List RD) (p : RD -> Bool) : Prop := ∀ x ∈ l, Con Tryz.prog f ([vRule x] ++ caps) [] fun r _ => r = .sc (.bool (p x))
attribute [go_sem] vRule
theorem con_indexRule (l : List RD) (f : FuncId) (caps : List AV) (p : RD -> Bool) (hc : mapTops (viewV []) caps = caps) (hf : TellsR f caps l p) (hl : l.length <= 9223372036854775806) : Con Tryz.prog 243 [.sl 0 14 (l.map vRule), .fn f caps] [] fun r _ => r = vi (findI p l) := by
 refine Con.intro Tryz.func243 rfl Tryz.ntmps243 Tryz.results243 (by kernel_rfl) (by simp) 0 (by simp) ?_
 simp only [go_sem]
 refine LoopK.intro (fun i : Nat => ⟨19, [(0, .sl 0 14 (l.map vRule)), (1, .fn f caps), (7, vi l.length), (8, vi i)], []⟩)
  (fun i => l.length - i) (fun i => i <= l.length /\ ∀ j, j < i -> p l[j]! = false) 0 ⟨by omega, fun j hj => by omega⟩ ?_ ?_
 ·simp only [go_sem]
  all_goals exact leV_refl _
 ·rintro i ⟨hi, hb⟩
  by_cases h : i < l.length
  ·have hg := getRule h
   have hw : IntKind.i64.wrap (i + 1) = i + 1 := wrap_in (by omega) (by omega)
   simp only [go_sem, h, hg]
   refine CallU.look (hf l[i]! (mem_bangI h)) (by simp only [go_sem]) (by simp only [go_sem, hc]) ?_
   rintro r bx rfl
   cases hp : p l[i]!
   ·simp only [go_sem, hw]
    refine roundK.intro (i + 1) ⟨by omega, fun j hj => ?_⟩ (by omega) ?_
    ·by_cases hji : j = i
     ·subst hji; exact hp
     ·exact hb j (by omega)
    ·simp only [go_sem]
   ·simp only [go_sem]
    rw [findI_stop h hb hp]
  ·simp only [go_sem, h]
   rw [findI_none (fun j hj => hb j (by omega))]
theorem con_containsRule (l : List RD) (f : FuncId) (caps : List AV) (p : RD -> Bool) (hc : mapTops (viewV []) caps = caps) (hf : TellsR f caps l p) (hl : l.length <= 9223372036854775806) : Con Tryz.prog 157 [.sl 0 14 (l.map vRule), .fn f caps] [] fun r _ => r = .sc (.bool (l.any p)) := by
 refine Con.intro Tryz.func157 rfl Tryz.ntmps157 Tryz.results157 (by kernel_rfl) (by simp) 0 (by simp) ?_
 simp only [go_sem]
 refine CallU.look (con_indexRule l f caps p hc hf hl) (by simp only [go_sem]) (by simp only [go_sem]) ?_
 rintro r bx rfl
 simp only [go_sem, findI_ge]
theorem con_all1 (x : Int) (g : FuncId) (caps : List AV) (p : Int -> Bool) (hc : mapTops (viewV []) caps = caps) (hf : Con Tryz.prog g ([vi x] ++ caps) [] fun r _ => r = .sc (.bool (p x))) : Con Tryz.prog 308 [vi x, .fp [.fn g caps] 0] [] fun r _ => r = .sc (.bool (!p x)) := by
 refine Con.intro Tryz.func308 rfl Tryz.ntmps308 Tryz.results308 (by kernel_rfl) (by simp) 0 (by simp) ?_
 simp only [go_sem]
 refine CallU.look hf (by simp only [go_sem]) (by simp only [go_sem, hc]) ?_
 rintro r bx rfl
 simp only [go_sem]
theorem any_not {α : Type} (p : α -> Bool) : ∀ l : List α, (!l.any fun x => !p x) = l.all p
 | [] => rfl
 | x :: l => by rw [List.any_cons, List.all_cons, <- any_not p l]; cases p x <;> simp
theorem con_all (l : List Int) (g : FuncId) (caps : List AV) (p : Int -> Bool) (hc : mapTops (viewV []) caps = caps) (hf : TellsI g caps l p) (hl : l.length <= 9223372036854775806) : Con Tryz.prog 250 [vs 0 l, .fn g caps] [] fun r _ => r = .sc (.bool (l.all p)) := by
 refine Con.intro Tryz.func250 rfl Tryz.ntmps250 Tryz.results250 (by kernel_rfl) (by simp) 1 (by simp) ?_
 simp only [go_sem]
 refine CallU.look (con_containsInt l 308 [.fp [.fn g caps] 0] (fun x => !p x) (by simp only [go_sem]) (fun x hx => con_all1 x g caps p hc (hf x hx)) hl) (by simp only [go_sem]) (by simp only [go_sem]) ?_
 rintro r bx rfl
 simp only [go_sem, any_not]
theorem beq_cut {a b : List Int} (h : a.length ≠ b.length) : (a == b) = false := by
 rw [beq_eq_false_iff_ne]; intro e; rw [e] at h; exact h rfl
theorem eqI_stop {a b : List Int} {i : Nat} (h : a[i]! ≠ b[i]!) : (a == b) = false := by
 rw [beq_eq_false_iff_ne]; intro e; rw [e] at h; exact h rfl
theorem eqI_all {a b : List Int} (hl : a.length = b.length) (h : ∀ j, j < a.length -> a[j]! = b[j]!) : (a == b) = true := by
 rw [beq_iff_eq]
 apply List.ext_getElem hl
 intro i h1 h2
 have := h i h1
 rw [getElem!_pos a i h1, getElem!_pos b i h2] at this; exact this
theorem con_equalInt (a b : List Int) (hl : a.length <= 9223372036854775806) : Con Tryz.prog 309 [vs 0 a, vs 0 b] [] fun r _ => r = .sc (.bool (a == b)) := by
 refine Con.intro Tryz.func309 rfl Tryz.ntmps309 Tryz.results309 (by kernel_rfl) (by simp) 0 (by simp) ?_
 by_cases he : a.length = b.length
 case neg =>
  have he' : ((a.length : Int) != (b.length : Int)) = true := bne_iff_ne.2 (by omega)
  simp only [go_sem, he', beq_cut he]
 simp only [go_sem, he]
 refine LoopK.intro (fun i : Nat => ⟨26, [(0, vs 0 a), (1, vs 0 b), (12, vi a.length), (13, vi i)], []⟩)
  (fun i => a.length - i) (fun i => i <= a.length /\ ∀ j, j < i -> a[j]! = b[j]!) 0 ⟨by omega, fun j hj => by omega⟩ ?_ ?_
 ·simp only [go_sem, he]
  all_goals exact leV_refl _
 rintro i ⟨hi, hb⟩
 by_cases h : i < a.length
 ·have h2 : i < b.length := by omega
  have g1 := getv h
  have g2 := getv h2
  have hw : IntKind.i64.wrap (i + 1) = i + 1 := wrap_in (by omega) (by omega)
  simp only [go_sem, h]
  refine DrawK.walk 9 mixed (by kernel_rfl) ?_
  by_cases hp : a[i]! = b[i]!
  ·simp only [go_sem, h, h2, g1, g2, hp, hw]
   refine roundK.intro (i + 1) ⟨by omega, fun j hj => ?_⟩ (by omega) ?_
   ·by_cases hji : j = i
    ·subst hji; exact hp
    ·exact hb j (by omega)
   ·simp only [go_sem]
  ·have hp' : (a[i]! != b[i]!) = true := bne_iff_ne.2 hp
   simp only [go_sem, h, h2, g1, g2, hp']
   rw [eqI_stop hp]
 ·simp only [go_sem, h]
  rw [eqI_all he (fun j hj => hb j (by omega))]
def vm (t : Nat) (m : List (List Int)) : AV := .sl t 1 (m.map (vs 0))
attribute [go_sem] vm
theorem con_mxIndex (l : List Int) (v : Int) (hl : l.length <= 9223372036854775806) : Con Tryz.prog 225 [vs 0 l, vi v] [] fun r _ => r = vi (findI (fun x => v == x) l) := by
 refine Con.intro Tryz.func225 rfl Tryz.ntmps225 Tryz.results225 (by kernel_rfl) (by simp) 0 (by simp) ?_
 simp only [go_sem]
 refine LoopK.intro (fun i : Nat => ⟨19, [(0, .sl 0 1 (l.map vi)), (1, .sc (.int .i64 v)), (7, .sc (.int .i64 l.length)), (8, .sc (.int .i64 i))], []⟩)
  (fun i => l.length - i) (fun i => i <= l.length /\ ∀ j, j < i -> (v == l[j]!) = false) 0 ⟨by omega, fun j hj => by omega⟩ ?_ ?_
 ·simp only [go_sem]
 ·rintro i ⟨hi, hb⟩
  by_cases h : i < l.length
  ·have hg := getv h
   have hw : IntKind.i64.wrap (i + 1) = i + 1 := wrap_in (by omega) (by omega)
   cases hp : (v == l[i]!)
   ·simp only [go_sem, h, hg, hw, hp]
    refine roundK.intro (i + 1) ⟨by omega, fun j hj => ?_⟩ (by omega) ?_
    ·by_cases hji : j = i
     ·subst hji; exact hp
     ·exact hb j (by omega)
    ·simp only [go_sem]
   ·simp only [go_sem, h, hg, hp]
    rw [findI_stop h hb hp]
  ·simp only [go_sem, h]
   rw [findI_none (fun j hj => hb j (by omega))]
   
theorem con_mxContains (l : List Int) (v : Int) (hl : l.length <= 9223372036854775806) : Con Tryz.prog 146 [vs 0 l, vi v] [] fun r _ => r = .sc (.bool (l.any fun x => v == x)) := by
 refine Con.intro Tryz.func146 rfl Tryz.ntmps146 Tryz.results146 (by kernel_rfl) (by simp) 0 (by simp) ?_
 simp only [go_sem]
 refine CallU.free (con_mxIndex l v hl) (by simp only [go_sem]) (by simp only [go_sem]) ?_
 rintro r bx rfl
 simp only [go_sem, findI_ge]
theorem con_indexStr (l : List ByteArray) (v : ByteArray) (hl : l.length <= 9223372036854775806) : Con Tryz.prog 334 [vss l, vStr v] [] fun r _ => r = vi (findI (fun x => v.toList == x.toList) l) := by
 refine Con.intro Tryz.func334 rfl Tryz.ntmps334 Tryz.results334 (by kernel_rfl) (by simp) 0 (by simp) ?_
 simp only [go_sem]
 refine LoopK.intro (fun i : Nat => ⟨19, [(0, vss l), (1, vStr v), (7, vi l.length), (8, vi i)], []⟩)
  (fun i => l.length - i) (fun i => i <= l.length /\ ∀ j, j < i -> (v.toList == l[j]!.toList) = false) 0 ⟨by omega, fun j hj => by omega⟩ ?_ ?_
 ·simp only [go_sem]
  all_goals exact leV_refl _
 ·rintro i ⟨hi, hb⟩
  by_cases h : i < l.length
  ·have hg := getStr h
   have hw : IntKind.i64.wrap (i + 1) = i + 1 := wrap_in (by omega) (by omega)
   cases hp : (v.toList == l[i]!.toList)
   ·simp only [go_sem, h, hg, hp, hw]
    refine roundK.intro (i + 1) ⟨by omega, fun j hj => ?_⟩ (by omega) ?_
    ·by_cases hji : j = i
     ·subst hji; exact hp
     ·exact hb j (by omega)
    ·simp only [go_sem]
   ·simp only [go_sem, h, hg, hp]
    rw [findI_stop (p := fun x : ByteArray => v.toList == x.toList) h hb hp]
  ·simp only [go_sem, h]
   rw [findI_none (p := fun x : ByteArray => v.toList == x.toList) (fun j hj => hb j (by omega))]
theorem con_containsStr (l : List ByteArray) (v : ByteArray) (hl : l.length <= 9223372036854775806) : Con Tryz.prog 300 [vss l, vStr v] [] fun r _ => r = .sc (.bool (l.any fun x => v.toList == x.toList)) := by
 refine Con.intro Tryz.func300 rfl Tryz.ntmps300 Tryz.results300 (by kernel_rfl) (by simp) 0 (by simp) ?_
 simp only [go_sem]
 refine CallU.free (con_indexStr l v hl) (by simp only [go_sem]) (by simp only [go_sem]) ?_
 rintro r bx rfl
 simp only [go_sem, findI_ge]
theorem con_keyword (s : ByteArray) : Con Tryz.prog 242 [vStr s] [] fun r _ => r = vb (keywordB s) := by
 refine Con.intro Tryz.func242 rfl Tryz.ntmps242 Tryz.results242 (by kernel_rfl) (by simp) 0 (by simp) ?_
 simp only [go_sem]
 refine CallU.flat (con_containsStr kwL s (by decide)) (by simp only [go_sem]) (by simp only [go_sem, kwL, List.map_cons, List.map_nil]) ?_
 rintro r bx rfl
 simp only [go_sem]
 rfl
def sumL {α : Type} (ls : List (List α)) (i : Nat) : Nat := ((ls.take i).map List.length).sum
theorem sumL_zero {α : Type} (ls : List (List α)) : sumL ls 0 = 0 := rfl
theorem sumL_succ {α : Type} {ls : List (List α)} {i : Nat} (h : i < ls.length) : sumL ls (i + 1) = sumL ls i + ls[i]!.length := by
 unfold sumL
 rw [List.take_add_one, List.getElem?_eq_getElem h, getElem!_pos ls i h, List.map_append, List.sum_append]
 simp only [Option.toList, List.map_cons, List.map_nil, List.sum_cons, List.sum_nil, Nat.add_zero]
theorem sumL_mono {α : Type} {ls : List (List α)} : ∀ {i : Nat}, sumL ls i <= ls.flatten.length := by
 intro i
 unfold sumL
 rw [<- List.length_flatten]
 have h : ls.flatten = (ls.take i).flatten ++ (ls.drop i).flatten := by rw [<- List.flatten_append, List.take_append_drop]
 rw [h, List.length_append]; omega
theorem flat_succ {α : Type} {ls : List (List α)} {i : Nat} (h : i < ls.length) : (ls.take (i + 1)).flatten = (ls.take i).flatten ++ ls[i]! := by
 rw [List.take_add_one, List.getElem?_eq_getElem h, getElem!_pos ls i h, List.flatten_append]
 simp only [Option.toList, List.flatten_cons, List.flatten_nil, List.append_nil]
theorem getRow {ls : List (List ByteArray)} {i : Nat} (h : i < ls.length) : (ls.map vss)[i]? = some (.sl 0 1 (ls[i]!.map vStr)) := by
 rw [List.getElem?_map, List.getElem?_eq_getElem h, getElem!_pos ls i h, Option.map_some]; rfl
theorem con_growStr (n : Nat) (h1 : 1 <= n) (h2 : n <= 1000000) : Con Tryz.prog 296 [.nil, vi n] [] fun r _ => r = .sl 2 1 [] := by
 refine Con.intro Tryz.func296 rfl Tryz.ntmps296 Tryz.results296 (by kernel_rfl) (by simp) 0 (by simp) ?_
 have a1 : ¬ ((n : Int) < 0) := by omega
 have a2 : (0 : Int) < (n : Int) := by omega
 have hw : IntKind.i64.wrap ((n : Int) - 0) = n := by rw [wrap_in (by omega) (by omega)]; omega
 have hz : IntKind.i64.wrap 0 = 0 := wrap_in (by omega) (by omega)
 simp only [go_sem, a1, a2, hz, hw]
 omega
theorem con_concatStr (ls : List (List ByteArray)) (h1 : 1 <= ls.flatten.length) (h2 : ls.flatten.length <= 1000000) (hl : ls.length <= 1000000) : Con Tryz.prog 240 [.sl 0 1 (ls.map vss)] [] fun r _ => r = .sl 2 1 (ls.flatten.map vStr) := by
 refine Con.intro Tryz.func240 rfl Tryz.ntmps240 Tryz.results240 (by kernel_rfl) (by simp) 0 (by simp) ?_
 simp only [go_sem]
 refine LoopK.intro (fun i : Nat => ⟨36, [(0, .sl 0 1 (ls.map vss)), (2, .nil), (3, vi (sumL ls i)), (9, .sl 0 1 (ls.map vss)), (10, vi ls.length), (11, vi i)], []⟩)
  (fun i => ls.length - i) (fun i => i <= ls.length) 0 (by omega) ?_ ?_
 ·simp only [go_sem, sumL_zero]
  all_goals exact leV_refl _
 rintro i hi
 have hm := sumL_mono (ls := ls) (i := i)
 by_cases h : i < ls.length
 ·have hg := getRow h
  have hw : IntKind.i64.wrap (i + 1) = i + 1 := wrap_in (by omega) (by omega)
  have hm2 := sumL_mono (ls := ls) (i := i + 1)
  have hs := sumL_succ h
  have hw2 : IntKind.i64.wrap ((sumL ls i : Int) + (ls[i]!.length : Int)) = (sumL ls (i + 1) : Int) := by rw [wrap_in (by omega) (by omega)]; omega
  have a1 : ¬ ((sumL ls (i + 1) : Int) < 0) := by omega
  simp only [go_sem, h, hg, hw, hw2, a1]
  refine roundK.intro (i + 1) (by omega) (by omega) ?_
  simp only [go_sem]
 ·obtain rfl : i = ls.length := by omega
  have e : sumL ls ls.length = ls.flatten.length := by unfold sumL; rw [List.take_length, <- List.length_flatten]
  simp only [go_sem, h, e]
  refine CallU.free (con_growStr ls.flatten.length h1 h2) (by simp only [go_sem]) (by simp only [go_sem]) ?_
  rintro r bx rfl
  simp only [go_sem]
  refine LoopK.intro (fun i : Nat => ⟨36, [(0, .sl 0 1 (ls.map vss)), (2, .nil), (6, .sl 1602 1 (((ls.take i).flatten).map vStr)), (25, .sl 0 1 (ls.map vss)), (26, vi ls.length), (27, vi i)], []⟩)
   (fun i => ls.length - i) (fun i => i <= ls.length) 0 (by omega) ?_ ?_
  ·simp only [go_sem, List.take_zero, List.flatten_nil, List.map_nil]
   all_goals exact leV_refl _
  rintro i hi
  by_cases h : i < ls.length
  ·have hg := getRow h
   have hw : IntKind.i64.wrap (i + 1) = i + 1 := wrap_in (by omega) (by omega)
   have hm2 := sumL_mono (ls := ls) (i := i + 1)
   have hs := sumL_succ h
   have hf := flat_succ h
   have el : (ls.take i).flatten.length = sumL ls i := by unfold sumL; rw [List.length_flatten]
   simp only [go_sem, h, hg, hw]
   refine ⟨by simp only [roomFor, el]; omega, ?_⟩
   refine roundK.intro (i + 1) (by omega) (by omega) ?_
   simp only [go_sem, hf, List.map_append]
  ·obtain rfl : i = ls.length := by omega
   simp only [go_sem, h, List.take_length]
end Go.AM
