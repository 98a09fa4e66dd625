/- Am5 CmZ CmX0 HF HG HC HD HA HB HE HH HI LEff LFlat FA -/
import Derived.Test.YtpmodjodfimejaaGreath6
import Derived.Test.YtpmodjodfimejaaGreath7
namespace Go.AM
open Go.RowKit
def noPb (N : Nat) : AV -> Bool
 | .pb i _ => decide (i ≠ N)
 | .cl _ caps => caps.all fun c => match c with
  | .pb i _ => decide (i ≠ N)
  | _ => true
 | _ => true
def noPbT (N : Nat) : List (Nat × AV) -> Bool
 | [] => true
 | (_, v) :: r => v.allLeaf (noPb N) && noPbT N r
def noPbB (N : Nat) : List (List AV) -> Bool
 | [] => true
 | cs :: r => allLeafs (noPb N) cs && noPbB N r
theorem noPbT_look {N : Nat} : ∀ {l : List (Nat × AV)}, noPbT N l = true -> ∀ s, (lookT l s).allLeaf (noPb N) = true
 | [], _, s => by simp [lookT, AV.allLeaf, noPb]
 | (k, v) :: r, h, s => by
  simp only [noPbT, Bool.and_eq_true] at h
  simp only [lookT]
  split
  ·exact h.1
  ·exact noPbT_look h.2 s
theorem noPbB_mem {N : Nat} : ∀ {l : List (List AV)}, noPbB N l = true -> ∀ (i : Nat) cs, l[i]? = some cs -> ∀ x ∈ cs, x.allLeaf (noPb N) = true
 | [], _, i, cs, h, _, _ => by simp at h
 | y :: r, h, i, cs, hi, x, hx => by
  simp only [noPbB, Bool.and_eq_true] at h
  cases i with
  | zero => simp at hi; subst hi; exact allLeafs_mem h.1 x hx
  | succ i => exact noPbB_mem h.2 i cs (by simpa using hi) x hx
theorem noPbT_put {N : Nat} {x : AV} (hx : x.allLeaf (noPb N) = true) : ∀ {l : List (Nat × AV)} {s : Nat}, noPbT N l = true -> noPbT N (putT l s x) = true
 | [], s, _ => by simp [putT, noPbT, hx]
 | (s', v) :: r, s, h => by
  simp only [noPbT, Bool.and_eq_true] at h
  unfold putT
  split
  ·simp [noPbT, hx, h.2]
  ·simp [noPbT, h.1, noPbT_put hx h.2]
theorem noPbB_set {N : Nat} : ∀ (bx : List (List AV)) (k : Nat) (c' : List AV), noPbB N bx = true -> allLeafs (noPb N) c' = true -> noPbB N (bx.set k c') = true
 | [], _, _, _, _ => rfl
 | b :: bx, 0, c', h1, h2 => by simp only [List.set_cons_zero, noPbB, Bool.and_eq_true] at h1 ⊢; exact ⟨h2, h1.2⟩
 | b :: bx, k + 1, c', h1, h2 => by simp only [List.set_cons_succ, noPbB, Bool.and_eq_true] at h1 ⊢; exact ⟨h1.1, noPbB_set bx k c' h1.2 h2⟩
def unboxG (N : Nat) (G : Nat -> Status) (b : Nat) : Status := if G b = .box N then .junk else G b
theorem unboxG_stable {N : Nat} {G : Nat -> Status} {b : Nat} : Stable (unboxG N G) b ↔ Stable G b := by
 unfold Stable unboxG
 split
 ·rename_i h; rw [h]; simp
 ·exact Iff.rfl
theorem unboxG_tag {N t : Nat} {G : Nat -> Status} {b : Nat} : unboxG N G b = .tag t ↔ G b = .tag t := by
 unfold unboxG
 split
 ·rename_i h; rw [h]; simp
 ·exact Iff.rfl
theorem unboxG_box {N i : Nat} {G : Nat -> Status} {b : Nat} : unboxG N G b = .box i ↔ G b = .box i /\ i ≠ N := by
 unfold unboxG
 split
 ·rename_i h; rw [h]; simp; exact fun e => e.symm
 ·rename_i h
  exact ⟨fun h' => ⟨h', fun e => h (by rw [h', e])⟩, fun h' => h'.1⟩
theorem VRel.unbox {N : Nat} {G : Nat -> Status} {w : World} {x : AV} {v : Value} (h : VRel G w x v) (hq : x.allLeaf (noPb N) = true) : VRel (unboxG N G) w x v := by
 have hF : ∀ {x v}, FRel (Stable G) w x v -> FRel (Stable (unboxG N G)) w x v := fun hr => hr.mono (fun b => unboxG_stable.2) (fun _ _ => rfl)
 have hsl : ∀ {t es xs v}, VRel G w (.sl t es xs) v -> VRel (unboxG N G) w (.sl t es xs) v := by
  intro t es xs v h
  cases h with
  | froz h => exact .froz (hF h)
  | own _ _ _ _ e vals h1 h2 h3 h4 h0 h5 => exact .own t es xs v e vals h1 h2 (fun b hb => unboxG_tag.2 (h3 b hb)) h4 h0 (h5.mono fun x y _ hr => hF hr)
 have hso : ∀ {t xs v}, VRel G w (.so t xs) v -> VRel (unboxG N G) w (.so t xs) v := by
  intro t xs v h
  have := h.so_map (f := id) (G' := unboxG N G) (w' := w) h.so_two (fun x u hx hr => ⟨hx, by
   cases hr with
   | froz hr => exact .froz (hF hr)
   | own t' es ys _ e vals h1 hrt h2 h3 h4 h0 h5 => exact .own t' es ys _ e vals h1 hrt h2 (fun b hb => unboxG_tag.2 (h3 b hb)) h4 h0 (h5.mono fun x y _ hr => hF hr)⟩)
   (fun b hb => ⟨unboxG_tag.2 hb, rfl⟩)
  simpa using this
 refine h.keepQ (fun x v hx hq h => ?_) hq
 cases x with
 | so t xs => exact hso h
 | po t xs i =>
  obtain ⟨b, off, c, h1, h2, rfl⟩ := h.po_inv
  exact (hso h1).po_of rfl h2
 | sl t es xs => exact hsl h
 | pe t es xs i o =>
  obtain ⟨b, off, c, h1, h2, rfl⟩ := h.pe_inv
  exact .pe _ _ _ _ _ _ _ _ (hsl h1) h2
 | pb i o =>
  obtain ⟨b, hb, rfl⟩ := h.pb_inv
  simp only [noPb, decide_eq_true_eq] at hq
  exact .pb _ _ _ (unboxG_box.2 ⟨hb, hq⟩)
 | ag cs => simp [AV.leafy] at hx
 | tup cs => simp [AV.leafy] at hx
 | any => exact .froz (.any _)
 | nil => rw [h.nil_inv]; exact .froz .nil
 | ub => obtain ⟨b, rfl⟩ := h.ub_inv; exact .froz (.ub b)
 | sc u => rw [h.sc_inv]; exact .froz (.sc _)
 | fn g caps => cases h with | froz h => exact .froz (hF h)
 | mp t P k e D => exact h.mpMono (fun b hb => unboxG_tag.2 hb) (fun _ _ _ _ _ => rfl)
 | cl g caps =>
  obtain ⟨vs, rfl, hp⟩ := h.cl_inv
  simp only [noPb, List.all_eq_true] at hq
  refine .cl _ _ _ (hp.mono fun x u hx hr => ?_)
  rcases hr with ⟨i, o, b, rfl, hb, rfl⟩ | hr
  ·have := hq _ hx
   simp only [decide_eq_true_eq] at this
   exact .inl ⟨i, o, b, rfl, unboxG_box.2 ⟨hb, this⟩, rfl⟩
  ·exact .inr (hF hr)
 | tl t es xs i =>
  obtain ⟨b, off, off', c, h1, h2, h3, _, rfl⟩ := h.tl_inv
  exact .tl _ _ _ _ _ _ _ _ (hsl h1) h2 h3
 | fp cs o => cases h with | froz h => exact .froz (hF h)
theorem SRel.unbox {G0 w0 σ G a w} (h : SRel G0 w0 σ G a w) {N k : Nat} (hg : G0.gh N = none) (h0 : ∀ b, b < w0.heap.size -> G0 b ≠ .box N) (ht : noPbT N σ.tmps = true) (hb : noPbB N σ.boxes = true) (hc : σ.boxes[N]? = some (List.replicate k .any)) :
  SRel G0 w0 σ (unboxG N G) a w /\ ∀ b, unboxG N G b ≠ .box N := by
 have hn : ∀ b, unboxG N G b ≠ .box N := fun b hb => (unboxG_box.1 hb).2 rfl
 refine ⟨{ h with good := ?_, slots := fun s => (h.slots s).unbox (noPbT_look ht s), boxes := ⟨h.boxes.low, fun i cs hi => ?_⟩, blt := fun b i hb => h.blt b i (unboxG_box.1 hb).1, stat := fun b hbl hnt => ?_ }, hn⟩
 ·refine ⟨fun b hb => h.good.lt b fun h' => hb (by unfold unboxG; rw [h']; simp), fun b b' t h1 h2 => h.good.tags b b' t (unboxG_tag.1 h1) (unboxG_tag.1 h2), fun b b' i h1 h2 => h.good.boxes b b' i (unboxG_box.1 h1).1 (unboxG_box.1 h2).1⟩
 ·by_cases hiN : i = N
  ·subst hiN
   rw [hc] at hi; cases hi
   exact .inr (.inr ⟨hg, hn, fun x hx v => by rw [(List.mem_replicate.1 hx).2]; exact .froz (.any _)⟩)
  ·refine (h.boxes.cell i cs hi).turn rfl (fun j x y v h1 h2 hr => ?_) (fun b hb => ⟨unboxG_box.2 ⟨hb, hiN⟩, rfl⟩) fun h0 b hb => h0 b (unboxG_box.1 hb).1
   rw [h1] at h2; cases h2
   exact hr.unbox (noPbB_mem hb i cs hi x (List.mem_of_getElem? h1))
 ·have h1 := h.stat b hbl hnt
  unfold unboxG
  rw [if_neg (fun h' => h0 b hbl (by rw [<- h1, h'])), h1]
theorem SRel.realize {G0 w0 σ G a w} (h : SRel G0 w0 σ G a w) {N d : Nat} {z : Value} {T : TypeId} (hg : G0.gh N = none) (hn : ∀ b, G b ≠ .box N) (hc : σ.boxes[N]? = some (List.replicate z.cells.size .any)) (hz : One z.cells.toList) (hd : d < σ.n) :
  SRel G0 w0 (σ.put (some d) (.pb N 0)) (updG G w.heap.size (.box N)) (a.put (some d) (.pointer (some ⟨w.heap.size, 0, none⟩))) (w.alloc (.cells z.cells T)) := by
 have hE : Ext G w (updG G w.heap.size (.box N)) (w.alloc (.cells z.cells T)) := .alloc _ _
 have hG : Good (updG G w.heap.size (.box N)) (w.alloc (.cells z.cells T)) := h.good.upd _ _ (Nat.le_refl _) (by simp) (by simp) (fun t ht => by cases ht) (fun i hi b hb => by cases hi; exact hn b hb)
 have hbx : ∀ b i, updG G w.heap.size (.box N) b = .box i -> (b = w.heap.size /\ i = N) \/ G b = .box i := fun b i hb => by
  unfold updG at hb
  split at hb
  ·rename_i e; cases hb; exact .inl ⟨e, rfl⟩
  ·exact .inr hb
 have hNl : N < σ.boxes.length := (List.getElem?_eq_some_iff.1 hc).1
 refine { good := hG, slots := slots_put (fun s => (h.slots s).ext h.good hE) h.size (by simpa [dstOk] using hd) (.pb _ _ _ (by simp [updG])), boxes := ⟨fun i vs hv => by rw [put_boxes]; exact h.boxes.low i vs hv, fun i cs hi => ?_⟩, blt := fun b i hb => ?_, size := by rw [put_size, put_n]; exact h.size, defs := by rw [put_defers]; exact h.defs, os := hE.os.trans h.os, tape := hE.tape.trans h.tape, output := hE.output.trans h.output, hsize := Nat.le_trans h.hsize hE.size, stat := fun b hb ht => (hE.stat b (Nat.lt_of_lt_of_le hb h.hsize)).trans (h.stat b hb ht), keep := fun b hb hn' ht => (hE.keep b (Nat.lt_of_lt_of_le hb h.hsize)).trans (h.keep b hb hn' ht) }
 ·rw [put_boxes] at hi
  by_cases hiN : i = N
  ·subst hiN
   rw [hc] at hi; cases hi
   refine .inl ⟨hg, w.heap.size, z.cells, T, by simp [updG], heap_alloc_new w _, hz, by simp, fun j x u hx _ => ?_⟩
   rw [List.getElem?_replicate] at hx
   split at hx
   ·cases hx; exact .froz (.any _)
   ·cases hx
  ·refine (h.boxes.cell i cs hi).same (fun x v hr => hr.ext h.good hE) (fun b hb => ?_) fun h0 b hb => ?_
   ·have hbs := h.good.lt b (by rw [hb]; simp)
    exact ⟨by rw [hE.stat b hbs]; exact hb, hE.keep b hbs⟩
   ·rcases hbx b i hb with ⟨_, e⟩ | h1
    ·exact hiN e
    ·exact h0 b h1
 ·rw [put_boxes]
  rcases hbx b i hb with ⟨_, rfl⟩ | h1
  ·exact hNl
  ·exact h.blt b i h1
def lookA : List (Nat × Nat) -> Nat -> Option Nat
 | [], _ => none
 | (i, N) :: r, k => if i = k then some N else lookA r k
def AllocP (P : Program) (bx : List (List AV)) (o : Oper) (N : Nat) (y : AV) : Prop :=
 o.guard = none /\ y = .pb N 0 /\ ∃ T q z, o.op = .alloc T /\ tinfo P T = some q /\ q.2.2 = some z /\ zeroOk q.1 z = true /\ bx[N]? = some (List.replicate q.1 .any)
section
variable {P : Program} {ops : Array Oper} {m : Nat} {vs : List (Nat × AV)} {E : List Nat} {A : List (Nat × Nat)} {C : Nat -> List AV} {i0 : Nat} {σ : St} {K : St -> Prop} {G0 : Orig} {w0 : World} {Q : Exit -> Act -> World -> Prop}
theorem head_runP {LF : List Nat} {tr : Tr} {sg : Option (Nat × Tr)} (hp : PlanL ops m E LF tr sg) (hE : PlanE ops m E) (h0 : True) (hN : ∀ e a w, e ≠ .normal -> ¬ Q e a w) (hQ : ∀ σ' G' a' w', K σ' -> SRel G0 w0 σ' G' a' w' -> Q .normal a' w') (hvl : vs.length = m) (hap : Apart vs) (hC : ∀ j, (C j).length = (C 0).length)
    (hK : treeA P ops tr (puts { σ with boxes := σ.boxes.set i0 (C E.length) } vs) K) (hK2 : sgA P ops sg (puts { σ with boxes := σ.boxes.set i0 (C E.length) } vs) K)
    (hst : ∀ i o, i < m -> ops[i]? = some o -> ∃ d y, vs[i]? = some (d, y) /\ o.dst = some d /\ d < σ.n /\
      if i ∈ E then EffC P σ i0 o d (puts σ (vs.take i)).ev (C (E.filter fun e => decide (e < i)).length) y (C ((E.filter fun e => decide (e < i)).length + 1)) else if i ∈ LF then FrontC P o (puts σ (vs.take i)).ev y else match lookA A i with | some N => AllocP P σ.boxes o N y | none => StepG P ops o d (puts σ (vs.take i)) (σ.boxes.set i0 (blankC E (C 0))) y)
    (hA : ∀ i N, i < m -> lookA A i = some N -> N ≠ i0 /\ G0.gh N = none /\ (∀ b, b < w0.heap.size -> G0 b ≠ .box N) /\ (∀ j d y, j ≠ i -> vs[j]? = some (d, y) -> y.allLeaf (noPb N) = true) /\ ∀ j, allLeafs (noPb N) (C j) = true)
    (hfr : ∀ i o d, ops[i]? = some o -> i < m -> o.dst = some d -> creates o.op = true -> (∀ j d' y, j ≠ i -> vs[j]? = some (d', y) -> y.allLeaf (freeLeaf d) = true \/ reach ops j j i = true) /\ ∀ j, allLeafs (freeLeaf d) (C j) = true) :
    ∀ (fuel : Nat) (listed : Array Bool) (U : List Nat) (τ : St) (G : Nat -> Status) (a : Act) (w : World), Left ops listed U -> U.length = fuel -> (∀ i, m <= i -> listed.getD i false = false) ->
      Closed ops (fun k => listed.getD k false) -> AtE vs E C i0 (fun i => listed.getD i false) σ τ -> SRel G0 w0 τ G a w ->
      (∀ i o d, ops[i]? = some o -> i < m -> o.dst = some d -> creates o.op = true -> listed.getD i false = false -> τ.free d = true) ->
      (∀ i N, i < m -> lookA A i = some N -> i ∉ E -> i ∉ LF -> listed.getD i false = false -> noPbT N τ.tmps = true /\ noPbB N τ.boxes = true) -> wpAny P .any ops Q fuel listed a w := by
  have posAll : ∀ {L : Nat -> Bool}, (∀ i, i < m -> L i = true) -> posE E L = E.length := fun {L} h => by
    unfold posE
    rw [List.filter_eq_self.2 fun e he => h e (hE.lt e he)]
  have done : ∀ {τ G a w} {L : Nat -> Bool}, AtE vs E C i0 L σ τ -> (∀ i, i < m -> L i = true) -> SRel G0 w0 τ G a w -> SRel G0 w0 (puts { σ with boxes := σ.boxes.set i0 (C E.length) } vs) G a w := by
    intro τ G a w L hat hall h
    have hpa := puts_at m vs { σ with boxes := σ.boxes.set i0 (C E.length) } hap
    rw [List.take_of_length_le (by omega)] at hpa
    refine h.slotsEq (by rw [hpa.n, hat.n]) (by rw [hpa.boxes, hat.boxes, posAll hall]) fun s => ?_
    by_cases hs : ∀ (i d : Nat) (y : AV), vs[i]? = some (d, y) -> d ≠ s
    · rw [hpa.rest s hs, hat.rest s hs]; rfl
    · have : ∃ (i : Nat) (y : AV), vs[i]? = some (s, y) := by
        apply Classical.byContradiction
        intro hcon
        exact hs fun i d y hi hds => hcon ⟨i, y, by rw [<- hds]; exact hi⟩
      obtain ⟨i, y, hi⟩ := this
      have hil : i < m := by rw [<- hvl]; exact (List.getElem?_eq_some_iff.1 hi).1
      rw [hpa.dst i s y hi, hat.dst i s y hi]
      simp [hil, hall i hil]
  have done2 : ∀ {τ G a w} {L : Nat -> Bool} {x dx : Nat} {yx : AV}, AtE vs E C i0 L σ τ -> x ∉ E -> vs[x]? = some (dx, yx) -> (∀ i, i < m -> i ≠ x -> L i = true) -> SRel G0 w0 τ G a w -> SRel G0 w0 ((puts { σ with boxes := σ.boxes.set i0 (C E.length) } vs).put (some dx) .any) G a w := by
    intro τ G a w L x dx yx hat hxE hx hall h
    have hpa := puts_at m vs { σ with boxes := σ.boxes.set i0 (C E.length) } hap
    rw [List.take_of_length_le (by omega)] at hpa
    have hpos : posE E L = E.length := by
      unfold posE
      rw [List.filter_eq_self.2 fun e he => hall e (hE.lt e he) fun h' => hxE (h' ▸ he)]
    have h2 := h.reput (d := dx) (x := .any) (.froz (.any _))
    refine h2.slotsEq (by rw [put_n, put_n, hpa.n, hat.n]) (by rw [put_boxes, put_boxes, hpa.boxes, hat.boxes, hpos]) fun s => ?_
    rw [get_put, get_put]
    by_cases hds : dx = s
    · rw [if_pos hds, if_pos hds]
    rw [if_neg hds, if_neg hds]
    by_cases hs : ∀ (i d : Nat) (y : AV), vs[i]? = some (d, y) -> d ≠ s
    · rw [hpa.rest s hs, hat.rest s hs]; rfl
    · have : ∃ (i : Nat) (y : AV), vs[i]? = some (s, y) := by
        apply Classical.byContradiction
        intro hcon
        exact hs fun i d y hi hds => hcon ⟨i, y, by rw [<- hds]; exact hi⟩
      obtain ⟨i, y, hi⟩ := this
      have hil : i < m := by rw [<- hvl]; exact (List.getElem?_eq_some_iff.1 hi).1
      have hix : i ≠ x := fun h' => by subst h'; rw [hx] at hi; cases hi; exact hds rfl
      rw [hpa.dst i s y hi, hat.dst i s y hi]
      simp [hil, hall i hil hix]
  intro fuel
  induction fuel with
  | zero =>
    intro listed U τ G a w hl hU hm hc hat h _ _
    have hUn : U = [] := List.eq_nil_of_length_eq_zero hU
    subst hUn
    have hall : ∀ i, i < ops.size -> listed.getD i false = true := fun i hi => by
      cases hb : listed.getD i false
      · have := (hl.mem i).2 ⟨hi, hb⟩; simp at this
      · rfl
    have hms : m = ops.size := by
      apply Classical.byContradiction
      intro hne
      have := hp.le
      have h1 := hall m (by omega)
      rw [hm m (Nat.le_refl m)] at h1; cases h1
    exact (tree_run (P := P) h0 hp.lt hN hQ tr true (List.range m) listed [] _ G a w hp.tr hl hc (fun i hi => by rw [hall i hi]; simp; omega) hK (done hat (fun i hi => hall i (by have := hp.le; omega)) h)).1 rfl
  | succ fuel ih =>
    intro listed U τ G a w hl hU hm hc hat h hfree hph
    have hUn : U ≠ [] := by intro h; rw [h] at hU; simp at hU
    by_cases hdone : ∀ i, i < m -> listed.getD i false = true
    · have := (tree_run (P := P) h0 hp.lt hN hQ tr true (List.range m) listed U _ G a w hp.tr hl hc (fun i hi => by
        simp only [List.contains_iff_mem, List.mem_range]
        refine ⟨fun hb => ?_, fun hlt => hdone i hlt⟩
        apply Classical.byContradiction
        intro hge
        rw [hm i (by omega)] at hb; cases hb) hK (done hat hdone h)).1 rfl
      rw [hU] at this; exact this
    by_cases hsg : ∃ x t, sg = some (x, t) /\ ∀ i, i < m -> i ≠ x -> listed.getD i false = true
    · obtain ⟨x, t, rfl, hall⟩ := hsg
      obtain ⟨hxm, hxE, hxL, _, ht⟩ := hp.sg x t rfl
      obtain ⟨o, ho⟩ : ∃ p, ops[x]? = some p := ⟨ops[x]'(by have := hp.le; omega), by have := hp.le; simp [show x < ops.size by omega]⟩
      obtain ⟨dx, yx, hv, hd, _, _⟩ := hst x o hxm ho
      have hxf : listed.getD x false = false := by
        cases hb : listed.getD x false
        · rfl
        · exact absurd (fun i hi => by by_cases hix : i = x; · rw [hix]; exact hb
                                       · exact hall i hi hix) hdone
      simp only [sgA, ho] at hK2
      obtain ⟨d', hd', hK2⟩ := hK2
      rw [hd] at hd'; cases hd'
      have := (tree_run (P := P) h0 hp.lt hN hQ t true _ listed U _ G a w ht hl hc (fun i hi => by
        simp only [List.contains_iff_mem, List.mem_filter, List.mem_range, Bool.not_eq_true', beq_eq_false_iff_ne, ne_eq]
        refine ⟨fun hb => ⟨?_, fun hix => by rw [hix, hxf] at hb; cases hb⟩, fun ⟨h1, h2⟩ => hall i h1 h2⟩
        apply Classical.byContradiction
        intro hge
        rw [hm i (by omega)] at hb; cases hb) hK2 (done2 hat hxE hv hall h)).1 rfl
      rw [hU] at this; exact this
    · suffices key : ∀ i, i ∈ Region.ready .any ops listed -> i < m -> (i ∈ LF -> wpAny P .any ops Q (fuel + 1) listed a w) /\ (i ∉ LF -> Go.wpOp P ops Q i (wpAny P .any ops Q fuel (listed.setIfInBounds i true)) a w) by
        by_cases hLF : ∃ j, j ∈ LF /\ j ∈ Region.ready .any ops listed
        · obtain ⟨j, h1, h2⟩ := hLF
          exact (key j h2 (hp.fr j h1).1).1 h1
        · refine ⟨fun hr => absurd hr (some_ready hl hp.lt hUn), fun i hi => (key i hi ?_).2 fun hiL => hLF ⟨i, hiL, hi⟩⟩
          obtain ⟨o, ho, h1, h2⟩ := (ready_iff hl.size).1 hi
          apply Classical.byContradiction
          intro hge
          have hall : ∀ j, j < m -> sgIs sg j = false -> listed.getD j false = true := fun j => by
            refine Nat.strongRecOn (motive := fun j => j < m -> sgIs sg j = false -> listed.getD j false = true) j ?_
            intro j ihj hjm hjs
            by_cases hjL : j ∈ LF
            · obtain ⟨p, hpj⟩ : ∃ p, ops[j]? = some p := ⟨ops[j]'(by have := hp.le; omega), by have := hp.le; simp [show j < ops.size by omega]⟩
              cases hb : listed.getD j false
              · exact absurd ⟨j, hjL, (ready_iff hl.size).2 ⟨p, hpj, hb, fun k hk => by
                  have := hp.lt j p hpj k hk
                  refine ihj k this (by omega) ?_
                  cases hsg' : sg with
                  | none => rfl
                  | some q =>
                    obtain ⟨x, t⟩ := q
                    have := (hp.sg x t hsg').2.2.2.1 j hjL p hpj
                    simp only [sgIs, beq_eq_false_iff_ne, ne_eq]
                    exact fun hkx => this (hkx ▸ hk)⟩⟩ hLF
              · rfl
            · exact reach_listed hc ops.size i j o ho h2 (hp.tail i o ho (by omega) j hjm hjL hjs)
          cases hsg' : sg with
          | none => exact hdone fun j hj => hall j hj (by rw [hsg']; rfl)
          | some q =>
            obtain ⟨x, t⟩ := q
            exact hsg ⟨x, t, hsg', fun j hj hjx => hall j hj (by rw [hsg']; simpa [sgIs] using hjx)⟩
      intro i hi him
      obtain ⟨o, ho, h1, h2⟩ := (ready_iff hl.size).1 hi
      have hlt := (Array.getElem?_eq_some_iff.1 ho).1
      obtain ⟨d, y, hv, hd, hdn, hstep⟩ := hst i o him ho
      obtain ⟨d', hd', hself, hpair⟩ := hp.head i o ho him
      rw [hd] at hd'; cases hd'
      have hmem : i ∈ U := (hl.mem i).2 ⟨hlt, h1⟩
      obtain ⟨l1, l2⟩ := hl.step hmem
      have hsz : i < listed.size := by rw [hl.size]; exact hlt
      have hsame : ∀ s ∈ slotsG ops o, (puts σ (vs.take i)).get s = τ.get s := by
        intro s hsm
        have hpa := puts_at i vs σ hap
        by_cases hs : ∀ (i d : Nat) (y : AV), vs[i]? = some (d, y) -> d ≠ s
        · rw [hpa.rest s hs, hat.rest s hs]
        · have : ∃ (j : Nat) (y : AV), vs[j]? = some (s, y) := by
            apply Classical.byContradiction
            intro hcon
            exact hs fun i d y hi hds => hcon ⟨i, y, by rw [<- hds]; exact hi⟩
          obtain ⟨j, y', hj⟩ := this
          have hjl : j < m := by rw [<- hvl]; exact (List.getElem?_eq_some_iff.1 hj).1
          obtain ⟨p, hpj⟩ : ∃ p, ops[j]? = some p := ⟨ops[j]'(by have := hp.le; omega), by have := hp.le; simp [show j < ops.size by omega]⟩
          obtain ⟨d'', y'', hv'', hds'', _⟩ := hst j p hjl hpj
          rw [hj] at hv''; cases hv''
          have hji : j ≠ i := fun hji => by subst hji; rw [hv] at hj; cases hj; exact hself hsm
          have hre := (hpair j p s hjl hji hpj hds'').2 hsm
          rw [hpa.dst j s y' hj, hat.dst j s y' hj]
          by_cases hjlt : j < i
          · rw [if_pos hjlt] at hre
            have := reach_listed hc ops.size i j o ho h2 hre
            simp [hjlt, this]
          · rw [if_neg hjlt] at hre
            have hjf : listed.getD j false = false := by
              cases hb : listed.getD j false
              · rfl
              · have := reach_listed hc ops.size j i p hpj (fun k hk => hc j p hpj hb k hk) hre
                rw [h1] at this; cases this
            simp [hjlt, hjf]
      have hevs : ∀ x ∈ o.op.operands, (puts σ (vs.take i)).ev x = τ.ev x := by
        intro x hx
        cases x with
        | tmp s =>
          simp only [St.ev]
          refine hsame s (List.mem_append.2 (.inr ?_))
          unfold slotsOf
          exact List.mem_filterMap.2 ⟨.tmp s, by simpa using hx, rfl⟩
        | const v => rfl
        | func f => rfl
        | global g => rfl
      -- the frame behind the step
      have hLi : (listed.setIfInBounds i true).getD i false = true := by rw [set_getD hsz]; simp
      have hLj : ∀ j, j ≠ i -> (listed.setIfInBounds i true).getD j false = listed.getD j false := fun j hj => by rw [set_getD hsz, if_neg (Ne.symm hj)]
      have hpos := posE_step (L := fun k => listed.getD k false) (L' := fun k => (listed.setIfInBounds i true).getD k false) hE.nodup hLj h1 hLi
      have hgo : ∀ {τ' G' a' w'}, τ'.n = τ.n -> τ'.tmps = putT τ.tmps d y -> τ'.boxes = σ.boxes.set i0 (C (posE E fun k => (listed.setIfInBounds i true).getD k false)) -> SRel G0 w0 τ' G' a' w' -> wpAny P .any ops Q fuel (listed.setIfInBounds i true) a' w' := by
        intro τ' G' a' w' e1 e2 e3 hs'
        have hget : ∀ s, τ'.get s = if d = s then y else τ.get s := fun s => by unfold St.get; rw [e2, lookT_put]
        refine ih _ _ τ' G' _ _ l1 (by omega) (fun j hj => ?_) (hc.step hsz ho h2) ⟨by rw [e1, hat.n], e3, fun j d' y' hj => ?_, fun s hs => ?_⟩ hs' (fun j oj dj hoj hjm hdj hcr hjf => ?_) (fun j N hjm hjA hjE hjL hjf => ?_)
        · rw [set_getD hsz, if_neg (by omega)]; exact hm j hj
        · rw [hget]
          by_cases hij : j = i
          · subst hij; rw [hv] at hj; cases hj; simp [hLi]
          · rw [if_neg (hap i j d y d' y' hv hj (Ne.symm hij)), hat.dst j d' y' hj, hLj j hij]
        · rw [hget, if_neg (hs i d y hv), hat.rest s hs]
        · by_cases hij : j = i
          · subst hij; rw [hLi] at hjf; cases hjf
          · rw [hLj j hij] at hjf
            have hf := hfree j oj dj hoj hjm hdj hcr hjf
            obtain ⟨f1, f2⟩ := hfr j oj dj hoj hjm hdj hcr
            have f1 : y.allLeaf (freeLeaf dj) = true := (f1 i d y (Ne.symm hij) hv).elim id fun f1 => by
              have := reach_listed hc i i j o ho h2 f1
              rw [hjf] at this; cases this
            simp only [St.free, Bool.and_eq_true, decide_eq_true_eq] at hf ⊢
            refine ⟨hf.1, by rw [e2]; exact freeT_put f1 hf.2.1, ?_⟩
            rw [e3]
            have hfb := hf.2.2
            rw [hat.boxes] at hfb
            have hset : ∀ (bx : List (List AV)) (k : Nat) (c c' : List AV), freeB dj (bx.set k c) = true -> allLeafs (freeLeaf dj) c' = true -> freeB dj (bx.set k c') = true := by
              intro bx
              induction bx with
              | nil => intro k c c' _ _; rfl
              | cons b bx ihb =>
                intro k c c' h1 h2
                cases k with
                | zero => simp only [List.set_cons_zero, freeB, Bool.and_eq_true] at h1 ⊢; exact ⟨h2, h1.2⟩
                | succ k => simp only [List.set_cons_succ, freeB, Bool.and_eq_true] at h1 ⊢; exact ⟨h1.1, ihb k c c' h1.2 h2⟩
            exact hset _ _ _ _ hfb (f2 _)
        · by_cases hij : j = i
          · subst hij; rw [hLi] at hjf; cases hjf
          · rw [hLj j hij] at hjf
            obtain ⟨q1, q2⟩ := hph j N hjm hjA hjE hjL hjf
            obtain ⟨_, _, _, f1, f2⟩ := hA j N hjm hjA
            refine ⟨by rw [e2]; exact noPbT_put (f1 i d y (Ne.symm hij) hv) q1, ?_⟩
            rw [e3]
            rw [hat.boxes] at q2
            have := noPbB_set _ i0 _ q2 (f2 (posE E fun k => (listed.setIfInBounds i true).getD k false))
            rw [List.set_set] at this
            exact this
      refine ⟨fun hiL => ?_, fun hnL => ?_⟩
      · obtain ⟨_, hiE, hfr'⟩ := hp.fr i hiL
        obtain ⟨d', hfront⟩ := hfr' o ho
        obtain rfl : d = d' := by have := hfront.dst; rw [hd] at this; simpa using this
        rw [if_neg hiE, if_pos hiL] at hstep
        rw [if_neg hiE, Nat.add_zero] at hpos
        obtain ⟨v, hv', hex⟩ := hstep G a w h.good (fun x hx => by rw [hevs x hx]; exact h.ev x)
        have hs' := h.add (.refl G w) h.good (fun _ _ h => h) (d := some d) (x := y) (v := v) (by simp [dstOk, hat.n, hdn]) hv'
        exact front_run hN hfront fuel listed a w v hl.size hc hi hex (hgo (τ' := τ.put (some d) y) rfl rfl (by rw [put_boxes, hat.boxes, hpos]) hs')
      by_cases hiE : i ∈ E
      case neg =>
        rw [if_neg hiE, if_neg hnL] at hstep
        rw [if_neg hiE, Nat.add_zero] at hpos
        cases hlA : lookA A i with
        | some N =>
          rw [hlA] at hstep
          obtain ⟨hgd, rfl, T, q, z, hop, hq, hz, hzo, hbN⟩ := hstep
          obtain ⟨a1, a2, a3, _, _⟩ := hA i N him hlA
          obtain ⟨p1, p2⟩ := hph i N him hlA hiE hnL h1
          have hbN' : τ.boxes[N]? = some (List.replicate q.1 .any) := by rw [hat.boxes, List.getElem?_set_ne (Ne.symm a1)]; exact hbN
          obtain ⟨hu, hun⟩ := h.unbox a2 a3 p1 p2 hbN'
          simp only [zeroOk, Bool.and_eq_true, decide_eq_true_eq] at hzo
          obtain ⟨_, hone⟩ := ofConst_cells (S := fun _ => False) (w := w) z hzo.2
          have hr := hu.realize (d := d) (z := z) (T := T) a2 hun (by rw [hzo.1]; exact hbN') hone (by rw [hat.n]; exact hdn)
          obtain ⟨sz, by_, zz⟩ := q
          simp only at hz
          subst hz
          obtain ⟨ti, hti, _, _, hzz⟩ := tinfo_some hq
          have hrun : (execOp a.eval o).run P w = .ok (.value (.pointer (some ⟨w.heap.size, 0, none⟩))) (w.alloc (.cells z.cells T)) := by
            simp [execOp, hop, Instr.alloc, newVar, newRow, zeroValue, typeInfo, hti, hzz]
          simp only [Go.wpOp, ho]
          rw [if_pos (by simp [Region.wanted, hgd])]
          refine .inl ?_
          simp only [Oper.wp, hrun, Oper.upon, hd]
          exact hgo (τ' := τ.put (some d) (.pb N 0)) rfl rfl (by rw [put_boxes, hat.boxes, hpos]) hr
        | none =>
        rw [hlA] at hstep
        have hops : ∀ x ∈ o.op.operands, ∀ {G}, SRel G0 w0 τ G a w -> VRel G w ((puts σ (vs.take i)).ev x) (a.eval x) := fun x hx G h => by rw [hevs x hx]; exact h.ev x
        have hgo2 : ∀ {G' a' w'}, SRel G0 w0 (τ.put (some d) y) G' a' w' -> wpAny P .any ops Q fuel (listed.setIfInBounds i true) a' w' := fun hs' =>
          hgo (τ' := τ.put (some d) y) rfl rfl (by rw [put_boxes, hat.boxes, hpos]) hs'
        have hrun : StepOk P o d (puts σ (vs.take i)).ev (σ.boxes.set i0 (blankC E (C 0))) y -> o.wp P a w (wpAny P .any ops Q fuel (listed.setIfInBounds i true)) Q := by
          intro hstep
          have key : ∀ {G}, SRel G0 w0 τ G a w -> (creates o.op = true -> Fresh d G) -> o.wp P a w (wpAny P .any ops Q fuel (listed.setIfInBounds i true)) Q := fun {G} h hfr' =>
            hstep _ G a w h.good ((show BRel _ G w (σ.boxes.set i0 (C (posE E fun k => listed.getD k false))) from by rw [<- hat.boxes]; exact h.boxes).blank (hC _) fun hE0 => by rw [hE0]; rfl) hfr' (fun x hx => hops x hx h) _ _ fun v w' G' g1 g2 g3 g4 =>
              hgo2 (by rw [hd]; exact h.add g2 g3 g4.boxes (by simp [dstOk, hat.n, hdn]) g1)
          by_cases hcr : creates o.op = true
          · obtain ⟨hs, hf⟩ := h.fresh (hfree i o d ho him hd hcr h1) h0
            exact key hs fun _ => hf
          · exact key h fun hc' => absurd hc' hcr
        simp only [Go.wpOp, ho]
        rcases hstep with ⟨hg, hstep⟩ | ⟨j, want, g, c, hg, hgs, hgv, hc2⟩ | ⟨j, want, g, vs', hg, hgs, hgv, rfl⟩
        · rw [if_pos (by simp [Region.wanted, hg])]
          exact .inl (hrun hstep)
        · have hgm : g ∈ slotsG ops o := by simp [slotsG, guardS, hg, hgs]
          have hv2 := h.slots g
          rw [<- hsame g hgm, hgv] at hv2
          have hy := yielded_bool hgs hv2.sc_inv
          rcases hc2 with ⟨rfl, hstep⟩ | ⟨hne, rfl⟩
          · rw [if_pos (by simp [Region.wanted, hg, hy])]
            exact .inl (hrun hstep)
          · rw [if_neg (by simp [Region.wanted, hg, hy, hne])]
            have hs' := h.add (.refl G w) h.good (fun _ _ h => h) (d := o.dst) (x := .sc undef) (v := undef) (by rw [hd]; simp [dstOk, hat.n, hdn]) (.froz (.sc _))
            exact hgo2 (G' := G) (by rw [hd] at hs' ⊢; exact hs')
        · have hgm : g ∈ slotsG ops o := by simp [slotsG, guardS, hg, hgs]
          have hv2 := h.slots g
          rw [<- hsame g hgm, hgv] at hv2
          have hy := yielded_none hgs hv2.sc_inv
          rw [if_neg (by simp [Region.wanted, hg, hy])]
          have hs' := h.add (.refl G w) h.good (fun _ _ h => h) (d := o.dst) (x := .sc undef) (v := undef) (by rw [hd]; simp [dstOk, hat.n, hdn]) (.froz (.sc _))
          exact hgo2 (G' := G) (by rw [hd] at hs' ⊢; exact hs')
      case pos =>
        rw [if_pos hiE] at hstep
        rw [if_pos hiE] at hpos
        obtain ⟨hg, fid, args, As, r, c1, hop, hpb, hnt, hnt0, hcon, hr1, hr2, hye, hce⟩ := hstep
        -- all effects ahead of it are listed, none behind it is
        have hposi : posE E (fun k => listed.getD k false) = (E.filter fun e => decide (e < i)).length := by
          unfold posE
          congr 1
          refine List.filter_congr fun e he => ?_
          rcases Nat.lt_trichotomy e i with hlt' | heq | hgt
          · have := reach_listed hc ops.size i e o ho h2 (hE.chain e he i hiE hlt')
            simp [hlt', this]
          · subst heq; simp [h1]
          · have hnl : listed.getD e false = false := by
              cases hb : listed.getD e false
              · rfl
              · have hel := hE.lt e he
                obtain ⟨p, hpe⟩ : ∃ p, ops[e]? = some p := ⟨ops[e]'(by have := hp.le; omega), by have := hp.le; simp [show e < ops.size by omega]⟩
                have := reach_listed hc ops.size e i p hpe (fun k hk => hc e p hpe hb k hk) (hE.chain i hiE e he hgt)
                rw [h1] at this; cases this
            simp [hnl]; omega
        have hargs : args.toList.map (puts σ (vs.take i)).ev = args.toList.map τ.ev := by
          refine List.map_congr_left fun x hx => hevs x ?_
          simp [hop, Op.operands, Call.operands]
          exact .inr (by simpa using hx)
        rw [hargs] at hpb hnt hcon
        have hcr : creates o.op = true := by simp [creates, hop]
        have hfd := hfree i o d ho him hd hcr h1
        -- the variable is there
        have hva : ∀ G, SRel G0 w0 τ G a w -> PW (VRel G w) (args.toList.map τ.ev) (args.map a.eval).toList := fun G hs => by
          rw [Array.toList_map]
          refine ⟨by simp, fun j x u hx hu => ?_⟩
          simp only [List.getElem?_map] at hx hu
          cases hj : args.toList[j]? with
          | none => simp [hj] at hx
          | some c => simp [hj] at hx hu; subst hx; subst hu; exact hs.ev c
        have hi0 : i0 < σ.boxes.length := by
          obtain ⟨b, hb⟩ := pbss_real (i := i0) _ _ (hva G h) (dedup_mem _ (by rw [hpb]; simp))
          have := h.blt b i0 hb
          rw [hat.boxes] at this; simpa using this
        have hbx : getAll τ.boxes [i0] = some [C (posE E fun k => listed.getD k false)] := by
          simp only [getAll, hat.boxes, List.getElem?_set, if_true, hi0]
        have hlen : τ.boxes.length = σ.boxes.length := by rw [hat.boxes]; simp
        rw [<- hposi] at hcon hnt0 hce
        have hcall : CallB P fid (args.toList.map τ.ev) [i0] d τ fun σ' => σ'.n = τ.n /\ σ'.tmps = putT τ.tmps d y /\ σ'.boxes = σ.boxes.set i0 (C (posE E (fun k => listed.getD k false) + 1)) := by
          refine ⟨hfd, by rw [hat.n]; exact hdn, hnt, rfl, _, hbx, hnt0, hcon.mono ?_⟩
          rintro r' bx ⟨rfl, rfl⟩
          refine ⟨hr1, hr2, rfl, by rw [hlen, <- hye]; rfl, ?_⟩
          rw [put_boxes]
          have hce' : mapB (outLeaf (64 * (d + 1)) [i0] σ.boxes.length) [c1] = [C (posE E (fun k => listed.getD k false) + 1)] := hce.symm
          simp only [List.length_singleton, List.take_succ_cons, List.take_zero, List.drop_succ_cons, List.drop_nil, hlen, hce', mapB, setAll, List.append_nil]
          rw [hat.boxes, List.set_set]
        obtain ⟨⟨fn, hfn, hname, hbody⟩, hcalls⟩ := CallB.sound hcall h h0 hva (fun G hs j hj => by
          simp at hj; subst hj
          exact pbss_real _ _ (hva G hs) (dedup_mem _ (by rw [hpb]; simp)))
        have hrun : (execOp a.eval o).run P w = .ok (.enter fid (args.map a.eval)) w := by
          have hname' : ¬ fn.name = "runtime.NumGoroutine" := by simpa using hname
          have hbody' : ¬ fn.body = none := by intro h; rw [h] at hbody; simp at hbody
          have hfe : a.eval (.func fid) = .func (.func fid) #[] #[] := rfl
          simp [execOp, hop, resolve, hfe, Deferred.ofValue, invoke, callFunc, hfn, hname', hbody']
        simp only [Go.wpOp, ho]
        rw [if_pos (by simp [Region.wanted, hg])]
        refine .inl ?_
        unfold Oper.wp
        rw [hrun, Oper.upon_enter]
        refine hcalls.mono ?_
        rintro e w' ⟨v, σ', G', rfl, ⟨e1, e2, e3⟩, hs'⟩
        exact hgo e1 e2 (by rw [e3, hpos]) (by rw [hd]; exact hs')
end
def noVar : AV -> Bool
 | .pb _ _ => false
 | .cl _ _ => false
 | _ => true
theorem noVar_noPb {N : Nat} : ∀ x : AV, noVar x = true -> noPb N x = true := fun x h => by cases x <;> simp_all [noVar, noPb]
def AllocK (P : Program) (o : Oper) (N : Nat) (σ : St) (K : St -> Prop) : Prop :=
 ∃ d, o.dst = some d /\ d < σ.n /\ AllocP P σ.boxes o N (.pb N 0) /\ K (σ.put (some d) (.pb N 0))
def headF (P : Program) (ops : Array Oper) (n0 i0 : Nat) (E LF : List Nat) (A : List (Nat × Nat)) : Nat -> List Oper -> St -> List AV -> (St -> List AV -> Prop) -> Prop
 | _, [], σ, c, K => K σ c
 | k, o :: r, σ, c, K => if E.contains k = true then EffK P n0 i0 o σ c fun σ' c' => allLeafs noVar c' = true /\ headF P ops n0 i0 E LF A (k + 1) r σ' c' K else if LF.contains k = true then frB P o σ fun σ' => headF P ops n0 i0 E LF A (k + 1) r σ' c K else match lookA A k with
  | some N => AllocK P o N σ fun σ' => headF P ops n0 i0 E LF A (k + 1) r σ' c K
  | none => headG P ops o σ fun σ' => headF P ops n0 i0 E LF A (k + 1) r σ' c K
section
variable {P : Program} {ops : Array Oper} {n0 i0 : Nat} {E LF : List Nat} {A : List (Nat × Nat)}
theorem headF_vals (hn : E.Nodup) : ∀ (l : List Oper) (k : Nat) (σ : St) (c : List AV) (K : St -> List AV -> Prop), headF P ops n0 i0 E LF A k l σ c K -> allLeafs noTag c = true -> allLeafs noVar c = true -> ∃ (vs : List (Nat × AV)) (C : Nat -> List AV), vs.length = l.length /\ (∀ j, j <= cntE E k -> C j = c) /\ (∀ j, (C j).length = c.length /\ allLeafs noTag (C j) = true /\ allLeafs noVar (C j) = true) /\ K (puts σ vs) (C (cntE E (k + l.length))) /\
  ∀ i o, l[i]? = some o -> ∃ d y, vs[i]? = some (d, y) /\ o.dst = some d /\ d < σ.n /\
   if k + i ∈ E then EffC P ⟨0, [], List.replicate n0 []⟩ i0 o d (puts σ (vs.take i)).ev (C (cntE E (k + i))) y (C (cntE E (k + i) + 1)) else if k + i ∈ LF then FrontC P o (puts σ (vs.take i)).ev y else match lookA A (k + i) with | some N => AllocP P σ.boxes o N y | none => StepG P ops o d (puts σ (vs.take i)) σ.boxes y
 | [], k, σ, c, K, h, hc, hn0 => ⟨[], fun _ => c, rfl, fun _ _ => rfl, fun _ => ⟨rfl, hc, hn0⟩, h, fun i o hi => by simp at hi⟩
 | o :: l, k, σ, c, K, h, hc, hn0 => by
  unfold headF at h
  have hcs := cntE_succ hn k
  by_cases hk : k ∈ E
  ·rw [if_pos (by simpa using hk)] at h
   rw [if_pos hk] at hcs
   obtain ⟨d, y, c', h1, h2, h3, h4, h5, h7, h6⟩ := h
   obtain ⟨vs, C, g1, g2, g3, g4, g5⟩ := headF_vals hn l (k + 1) _ c' K h6 h5 h7
   refine ⟨(d, y) :: vs, fun j => if j <= cntE E k then c else C j, by simp [g1], fun j hj => if_pos hj, fun j => ?_, ?_, fun i o' hi => ?_⟩
   ·simp only
    split
    ·exact ⟨rfl, hc, hn0⟩
    ·exact ⟨(g3 j).1.trans h4, (g3 j).2⟩
   ·simp only [puts, List.length_cons]
    rw [show k + (l.length + 1) = k + 1 + l.length by omega]
    have : ¬ cntE E (k + 1 + l.length) <= cntE E k := by
     have : ∀ t, cntE E (k + 1) <= cntE E (k + 1 + t) := fun t => by
      induction t with
      | zero => exact Nat.le_refl _
      | succ t ih => have := cntE_succ hn (k + 1 + t); rw [show k + 1 + (t + 1) = k + 1 + t + 1 by omega]; omega
     have := this l.length; omega
    rw [if_neg this]; exact g4
   ·cases i with
    | zero =>
     simp at hi; subst hi
     refine ⟨d, y, rfl, h1, h2, ?_⟩
     rw [Nat.add_zero, if_pos hk]
     dsimp only
     rw [if_pos (Nat.le_refl _), if_neg (by omega), <- hcs, g2 _ (Nat.le_refl _)]
     exact h3
    | succ i =>
     obtain ⟨d', y', k1, k2, k3, k4⟩ := g5 i o' (by simpa using hi)
     rw [put_n] at k3
     refine ⟨d', y', by simpa using k1, k2, k3, ?_⟩
     rw [show k + (i + 1) = k + 1 + i by omega]
     have hge : ∀ t, cntE E (k + 1) <= cntE E (k + 1 + t) := fun t => by
      induction t with
      | zero => exact Nat.le_refl _
      | succ t ih => have := cntE_succ hn (k + 1 + t); rw [show k + 1 + (t + 1) = k + 1 + t + 1 by omega]; omega
     have := hge i
     dsimp only
     rw [if_neg (show ¬ cntE E (k + 1 + i) <= cntE E k by omega), if_neg (show ¬ cntE E (k + 1 + i) + 1 <= cntE E k by omega)]
     rw [put_boxes] at k4
     exact k4
  ·rw [if_neg (by simpa using hk)] at h
   rw [if_neg hk, Nat.add_zero] at hcs
   obtain ⟨d, y, h1, h2, h3, h4⟩ : ∃ d y, o.dst = some d /\ d < σ.n /\ headF P ops n0 i0 E LF A (k + 1) l (σ.put (some d) y) c K /\ if k ∈ LF then FrontC P o σ.ev y else match lookA A k with | some N => AllocP P σ.boxes o N y | none => StepG P ops o d σ σ.boxes y := by
    by_cases hkL : k ∈ LF
    ·rw [if_pos (by simpa using hkL)] at h
     obtain ⟨d, y, h1, h2, h3, h4⟩ := frB_sound h
     exact ⟨d, y, h1, h2, h3, by rw [if_pos hkL]; exact h4⟩
    ·rw [if_neg (by simpa using hkL)] at h
     cases hlA : lookA A k with
     | some N =>
      rw [hlA] at h
      obtain ⟨d, h1, h2, h4, h3⟩ := h
      exact ⟨d, _, h1, h2, h3, by rw [if_neg hkL]; exact h4⟩
     | none =>
      rw [hlA] at h
      obtain ⟨d, y, h1, h2, h3, h4⟩ := headG_sound h
      exact ⟨d, y, h1, h2, h3, by rw [if_neg hkL]; exact h4⟩
   obtain ⟨vs, C, g1, g2, g3, g4, g5⟩ := headF_vals hn l (k + 1) _ c K h3 hc hn0
   refine ⟨(d, y) :: vs, C, by simp [g1], fun j hj => g2 j (by omega), g3, ?_, fun i o' hi => ?_⟩
   ·simp only [puts, List.length_cons]
    rw [show k + (l.length + 1) = k + 1 + l.length by omega]; exact g4
   ·cases i with
    | zero =>
     simp at hi; subst hi
     refine ⟨d, y, rfl, h1, h2, ?_⟩
     rw [Nat.add_zero, if_neg hk]; exact h4
    | succ i =>
     obtain ⟨d', y', k1, k2, k3, k4⟩ := g5 i o' (by simpa using hi)
     rw [put_n] at k3
     rw [put_boxes] at k4
     refine ⟨d', y', by simpa using k1, k2, k3, ?_⟩
     rw [show k + (i + 1) = k + 1 + i by omega]; exact k4
def pbBut (N d : Nat) : List (Nat × AV) -> Bool
 | [] => true
 | (s, v) :: r => (s == d || v.allLeaf (noPb N)) && pbBut N d r
theorem pbBut_look {N d : Nat} : ∀ {l : List (Nat × AV)}, pbBut N d l = true -> ∀ s, s ≠ d -> (lookT l s).allLeaf (noPb N) = true
 | [], _, _, _ => rfl
 | (s', v) :: r, h, s, hs => by
  simp only [pbBut, Bool.and_eq_true, Bool.or_eq_true, beq_iff_eq] at h
  unfold lookT
  split
  ·rename_i he
   rcases h.1 with h1 | h1
   ·exact absurd (he.symm.trans h1) (by intro e; exact hs e)
   ·exact h1
  ·exact pbBut_look h.2 s hs
def keptOk (ops : Array Oper) (l : List (Nat × AV)) : List (Nat × Nat) -> Bool
 | [] => true
 | (i, N) :: r => (match (ops[i]?).bind (·.dst) with
  | some d => pbBut N d l
  | none => false) && keptOk ops l r
def keptFree (σ : St) : List (Nat × Nat) -> Bool
 | [] => true
 | (_, N) :: r => (decide (σ.boxes.length <= N) && (noPbT N σ.tmps && noPbB N σ.boxes)) && keptFree σ r
theorem keptOk_mem {l : List (Nat × AV)} : ∀ {A : List (Nat × Nat)}, keptOk ops l A = true -> ∀ i N, lookA A i = some N -> ∃ d, (ops[i]?).bind (·.dst) = some d /\ pbBut N d l = true
 | [], _, i, N, h => by simp [lookA] at h
 | (k, M) :: r, h, i, N, hi => by
  simp only [keptOk, Bool.and_eq_true] at h
  simp only [lookA] at hi
  split at hi
  ·rename_i e; subst e; cases hi
   have h1 := h.1
   split at h1
   ·rename_i d hd; exact ⟨d, hd, h1⟩
   ·cases h1
  ·exact keptOk_mem h.2 i N hi
theorem keptFree_mem {σ : St} : ∀ {A : List (Nat × Nat)}, keptFree σ A = true -> ∀ i N, lookA A i = some N -> σ.boxes.length <= N /\ noPbT N σ.tmps = true /\ noPbB N σ.boxes = true
 | [], _, i, N, h => by simp [lookA] at h
 | (k, M) :: r, h, i, N, hi => by
  simp only [keptFree, Bool.and_eq_true, decide_eq_true_eq] at h
  simp only [lookA] at hi
  split at hi
  ·cases hi; exact h.1
  ·exact keptFree_mem h.2 i N hi
def anyB (ph : List Nat) : List (List AV) := ph.map fun k => List.replicate k .any
theorem noPbB_any {N : Nat} : ∀ ph : List Nat, noPbB N (anyB ph) = true
 | [] => rfl
 | k :: r => by
  show (allLeafs (noPb N) (List.replicate k .any) && noPbB N (anyB r)) = true
  rw [noPbB_any r, Bool.and_true]
  induction k with
  | zero => rfl
  | succ k ih => rw [List.replicate_succ]; simp only [allLeafs, ih, Bool.and_true]; rfl
theorem noPbB_app {N : Nat} : ∀ (x y : List (List AV)), noPbB N (x ++ y) = (noPbB N x && noPbB N y)
 | [], y => by simp [noPbB]
 | c :: x, y => by rw [List.cons_append, noPbB, noPbB, noPbB_app x y, Bool.and_assoc]
theorem SRel.kept {G0 w0 σ G a w} (h : SRel G0 w0 σ G a w) (ph : List Nat) : SRel G0 w0 { σ with boxes := σ.boxes ++ anyB ph } G a w :=
 { h with
  boxes := ⟨fun i vs hv => by have := h.boxes.low i vs hv; simp only [List.length_append]; omega, fun i cs hi => by
   simp only at hi
   by_cases hlt : i < σ.boxes.length
   ·rw [List.getElem?_append_left hlt] at hi; exact h.boxes.cell i cs hi
   ·rw [List.getElem?_append_right (by omega)] at hi
    refine .inr (.inr ⟨by cases hgh : G0.gh i with | none => rfl | some vs => have := h.boxes.low _ vs hgh; omega, fun b hb => by have := h.blt b i hb; omega, fun x hx v => ?_⟩)
    unfold anyB at hi
    rw [List.getElem?_map] at hi
    cases hp : ph[i - σ.boxes.length]? with
    | none => simp [hp] at hi
    | some k => simp [hp] at hi; subst hi; rw [(List.mem_replicate.1 hx).2]; exact .froz (.any _)⟩
  blt := fun b i hb => by have := h.blt b i hb; simp only [List.length_append]; omega }
theorem freeB_kept {d : Nat} : ∀ ph : List Nat, freeB d (anyB ph) = true
 | [] => rfl
 | k :: r => by
  show (allLeafs (freeLeaf d) (List.replicate k .any) && freeB d (anyB r)) = true
  rw [freeB_kept r, Bool.and_true]
  induction k with
  | zero => rfl
  | succ k ih => rw [List.replicate_succ]; simp only [allLeafs, ih, Bool.and_true]; rfl
theorem freeB_two {d : Nat} : ∀ (x y : List (List AV)), freeB d (x ++ y) = (freeB d x && freeB d y)
 | [], y => by simp [freeB]
 | c :: x, y => by rw [List.cons_append, freeB, freeB, freeB_two x y, Bool.and_assoc]
theorem freeAll_kept {σ : St} (ph : List Nat) : ∀ {ds : List Nat}, freeAll σ ds = true -> freeAll { σ with boxes := σ.boxes ++ anyB ph } ds = true
 | [], _ => rfl
 | d :: r, h => by
  simp only [freeAll, Bool.and_eq_true] at h ⊢
  refine ⟨?_, freeAll_kept ph h.2⟩
  have h1 := h.1
  simp only [St.free, Bool.and_eq_true] at h1 ⊢
  exact ⟨h1.1, h1.2.1, by rw [freeB_two, h1.2.2, freeB_kept]; rfl⟩
def hasD (d s : Nat) : List (Nat × Nat) -> Bool
 | [] => false
 | (a, b) :: r => (a == d && b == s) || hasD d s r
def freeButD (D : List (Nat × Nat)) (d : Nat) : List (Nat × AV) -> Bool
 | [] => true
 | (s, v) :: r => (s == d || (hasD d s D || v.allLeaf (freeLeaf d))) && freeButD D d r
def freeOthersD (D : List (Nat × Nat)) (l : List (Nat × AV)) : List Nat -> Bool
 | [] => true
 | d :: r => freeButD D d l && freeOthersD D l r
theorem freeButD_look {D : List (Nat × Nat)} {d : Nat} : ∀ {l : List (Nat × AV)}, freeButD D d l = true -> ∀ s, s ≠ d -> hasD d s D = true \/ (lookT l s).allLeaf (freeLeaf d) = true
 | [], _, _, _ => .inr rfl
 | (s', v) :: r, h, s, hs => by
  simp only [freeButD, Bool.and_eq_true, Bool.or_eq_true, beq_iff_eq] at h
  unfold lookT
  split
  ·rename_i he
   rcases h.1 with h1 | h1 | h1
   ·exact absurd (he.symm.trans h1) (by intro e; exact hs e)
   ·rw [<- he]; exact .inl h1
   ·exact .inr h1
  ·exact freeButD_look h.2 s hs
theorem freeOthersD_mem {D : List (Nat × Nat)} {l : List (Nat × AV)} : ∀ {ds : List Nat}, freeOthersD D l ds = true -> ∀ d ∈ ds, freeButD D d l = true
 | d' :: r, h, d, hd => by
  simp only [freeOthersD, Bool.and_eq_true] at h
  rcases List.mem_cons.1 hd with rfl | hd
  ·exact h.1
  ·exact freeOthersD_mem h.2 d hd
def lateP (ops : Array Oper) (m d s : Nat) : Bool := (List.range m).all fun i => match ops[i]? with
 | some o => (o.dst != some s) || (List.range m).all fun j => match ops[j]? with
  | some o' => (o'.dst != some d) || reach ops i i j
  | none => true
 | none => true
def lateD (ops : Array Oper) (m : Nat) : List (Nat × Nat) -> Bool
 | [] => true
 | (d, s) :: r => lateP ops m d s && lateD ops m r
theorem lateD_has {ops : Array Oper} {m d s : Nat} : ∀ {D : List (Nat × Nat)}, lateD ops m D = true -> hasD d s D = true -> lateP ops m d s = true
 | (a, b) :: r, h, hd => by
  simp only [lateD, Bool.and_eq_true] at h
  simp only [hasD, Bool.or_eq_true, Bool.and_eq_true, beq_iff_eq] at hd
  rcases hd with ⟨rfl, rfl⟩ | hd
  ·exact h.1
  ·exact lateD_has h.2 hd
theorem lateP_spec {ops : Array Oper} {m d s i j : Nat} {o o' : Oper} (h : lateP ops m d s = true) (hi : ops[i]? = some o) (him : i < m) (hd : o.dst = some s) (hj : ops[j]? = some o') (hjm : j < m) (hd' : o'.dst = some d) : reach ops i i j = true := by
 unfold lateP at h
 have h1 := List.all_eq_true.1 h i (List.mem_range.2 him)
 rw [hi] at h1
 simp only [hd, bne_self_eq_false, Bool.false_or] at h1
 have h2 := List.all_eq_true.1 h1 j (List.mem_range.2 hjm)
 rw [hj] at h2
 simpa only [hd', bne_self_eq_false, Bool.false_or] using h2
theorem DrawN.effP {σ0 : St} {K : St -> Prop} (A : List (Nat × Nat)) (ph : List Nat) (D : List (Nat × Nat)) (i0 : Nat) (E LF : List Nat) (m : Nat) (tr : Tr) (sg : Option (Nat × Tr)) (c : List AV) (hok : lateOk ops m E LF tr sg = true) (hE : effOk ops m E = true) (hD : lateD ops m D = true) (hc : (σ0.boxes ++ anyB ph)[i0]? = some c) (hi0 : i0 < σ0.boxes.length) (hnt : allLeafs noTag c = true) (hnv : allLeafs noVar c = true) (hfree : freeAll σ0 (creators ops m) = true) (hkf : keptFree σ0 A = true)
  (h : headF P ops (σ0.boxes ++ anyB ph).length i0 E LF A 0 (ops.toList.take m) { σ0 with boxes := (σ0.boxes ++ anyB ph).set i0 (blankC E c) } c fun σ' c' => (freeOthersD D σ'.tmps (creators ops m) = true /\ keptOk ops σ'.tmps A = true) /\ treeA P ops tr { σ' with boxes := σ'.boxes.set i0 c' } K /\ sgA P ops sg { σ' with boxes := σ'.boxes.set i0 c' } K) : DrawN P ops σ0 K := by
 intro G0 w0 G a w Q h0 hs0 hN hQ
 have hs := hs0.kept ph
 have hkf := fun i N => keptFree_mem hkf i N
 have hfree : freeAll { σ0 with boxes := σ0.boxes ++ anyB ph } (creators ops m) = true := freeAll_kept ph hfree
 have hall : ∀ N, noPbB N σ0.boxes = true -> noPbB N (σ0.boxes ++ anyB ph) = true := fun N hN => by rw [noPbB_app, hN, noPbB_any]; rfl
 obtain ⟨σ, hσ⟩ : ∃ σ : St, σ = { σ0 with boxes := σ0.boxes ++ anyB ph } := ⟨_, rfl⟩
 have hσb : σ.boxes = σ0.boxes ++ anyB ph := by rw [hσ]
 have hσt : σ.tmps = σ0.tmps := by rw [hσ]
 have hσn : σ.n = σ0.n := by rw [hσ]
 rw [<- hσ] at hs hfree
 have h : headF P ops σ.boxes.length i0 E LF A 0 (ops.toList.take m) { σ with boxes := σ.boxes.set i0 (blankC E c) } c fun σ' c' => (freeOthersD D σ'.tmps (creators ops m) = true /\ keptOk ops σ'.tmps A = true) /\ treeA P ops tr { σ' with boxes := σ'.boxes.set i0 c' } K /\ sgA P ops sg { σ' with boxes := σ'.boxes.set i0 c' } K := by
  rw [hσ]; exact h
 rw [<- hσb] at hc
 have hp := lateOk_plan hok
 simp only [effOk, Bool.and_eq_true, List.all_eq_true, decide_eq_true_eq, Bool.or_eq_true, Bool.not_eq_true', decide_eq_false_iff_not] at hE
 have hpE : PlanE ops m E := ⟨nodupE_spec hE.1.1, hE.1.2, fun e he e' he' hlt => (hE.2 e he e' he').resolve_left (fun hn => hn hlt)⟩
 obtain ⟨vs, C, hvl, hC0, hC, ⟨⟨hoth, hkp⟩, hK, hK2⟩, hst⟩ := headF_vals hpE.nodup _ _ _ _ _ h hnt hnv
 have hlen : (ops.toList.take m).length = m := by have := hp.le; simp; omega
 rw [hlen] at hvl
 have hcm : cntE E (0 + (ops.toList.take m).length) = E.length := by
  rw [hlen, Nat.zero_add]
  unfold cntE posE
  rw [List.filter_eq_self.2 fun e he => by simpa using hpE.lt e he]
 rw [hcm] at hK hK2
 have hst' : ∀ i o, i < m -> ops[i]? = some o -> ∃ d y, vs[i]? = some (d, y) /\ o.dst = some d /\ d < σ.n /\
   if i ∈ E then EffC P σ i0 o d (puts σ (vs.take i)).ev (C (E.filter fun e => decide (e < i)).length) y (C ((E.filter fun e => decide (e < i)).length + 1)) else if i ∈ LF then FrontC P o (puts σ (vs.take i)).ev y else match lookA A i with | some N => AllocP P σ.boxes o N y | none => StepG P ops o d (puts σ (vs.take i)) (σ.boxes.set i0 (blankC E (C 0))) y := fun i o hi ho => by
  obtain ⟨d, y, k1, k2, k3, k4⟩ := hst i o (by rw [List.getElem?_take, if_pos hi]; simpa using ho)
  refine ⟨d, y, k1, k2, k3, ?_⟩
  rw [Nat.zero_add] at k4
  split
  ·rename_i hiE
   rw [if_pos hiE, puts_ev] at k4
   unfold EffC at k4 ⊢
   simp only [List.length_replicate] at k4
   exact k4
  ·rename_i hiE
   rw [if_neg hiE] at k4
   rw [hC0 0 (Nat.zero_le _)]
   split
   ·rename_i hiL
    rw [if_pos hiL, puts_ev] at k4
    exact k4
   rename_i hiL
   rw [if_neg hiL] at k4
   cases hlA : lookA A i with
   | some N =>
    rw [hlA] at k4
    have hNi : i0 ≠ N := fun e => by have := (hkf i N hlA).1; omega
    obtain ⟨q1, q2, T, q, z, q3, q4, q5, q6, q7⟩ := k4
    simp only [List.getElem?_set_ne hNi] at q7
    exact ⟨q1, q2, T, q, z, q3, q4, q5, q6, q7⟩
   | none =>
   rw [hlA] at k4
   unfold StepG at k4 ⊢
   rw [puts_ev] at k4
   simp only [puts_get] at k4
   exact k4
 have hap : Apart vs := by
  intro i j d y d' y' h1 h2 hij
  have hil : i < m := by have := (List.getElem?_eq_some_iff.1 h1).1; omega
  have hjl : j < m := by have := (List.getElem?_eq_some_iff.1 h2).1; omega
  have hle := hp.le
  obtain ⟨oi, hoi⟩ : ∃ p, ops[i]? = some p := ⟨ops[i]'(by omega), by simp [show i < ops.size by omega]⟩
  obtain ⟨oj, hoj⟩ : ∃ p, ops[j]? = some p := ⟨ops[j]'(by omega), by simp [show j < ops.size by omega]⟩
  obtain ⟨_, _, k1, k2, _⟩ := hst' i oi hil hoi
  obtain ⟨_, _, k3, k4, _⟩ := hst' j oj hjl hoj
  rw [h1] at k1; cases k1
  rw [h2] at k3; cases k3
  obtain ⟨d1, e1, _, e2⟩ := hp.head j oj hoj hjl
  rw [k4] at e1; cases e1
  exact (e2 i oi d hil hij hoi k2).1
 have hs' := hs
 have hgd : ∀ i, (Array.replicate ops.size false).getD i false = false := fun i => by
  by_cases hi : i < ops.size <;> simp [hi]
 have hcrm : ∀ i o d, ops[i]? = some o -> i < m -> o.dst = some d -> creates o.op = true -> d ∈ creators ops m := fun i o d ho hi hd hcr => by
  unfold creators
  refine List.mem_filterMap.2 ⟨o, ?_, by rw [if_pos hcr]; exact hd⟩
  refine List.mem_of_getElem? (i := i) ?_
  rw [List.getElem?_take, if_pos hi]; simpa using ho
 have hset : ∀ c', (puts { σ with boxes := σ.boxes.set i0 (blankC E c) } vs).boxes.set i0 c' = σ.boxes.set i0 c' := fun c' => by rw [puts_boxes, List.set_set]
 refine head_runP (P := P) (A := A) hp hpE h0 hN hQ hvl hap (fun j => by rw [(hC j).1, (hC 0).1]) ?_ ?_ hst' (fun i N hi hlA => ⟨fun e => by have := (hkf i N hlA).1; omega, ?_, fun b hb e => ?_, fun j d' y hji hj => ?_, fun j => allLeafs_mono noVar_noPb _ (hC j).2.2⟩) (fun i o d ho hi hd hcr => ⟨fun j d' y hji hj => ?_, fun j => allLeafs_mono noTag_free _ (hC j).2.1⟩) ops.size (Array.replicate ops.size false) (List.range ops.size) σ G a _ ⟨by simp, List.nodup_range, fun i => ?_⟩ (by simp) (fun i _ => hgd i)
  (fun i o _ hi => absurd (show (Array.replicate ops.size false).getD i false = true from hi) (by rw [hgd]; simp)) ⟨rfl, ?_, fun i d y _ => by simp only [hgd]; simp, fun _ _ => rfl⟩ hs' (fun i o d ho hi hd hcr _ => freeAll_mem hfree d (hcrm i o d ho hi hd hcr)) (fun i N hi hlA _ _ _ => ⟨by rw [hσt]; exact (hkf i N hlA).2.1, by rw [hσb]; exact hall N (hkf i N hlA).2.2⟩)
 ·rw [hset] at hK
  rw [puts_eq] at hK ⊢
  exact hK
 ·rw [hset] at hK2
  rw [puts_eq] at hK2 ⊢
  exact hK2
 ·have := (hkf i N hlA).1
  cases hgh : G0.gh N with
  | none => rfl
  | some vs => have := hs0.boxes.low _ vs hgh; omega
 ·have h1 := hs0.stat b hb (fun t ht => by rw [e] at ht; cases ht)
  rw [e] at h1
  have := hs0.blt b N h1
  have := (hkf i N hlA).1
  omega
 ·obtain ⟨di, hdi, hbut⟩ := keptOk_mem hkp i N hlA
  obtain ⟨oi, hoi⟩ : ∃ p, ops[i]? = some p := ⟨ops[i]'(by have := hp.le; omega), by have := hp.le; simp [show i < ops.size by omega]⟩
  rw [hoi, Option.bind_some] at hdi
  obtain ⟨_, yi, k1, k2, _⟩ := hst' i oi hi hoi
  rw [hdi] at k2; cases k2
  have hne := hap i j di yi d' y k1 hj (Ne.symm hji)
  have hpa := puts_at m vs { σ with boxes := σ.boxes.set i0 (blankC E c) } hap
  rw [List.take_of_length_le (by omega)] at hpa
  have hjm : j < m := by have := (List.getElem?_eq_some_iff.1 hj).1; omega
  have hg := hpa.dst j d' y hj
  simp only [hjm, decide_true, if_true] at hg
  rw [<- hg]
  exact pbBut_look hbut d' (Ne.symm hne)
 ·have hb := freeOthersD_mem hoth d (hcrm i o d ho hi hd hcr)
  obtain ⟨oi, yi, k1, k2, _⟩ := hst' i o hi ho
  rw [hd] at k2; cases k2
  have hne := hap i j d yi d' y k1 hj (Ne.symm hji)
  have hpa := puts_at m vs { σ with boxes := σ.boxes.set i0 (blankC E c) } hap
  rw [List.take_of_length_le (by omega)] at hpa
  have hjm : j < m := by have := (List.getElem?_eq_some_iff.1 hj).1; omega
  have hg := hpa.dst j d' y hj
  simp only [hjm, decide_true, if_true] at hg
  rw [<- hg]
  rcases freeButD_look hb d' (Ne.symm hne) with h1 | h1
  ·obtain ⟨oj, hoj⟩ : ∃ p, ops[j]? = some p := ⟨ops[j]'(by have := hp.le; omega), by have := hp.le; simp [show j < ops.size by omega]⟩
   obtain ⟨_, yj, q1, q2, _⟩ := hst' j oj hjm hoj
   rw [hj] at q1; cases q1
   exact .inr (lateP_spec (lateD_has hD h1) hoj hjm q2 ho hi hd)
  ·exact .inl h1
 ·rw [List.mem_range, hgd]; simp
 ·have : posE E (fun i => (Array.replicate ops.size false).getD i false) = 0 := by
   unfold posE
   rw [List.filter_eq_nil_iff.2 fun e _ => by rw [hgd]; simp]; rfl
  rw [this, hC0 0 (Nat.zero_le _)]
  have hi := (List.getElem?_eq_some_iff.1 hc).1
  rw [<- (List.getElem?_eq_some_iff.1 hc).2, List.set_getElem_self]
end
def headZ (P : Program) (ops : Array Oper) (_n0 i0 : Nat) (_E _LF : List Nat) (A : List (Nat × Nat)) (D : List (Nat × Nat)) (ds : List Nat) (tr : Tr) (sg : Option (Nat × Tr)) (σ : St) (c : List AV) (K : St -> Prop) : Prop :=
 (freeOthersD D σ.tmps ds = true /\ keptOk ops σ.tmps A = true) /\ treeA P ops tr { σ with boxes := σ.boxes.set i0 c } K /\ sgA P ops sg { σ with boxes := σ.boxes.set i0 c } K
def headY (P : Program) (ops : Array Oper) (n0 i0 : Nat) (E LF : List Nat) (A : List (Nat × Nat)) (D : List (Nat × Nat)) (ds : List Nat) (tr : Tr) (sg : Option (Nat × Tr)) : Nat -> Nat -> List Oper -> St -> List AV -> (St -> Prop) -> Prop
 | _, 0, _, σ, c, K => headZ P ops n0 i0 E LF A D ds tr sg σ c K
 | _, _ + 1, [], σ, c, K => headZ P ops n0 i0 E LF A D ds tr sg σ c K
 | k, m + 1, o :: r, σ, c, K => if E.contains k = true then EffK P n0 i0 o σ c fun σ' c' => allLeafs noVar c' = true /\ headY P ops n0 i0 E LF A D ds tr sg (k + 1) m r σ' c' K else if LF.contains k = true then frB P o σ fun σ' => headY P ops n0 i0 E LF A D ds tr sg (k + 1) m r σ' c K else match lookA A k with
  | some N => AllocK P o N σ fun σ' => headY P ops n0 i0 E LF A D ds tr sg (k + 1) m r σ' c K
  | none => headG P ops o σ fun σ' => headY P ops n0 i0 E LF A D ds tr sg (k + 1) m r σ' c K
theorem headY_eq {P : Program} {ops : Array Oper} {n0 i0 : Nat} {E LF : List Nat} {A D : List (Nat × Nat)} {ds : List Nat} {tr : Tr} {sg : Option (Nat × Tr)} {K : St -> Prop} : ∀ (m k : Nat) (l : List Oper) (σ : St) (c : List AV), headY P ops n0 i0 E LF A D ds tr sg k m l σ c K =
  headF P ops n0 i0 E LF A k (l.take m) σ c fun σ' c' => headZ P ops n0 i0 E LF A D ds tr sg σ' c' K
 | 0, k, l, σ, c => by cases l <;> rfl
 | m + 1, k, [], σ, c => rfl
 | m + 1, k, o :: l, σ, c => by
  have ih : ∀ σ' c', headY P ops n0 i0 E LF A D ds tr sg (k + 1) m l σ' c' K = headF P ops n0 i0 E LF A (k + 1) (l.take m) σ' c' fun σ' c' => headZ P ops n0 i0 E LF A D ds tr sg σ' c' K := fun σ' c' => headY_eq m (k + 1) l σ' c'
  simp only [headY, List.take_succ_cons, headF, ih]
theorem DrawK.news0 {P : Program} {l : List Oper} {σ : St} {K : St -> Prop} (A : List (Nat × Nat)) (ph : List Nat) (D : List (Nat × Nat)) (i0 : Nat) (E LF : List Nat) (m : Nat) (tr : Tr) (sg : Option (Nat × Tr)) (c : List AV) (hm : P.follows .mixedOrders = true) (hok : lateOk l.toArray m E LF tr sg = true) (hE : effOk l.toArray m E = true) (hD : lateD l.toArray m D = true) (hc : (σ.boxes ++ anyB ph)[i0]? = some c) (hi0 : i0 < σ.boxes.length) (hnt : allLeafs noTag c = true /\ allLeafs noVar c = true)
  (hfree : freeAll σ (crs (l.take m)) = true /\ keptFree σ A = true)
  (h : headY P l.toArray (σ.boxes ++ anyB ph).length i0 E LF A D (crs (l.take m)) tr sg 0 m l ⟨σ.n, σ.tmps, (σ.boxes ++ anyB ph).set i0 (blankC E c)⟩ c K) : DrawK P l.toArray σ K :=
 DrawK.ofN hm (DrawN.effP A ph D i0 E LF m tr sg c hok hE hD hc hi0 hnt.1 hnt.2 (by rw [crs_creators]; exact hfree.1) hfree.2 (by rw [crs_creators]; rw [headY_eq] at h; exact h))
section
variable {P : Program} {n : Nat} {t : List (Nat × AV)} {b : List (List AV)} {ops : Array Oper} {n0 i0 k m : Nat} {E LF ds : List Nat} {A D : List (Nat × Nat)} {tr : Tr} {sg : Option (Nat × Tr)} {l : List Oper} {c : List AV} {K : St -> Prop}
variable {d : Nat} {T : TypeId} {pos : String} {af : Array Edge} {g : Option (Nat × Bool)}
@[congr] theorem headY_congr {n0' k' : Nat} {σ σ' : St} {c' : List AV} (h0 : n0 = n0') (h1 : k = k') (h : mkd σ = σ') (h2 : c = c') : headY P ops n0 i0 E LF A D ds tr sg k m l σ c K = headY P ops n0' i0 E LF A D ds tr sg k' m l σ' c' K := by subst_vars; rfl
def selN (o : Option Nat) (f : Nat -> Prop) (p : Prop) : Prop := match o with
 | some N => f N
 | none => p
@[congr] theorem selN_congr {o o' : Option Nat} {f : Nat -> Prop} {p : Prop} (h : o = o') : selN o f p = selN o' f p := by subst_vars; rfl
@[go_sem] theorem selN_some {N : Nat} {f : Nat -> Prop} {p : Prop} : selN (some N) f p = f N := rfl
@[go_sem] theorem selN_none {f : Nat -> Prop} {p : Prop} : selN none f p = p := rfl
@[go_sem] theorem headY_zero : headY P ops n0 i0 E LF A D ds tr sg k 0 l ⟨n, t, b⟩ c K = andK (freeOthersD D t ds = true) (andK (keptOk ops t A = true) (andK (treeA P ops tr ⟨n, t, b.set i0 c⟩ K) (sgA P ops sg ⟨n, t, b.set i0 c⟩ K))) := by
 cases l <;> (simp only [headY, headZ, andK]; exact propext and_assoc)
@[go_sem] theorem headY_succ {dst : Option Tmp} {op : Op} : headY P ops n0 i0 E LF A D ds tr sg k (m + 1) (⟨dst, op, T, pos, af, none⟩ :: l) ⟨n, t, b⟩ c K = selK (E.contains k) (EffK P n0 i0 ⟨dst, op, T, pos, af, none⟩ ⟨n, t, b⟩ c fun σ' c' => andK (allLeafs noVar c' = true) (headY P ops n0 i0 E LF A D ds tr sg (k + 1) m l σ' c' K))
  (selK (LF.contains k) (frB P ⟨dst, op, T, pos, af, none⟩ ⟨n, t, b⟩ fun σ' => headY P ops n0 i0 E LF A D ds tr sg (k + 1) m l σ' c K) (selN (lookA A k) (fun N => AllocK P ⟨dst, op, T, pos, af, none⟩ N ⟨n, t, b⟩ fun σ' => headY P ops n0 i0 E LF A D ds tr sg (k + 1) m l σ' c K) (headOp P ⟨dst, op, T, pos, af, none⟩ ⟨n, t, b⟩ fun σ' => headY P ops n0 i0 E LF A D ds tr sg (k + 1) m l σ' c K))) := by
 rw [selK_ite, selK_ite]
 show (if E.contains k = true then _ else if LF.contains k = true then _ else _) = _
 cases lookA A k <;> rfl
@[congr] theorem AllocK_congr {o : Oper} {N : Nat} {σ σ' : St} {K : St -> Prop} (h : mkd σ = σ') : AllocK P o N σ K = AllocK P o N σ' K := by subst_vars; rfl
@[go_sem] theorem AllocK_eq {N : Nat} : AllocK P ⟨some d, .alloc T, k, pos, af, none⟩ N ⟨n, t, b⟩ K = andK (d < n) (caseO (tinfo P T) fun q => caseO q.2.2 fun z => andK (zeroOk q.1 z = true) (caseO b[N]? fun cs => andK (cs = List.replicate q.1 .any) (K (St.put ⟨n, t, b⟩ (some d) (.pb N 0))))) := by
 unfold AllocK AllocP andK caseO
 apply propext
 constructor
 ·rintro ⟨d', hd, h1, ⟨_, _, T', q, z, h3, h4, h5, h6, h7⟩, h8⟩
  cases hd; cases h3
  exact ⟨h1, q, h4, z, h5, h6, _, h7, rfl, h8⟩
 ·rintro ⟨h1, q, h4, z, h5, h6, cs, h7, rfl, h8⟩
  exact ⟨d, rfl, h1, ⟨rfl, rfl, T, q, z, rfl, h4, h5, h6, h7⟩, h8⟩
attribute [go_sem] freeOthersD freeButD hasD lookA keptOk pbBut keptFree noPbT noPbB noPb noVar anyB
end
end Go.AM
namespace Go.AM
open Go Go.Proofs Go.RowKit
theorem Con.freezeB {P : Program} {f : FuncId} {args : List AV} {bx : List (List AV)} {post : AV -> List (List AV) -> Prop} (p : Nat -> Bool) (h : Con P f args bx post) : Con P f args bx fun r' b' => ∃ r b, post r b /\ r' = r.freeze p /\ b' = b.map fun cs => cs.map (AV.freeze p) :=
 ⟨h.1, fun G w vs h1 h2 h3 h4 h5 => (h.2 G w vs h1 h2 h3 h4 h5).mono fun e w' ⟨v, r, bx', G', he, hq, hr, hg, hbx, hlt, e1, e2, e3, e4, e5, e6⟩ => by
  have hbox : ∀ k i, freezeG p G' k = .box i ↔ G' k = .box i := fun k i => by
   unfold freezeG; split
   ·rename_i t ht; split <;> simp [ht]
   ·exact Iff.rfl
  refine ⟨v, _, bx'.map (fun cs => cs.map (AV.freeze p)), freezeG p G', he, ⟨r, bx', hq, rfl, rfl⟩, hr.freeze, hg.freeze, ⟨fun i vs hv => by simp [noGh] at hv, fun i cs hi => ?_⟩, fun k i hk => by simpa using hlt k i ((hbox k i).1 hk), e1, e2, e3, e4, fun k hk => ?_, e6⟩
  ·rw [List.getElem?_map] at hi
   cases hc : bx'[i]? with
   | none => simp [hc] at hi
   | some cs' =>
    simp [hc] at hi; subst hi
    exact (hbx.cell i cs' hc).map (fun x v hr => hr.freeze) (fun k hk => ⟨(hbox k i).2 hk, rfl⟩) fun h0 k hk => h0 k ((hbox k i).1 hk)
  ·have := e5 k hk
   unfold freezeG
   split
   ·rename_i t ht; rw [this] at ht; exact absurd ht (h2 k t)
   ·exact this⟩
def kidN (n : Int) : AV := .ag [vi n, .nil]
def cfgN (t s : Nat) (v : List Int) : AV := .ag [vi 0, .sl t 2 (((s : Int) :: v).map kidN)]
attribute [go_sem] kidN cfgN
theorem flat_cons (x : AV) (l : List AV) : flat (x :: l) = x.cells ++ flat l := by simp [flat]
theorem kids_pw : ∀ l : List Int, PW Sub (flat (l.map kidN)) (flat ((l.map fun n => CV.mk n []).map vV))
 | [] => PW.nil _
 | n :: l => by
  rw [List.map_cons, List.map_cons, List.map_cons, flat_cons, flat_cons, vV_eq]
  exact PW.append (PW.cons (Sub.refl _) (PW.cons (Sub.nil 2) (PW.nil _))) (kids_pw l)
theorem cfg_le (s : Nat) (v : List Int) : leV (cfgN 0 s v) (vV (cfgC s v)) := by
 rw [vV_eq]
 refine leV_ag ⟨leV_refl _, ?_, trivial⟩
 show leV (.sl 0 2 (((s : Int) :: v).map kidN)) (.sl 0 2 ((((s : Int) :: v).map fun n => CV.mk n []).map vV))
 exact leV_slE (by simp) (fun y hy => by
  obtain ⟨x, _, rfl⟩ := List.mem_map.1 hy
  rw [vV_eq]; rfl) (kids_pw _)
def ruleN (r : RD) : AV := .ag [vStr r.name, vi r.src, vi r.dst, vs 0 r.need, vs 0 r.give, .nil, vi 0, vi 0, vi 0, .nil, .nil, .nil, .nil, vi 0]
attribute [go_sem] ruleN
def modelN (m : MD) (t s0 : Nat) (v0 : List Int) : AV := .ag [vi 1, vss m.states, vss m.places, .nil, .nil, vi 0, vi 0, .sl t 14 (m.rules.map ruleN), vi 0, .sl t 2 (((s0 : Int) :: v0).map kidN)]
attribute [go_sem] modelN
set_option maxRecDepth 100000
set_option maxHeartbeats 8000000
def kidZ (n : Int) : AV := .ag [vi n, .sl 0 2 []]
attribute [go_sem] kidZ
theorem cfgZ_eq (s : Nat) (v : List Int) : vV (cfgC s v) = .ag [vi 0, .sl 0 2 (kidZ s :: v.map kidZ)] := by
 rw [vV_eq]
 show AV.ag [vi 0, .sl 0 2 (((CV.mk s [] :: v.map fun n => CV.mk n [])).map vV)] = _
 rw [List.map_cons, vV_eq, List.map_map]
 have : (vV ∘ fun n => CV.mk n []) = kidZ := by funext n; show vV (CV.mk n []) = _; rw [vV_eq]; rfl
 rw [this]; rfl
theorem getZ {v : List Int} {i : Nat} (h : i < v.length) : (v.map kidZ)[i]? = some (.ag [.sc (.int .i64 v[i]!), .sl 0 2 []]) := by
 rw [List.getElem?_map, List.getElem?_eq_getElem h, getElem!_pos v i h]; rfl
def movedF (r : RD) (i : Nat) : Int := if r.move.length = 0 then i else r.move[i]!
theorem con_moved (r : RD) (i : Nat) (h : r.move.length = 0 \/ i < r.move.length) : Con Tryz.prog 103 [vRule r, vi i] [] fun x _ => x = vi (movedF r i) := by
 refine Con.intro Tryz.func103 rfl Tryz.ntmps103 Tryz.results103 (by kernel_rfl) (by simp) 0 (by simp) ?_
 unfold movedF
 by_cases h0 : r.move.length = 0
 ·simp only [go_sem, h0]
 ·have h1 : i < r.move.length := by omega
  have hg := getv h1
  have hn : ((r.move.length : Int) == 0) = false := beq_eq_false_iff_ne.2 (by omega)
  simp only [go_sem, h0, h1, hg, hn]
theorem con_cenabled (r : RD) (s : Nat) (v : List Int) (hl : r.need.length = v.length) (h6 : v.length <= 6) : Con Tryz.prog 99 [vRule r, vV (cfgC s v)] [] fun x _ => x = vb (enF r s v) := by
 rw [cfgZ_eq]
 refine Con.intro Tryz.func99 rfl Tryz.ntmps99 Tryz.results99 (by kernel_rfl) (by simp) 0 (by simp) ?_
 have hpos : (0 : Int) < (v.length : Int) + 1 := by omega
 simp only [go_sem]
 refine DrawK.walk 8 mixed (by kernel_rfl) ?_
 simp only [go_sem, hpos]
 by_cases hs : (s : Int) = r.src
 case neg =>
  have hn : ((s : Int) != r.src) = true := bne_iff_ne.2 hs
  have e : enF r s v = false := by unfold enF; rw [beq_eq_false_iff_ne.2 hs]; rfl
  simp only [go_sem, hn, e]
 have hn : ((s : Int) != r.src) = false := by rw [hs]; simp
 have ht : List.take v.length (v.map kidZ) = v.map kidZ := List.take_of_length_le (by simp)
 simp only [go_sem, hn]
 refine ⟨Nat.le_refl _, ?_⟩
 rw [ht]
 refine LoopK.intro (fun i : Nat => ⟨33, [(2, .pb 0 0), (3, .pb 1 0), (17, .sl 0 2 (v.map kidZ)), (18, vi v.length), (19, vi i)], [vStr r.name, vi r.src, vi r.dst, vs 0 r.need, vs 0 r.give, vs 0 r.move, vi r.channel, vi r.act, vi r.letter, vs 0 r.path, vs 0 r.next, .sl 0 3 (r.takes.map vTake), vs 0 r.makes, vi r.second] :: [vi 0, .sl 0 2 (kidZ s :: v.map kidZ)] :: Rk 2 i⟩)
  (fun i => r.need.length - i) (fun i => i <= r.need.length /\ ∀ j, j < i -> r.need[j]! <= v[j]!) 0 ⟨by omega, fun j hj => by omega⟩ ?_ ?_
 ·simp only [go_sem]
  all_goals exact leB_self _
 rintro i ⟨hi, hb⟩
 by_cases h : i < r.need.length
 ·have hg := getv h
  have hv : i < v.length := by omega
  have hz := getZ hv
  have hw : IntKind.i64.wrap (i + 1) = i + 1 := wrap_in (by omega) (by omega)
  have hB := Rk_len 2 i
  have n0 := fun L : List (List AV) => app_at0 (L := L) hB
  have s0 := fun (L : List (List AV)) z => app_set0 (L := L) (z := z) hB
  simp only [go_sem, hv, hz, hB, n0, s0]
  refine DrawK.walk 8 mixed (by kernel_rfl) ?_
  simp only [go_sem, h, hg, n0]
  by_cases hq : v[i]! < r.need[i]!
  ·have e : enF r s v = false := by
    unfold enF
    rw [Bool.and_eq_false_iff]
    right
    rw [List.all_eq_false]
    exact ⟨i, List.mem_range.2 h, by rw [decide_eq_false (by omega)]; simp⟩
   simp only [go_sem, hq, e]
  ·simp only [go_sem, hq, hw]
   refine roundK.intro (i + 1) ⟨by omega, fun j hj => ?_⟩ (by omega) ?_
   ·by_cases hji : j = i
    ·subst hji; omega
    ·exact hb j (by omega)
   ·simp only [go_sem, Rk_succ]
    exact leB_RkA (x := [[_, _]]) (y := [List.replicate 2 .any]) ⟨⟨leV_any _, leV_any _, trivial⟩, trivial⟩
 ·have e : enF r s v = true := by
   unfold enF
   rw [beq_iff_eq.2 hs, Bool.true_and, List.all_eq_true]
   intro j hj
   have := List.mem_range.1 hj
   exact decide_eq_true (hb j (by omega))
  have hv : ¬ i < v.length := by omega
  simp only [go_sem, hv, e]
theorem con_ccheck (m : MD) (i : Nat) (s : Nat) (v : List Int) (h : GoodM m) (hi : i < m.rules.length) (hc : GoodC m s v) : Con Tryz.prog 98 [vM m, vi i, vV (cfgC s v)] [] fun x _ => x = vi 0 := by
 have e0 := cfgZ_eq s v
 have hco := conf_ok (by have := h.places; omega) hc.conf
 have h2 := h.places
 rw [e0]
 refine Con.intro Tryz.func98 rfl Tryz.ntmps98 Tryz.results98 (by kernel_rfl) (by simp) 0 (by simp) ?_
 simp only [go_sem, vM, cM, vss]
 refine CallU.free (con_check m h) (by simp only [go_sem]) (by simp only [go_sem, vM, cM, vss]) ?_
 rintro r bx rfl
 have hil : ¬ (m.rules.length : Int) <= i := by omega
 simp only [go_sem, h.kind, hil, Nat.not_lt_zero, decide_false]
 refine CallU.free (con_mvalid m (cfgC s v) h hco.1 (by omega)) (by simp only [go_sem]) (by simp only [go_sem, vM, cM, vss, e0, h.kind]) ?_
 rintro r bx rfl
 simp only [go_sem, hc.conf]
def moveN (r : RD) (v : List Int) : Nat -> List Int
 | 0 => r.give
 | i + 1 => if 0 <= movedF r i then (moveN r v i).set (movedF r i).toNat ((moveN r v i)[(movedF r i).toNat]! + (v[i]! - r.need[i]!)) else moveN r v i
theorem moveN_len (r : RD) (v : List Int) : ∀ i, (moveN r v i).length = r.give.length
 | 0 => rfl
 | i + 1 => by
  unfold moveN; split
  ·rw [List.length_set, moveN_len r v i]
  ·exact moveN_len r v i
structure RuleC (ns np : Nat) (r : RD) : Prop where
 src : 0 <= r.src /\ r.src < ns
 dst : 0 <= r.dst /\ r.dst < ns
 need : r.need.length = np /\ ∀ x ∈ r.need, 0 <= x /\ x <= 16
 give : r.give.length = np /\ ∀ x ∈ r.give, 0 <= x /\ x <= 16
 move : r.move.length = 0 \/ (r.move.length = np /\ ∀ x ∈ r.move, -1 <= x /\ x <= np - 1)
theorem rule_c {ns np : Nat} {r : RD} (h : ruleB ns np r = true) : RuleC ns np r := by
 unfold ruleB changesB movesB smallB indexB betweenB at h
 simp only [Bool.and_eq_true, Bool.or_eq_true, decide_eq_true_eq, List.all_eq_true, beq_iff_eq] at h
 obtain ⟨⟨⟨h1, h2⟩, ⟨⟨h3, h4⟩, h5⟩, h6⟩, h7⟩ := h
 exact ⟨h2, h1, ⟨h3, h5⟩, ⟨h4, h6⟩, h7⟩
theorem moved_lt {ns np : Nat} {r : RD} (h : RuleC ns np r) {i : Nat} (hi : i < np) : -1 <= movedF r i /\ movedF r i < np /\ (r.move.length = 0 \/ i < r.move.length) := by
 unfold movedF
 rcases h.move with h0 | ⟨h1, h2⟩
 ·rw [if_pos h0]; exact ⟨by omega, by omega, .inl h0⟩
 ·have := h2 _ (mem_bangI (show i < r.move.length by omega))
  rw [if_neg (by omega)]
  exact ⟨by omega, by omega, .inr (by omega)⟩
theorem moveN_bnd {ns np : Nat} {r : RD} {v : List Int} (h : RuleC ns np r) (hv : ∀ i, i < np -> 0 <= v[i]! - r.need[i]! /\ v[i]! - r.need[i]! <= 1048576) :
  ∀ i : Nat, i <= np -> ∀ j : Nat, 0 <= (moveN r v i)[j]! /\ (moveN r v i)[j]! <= 16 + i * 1048576
 | 0, _, j => by
  by_cases hj : j < r.give.length
  ·have := h.give.2 _ (mem_bangI hj)
   show 0 <= r.give[j]! /\ r.give[j]! <= _
   omega
  ·have : r.give[j]! = 0 := by rw [getElem!_neg r.give j hj]; rfl
   show 0 <= r.give[j]! /\ r.give[j]! <= _
   omega
 | i + 1, hi, j => by
  have ih := moveN_bnd h hv i (by omega)
  have h1 := ih j
  have h2 := ih (movedF r i).toNat
  have h3 := hv i (by omega)
  unfold moveN
  split
  ·by_cases hk : j = (movedF r i).toNat
   ·by_cases hl : j < (moveN r v i).length
    ·rw [<- hk, getElem!_pos _ j (by rw [List.length_set]; exact hl), List.getElem_set_self]
     rw [<- hk] at h2
     omega
    ·rw [getElem!_neg _ j (by rw [List.length_set]; exact hl)]
     show (0 : Int) <= 0 /\ (0 : Int) <= _
     omega
   ·have : ((moveN r v i).set (movedF r i).toNat ((moveN r v i)[(movedF r i).toNat]! + (v[i]! - r.need[i]!)))[j]! = (moveN r v i)[j]! := by
     by_cases hl : j < (moveN r v i).length
     ·rw [getElem!_pos _ j (by rw [List.length_set]; exact hl), List.getElem_set_ne (fun e => hk e.symm), getElem!_pos _ j hl]
     ·rw [getElem!_neg _ j (by rw [List.length_set]; exact hl), getElem!_neg _ j hl]
    rw [this]; omega
  ·omega
def moveV (r : RD) (v : List Int) : List Int := moveN r v v.length
def noneA (e : Int) : AV := .tup [.ag [vi 0, .nil], vi e]
attribute [go_sem] noneA
def okV (l : List Int) : Bool := l.all fun x => decide (x <= 1048576)
def appA (t : Nat) (r : RD) (s : Nat) (v : List Int) : AV :=
 if enF r s v = true then (if okV (moveV r v) = true then .tup [cfgN t r.dst.toNat (moveV r v), vi 0] else noneA 1) else noneA 18
theorem okV_bad {l : List Int} {i : Nat} (h : i < l.length) (hx : 1048576 < l[i]!) : okV l = false := by
 unfold okV
 rw [List.all_eq_false]
 exact ⟨l[i]!, mem_bangI h, by rw [decide_eq_false (by omega)]; simp⟩
theorem okV_ok {l : List Int} (h : ∀ j, j < l.length -> l[j]! <= 1048576) : okV l = true := by
 unfold okV
 rw [List.all_eq_true]
 intro x hx
 obtain ⟨j, hj, e⟩ := List.getElem_of_mem hx
 have := h j hj
 rw [getElem!_pos l j hj, e] at this
 exact decide_eq_true this
theorem en_le {r : RD} {s : Nat} {v : List Int} (h : enF r s v = true) : r.src = s /\ ∀ i, i < r.need.length -> r.need[i]! <= v[i]! := by
 unfold enF at h
 simp only [Bool.and_eq_true, beq_iff_eq, List.all_eq_true, List.mem_range, decide_eq_true_eq] at h
 exact ⟨h.1.symm, h.2⟩
theorem setv {l : List Int} {k : Nat} {x : Int} : (l.map vi).set k (vi x) = (l.set k x).map vi := by rw [List.map_set]
theorem modv {l : List Int} {k : Nat} {x : Int} (_h : k < l.length) : (l.map vi).modify k (updElem 0 [.sc (.int .i64 x)]) = (l.set k x).map vi := by
 rw [<- setv]
 refine List.ext_getElem (by simp) fun j h1 h2 => ?_
 rw [List.getElem_modify, List.getElem_set]
 split
 ·rename_i e; subst e; rw [List.getElem_map]; rfl
 ·rfl
theorem con_capply (m : MD) (i : Nat) (s : Nat) (v : List Int) (h : GoodM m) (hi : i < m.rules.length) (hc : GoodC m s v) :
  Con Tryz.prog 46 [vM m, vi i, vV (cfgC s v)] [] fun x _ => x = appA 2 m.rules[i]! s v := by
 have e0 := cfgZ_eq s v
 have h2 := h.places
 have hr := rule_c (h.rules _ (mem_bangI hi)).1
 have hlen := hc.len
 rw [e0]
 refine Con.intro Tryz.func46 rfl Tryz.ntmps46 Tryz.results46 (by kernel_rfl) (by simp) 0 (by simp) ?_
 simp only [go_sem, vM, cM, vss]
 refine CallU.free (con_ccheck m i s v h hi hc) (by simp only [go_sem]) (by simp only [go_sem, vM, cM, vss, e0]) ?_
 rintro r bx rfl
 have hg := getRule hi
 simp only [go_sem, hi, hg]
 refine CallU.free (con_cenabled m.rules[i]! s v (by rw [hr.need.1, hlen]) (by omega)) (by simp only [go_sem]) (by simp only [go_sem, e0]) ?_
 rintro r bx rfl
 unfold appA
 generalize hR : m.rules[i]! = r at hr hg ⊢
 cases he : enF r s v
 case false =>
  simp only [go_sem]
 have hle := (en_le he).2
 have hgl : 1 <= r.give.length := by rw [hr.give.1]; omega
 simp only [go_sem]
 refine CallU.free (con_clone r.give hgl (by rw [hr.give.1]; omega)) (by simp only [go_sem]) (by simp only [go_sem]) ?_
 rintro x bx rfl
 have ht : List.take v.length (v.map kidZ) = v.map kidZ := List.take_of_length_le (by simp)
 have hpos : (0 : Int) < (v.length : Int) + 1 := by omega
 simp only [go_sem]
 refine ⟨Nat.le_refl _, ?_⟩
 rw [ht]
 have hV : ∀ j, j < m.places.length -> 0 <= v[j]! - r.need[j]! /\ v[j]! - r.need[j]! <= 1048576 := fun j hj => by
  have a1 := hle j (by rw [hr.need.1]; exact hj)
  have a2 := hc.low _ (mem_bangI (show j < v.length by omega))
  have a3 := hr.need.2 _ (mem_bangI (show j < r.need.length by rw [hr.need.1]; exact hj))
  omega
 have hbnd := moveN_bnd (v := v) hr hV
 refine LoopK.intro (fun k : Nat => ⟨90, [(3, .pb 0 0), (5, .pb 1 0), (6, .pb 2 0), (9, .pb 3 0), (10, vs 2434 (moveN r v k)), (40, .sl 0 2 (v.map kidZ)), (41, vi v.length), (42, vi k)],
   cM m :: [vi 0, .sl 0 2 (kidZ s :: v.map kidZ)] :: [vi 0, .nil] :: [vStr r.name, vi r.src, vi r.dst, vs 0 r.need, vs 0 r.give, vs 0 r.move, vi r.channel, vi r.act, vi r.letter, vs 0 r.path, vs 0 r.next, .sl 0 3 (r.takes.map vTake), vs 0 r.makes, vi r.second] :: Rk 2 k⟩)
  (fun k => v.length - k) (fun k => k <= v.length) 0 (by omega) ?_ ?_
 ·simp only [go_sem, cM, vss, moveN]
  all_goals exact leB_self _
 rintro k hk
 have hB := Rk_len 2 k
 have n0 := fun L : List (List AV) => app_at0 (L := L) hB
 have s0 := fun (L : List (List AV)) z => app_set0 (L := L) (z := z) hB
 by_cases hkv : k < v.length
 ·have hz := getZ hkv
  have hw : IntKind.i64.wrap (k + 1) = k + 1 := wrap_in (by omega) (by omega)
  obtain ⟨m1, m2, m3⟩ := moved_lt hr (show k < m.places.length by omega)
  have hml : (moveN r v k).length = m.places.length := by rw [moveN_len, hr.give.1]
  have hkn : k < r.need.length := by rw [hr.need.1]; omega
  have hgn := getv hkn
  simp only [go_sem, hkv, hz, hB, n0, s0]
  refine CallU.free (con_moved r k m3) (by simp only [go_sem]) (by simp only [go_sem]) ?_
  rintro x bx rfl
  by_cases hto : 0 <= movedF r k
  ·obtain ⟨q, hq⟩ : ∃ q : Nat, movedF r k = q := ⟨(movedF r k).toNat, by omega⟩
   rw [hq] at m2 hto
   have hql : q < (moveN r v k).length := by omega
   have hgq := getv hql
   have b1 := hbnd k (by omega) q
   have b2 := hV k (by omega)
   have hk6 : (k : Int) * 1048576 <= 6 * 1048576 := by omega
   have hw1 : IntKind.i64.wrap (v[k]! - r.need[k]!) = v[k]! - r.need[k]! := wrap_in (by omega) (by omega)
   have hw2 : IntKind.i64.wrap ((moveN r v k)[q]! + (v[k]! - r.need[k]!)) = (moveN r v k)[q]! + (v[k]! - r.need[k]!) := wrap_in (by omega) (by omega)
   have hmod := modv (x := (moveN r v k)[q]! + (v[k]! - r.need[k]!)) hql
   have enx : moveN r v (k + 1) = (moveN r v k).set q ((moveN r v k)[q]! + (v[k]! - r.need[k]!)) := by
    rw [moveN, hq, if_pos hto]; rfl
   simp only [go_sem, hq]
   refine DrawK.walk 14 mixed (by kernel_rfl) ?_
   simp only [go_sem, hkn, hgn, hql, hgq, hw1, hw2, hmod, n0]
   refine roundK.intro (k + 1) (by omega) (by omega) ?_
   simp only [go_sem, Rk_succ, enx, hw]
   exact leB_RkA (x := [[_, _]]) (y := [List.replicate 2 .any]) ⟨⟨leV_any _, leV_any _, trivial⟩, trivial⟩
  ·have enx : moveN r v (k + 1) = moveN r v k := by rw [moveN, if_neg hto]
   have hto' : ¬ (0 <= movedF r k) := hto
   simp only [go_sem, hto', hw]
   refine roundK.intro (k + 1) (by omega) (by omega) ?_
   simp only [go_sem, Rk_succ, enx]
   exact leB_RkA (x := [[_, _]]) (y := [List.replicate 2 .any]) ⟨⟨leV_any _, leV_any _, trivial⟩, trivial⟩
 ·have ek : k = v.length := by omega
  subst ek
  have hml : (moveV r v).length = m.places.length := by unfold moveV; rw [moveN_len, hr.give.1]
  simp only [go_sem, hkv, hB, n0, s0]
  refine LoopK.intro (fun k : Nat => ⟨90, [(6, .pb 2 0), (14, .pb (v.length + 1 + 1 + 1 + 1) 0), (72, vs 2434 (moveV r v)), (73, vi (moveV r v).length), (74, vi k)],
    cM m :: [vi 0, .sl 0 2 (kidZ s :: v.map kidZ)] :: [vi 0, .nil] :: [vStr r.name, vi r.src, vi r.dst, vs 0 r.need, vs 0 r.give, vs 0 r.move, vi r.channel, vi r.act, vi r.letter, vs 0 r.path, vs 0 r.next, .sl 0 3 (r.takes.map vTake), vs 0 r.makes, vi r.second] :: (Rk 2 v.length ++ [[vi 0, .sl 4544 2 (kidN r.dst :: ((moveV r v).take k).map kidN)]])⟩)
   (fun k => (moveV r v).length - k) (fun k => k <= (moveV r v).length /\ ∀ j, j < k -> (moveV r v)[j]! <= 1048576) 0 ⟨by omega, fun j hj => by omega⟩ ?_ ?_
  ·simp only [go_sem, cM, vss, moveV]
   all_goals exact leB_self _
  rintro k ⟨hk1, hb⟩
  by_cases hkl : k < (moveV r v).length
  ·have hgk := getv hkl
   have hw : IntKind.i64.wrap (k + 1) = k + 1 := wrap_in (by omega) (by omega)
   by_cases hq : 1048576 < (moveV r v)[k]!
   ·simp only [go_sem, hkl, hgk, hq, okV_bad hkl hq]
   ·have e : (moveV r v).take (k + 1) = (moveV r v).take k ++ [(moveV r v)[k]!] := by rw [List.take_add_one, List.getElem?_eq_getElem hkl, getElem!_pos _ k hkl]; rfl
    simp only [go_sem, hkl, hgk, hq, hw, n0, s0]
    refine ⟨by simp only [roomFor, List.length_take]; omega, ?_⟩
    refine roundK.intro (k + 1) ⟨by omega, fun j hj => ?_⟩ (by omega) ?_
    ·by_cases hji : j = k
     ·subst hji; omega
     ·exact hb j (by omega)
    ·simp only [go_sem, e, List.map_append, List.map_cons, List.map_nil]
  ·have hok := okV_ok (l := moveV r v) fun j hj => hb j (by omega)
   have e : (moveV r v).take k = moveV r v := List.take_of_length_le (by omega)
   have ed : ((r.dst.toNat : Nat) : Int) = r.dst := by have := hr.dst; omega
   simp only [go_sem, hkl, hok, e, ed, n0]
def zeroV : CV := .mk 0 []
def ownV (t : Nat) (c : CV) : AV := .ag [vi c.n, .sl t 2 (c.kids.map vV)]
attribute [go_sem] ownV
theorem ownV_zero (c : CV) : ownV 0 c = vV c := by rw [vV_eq]; rfl
theorem Con.froz {P : Program} {f : FuncId} {args : List AV} {c : CV} (h : Con P f args [] fun r _ => r = ownV 2 c) : Con P f args [] fun r _ => r = ownV 0 c :=
 (Con.freezeR (fun _ => true) h).weak fun r b ⟨r0, h0, h1⟩ => by
  subst h0; subst h1
  exact ⟨_, rfl, leV_refl _⟩
inductive CV.Slim : CV -> Prop
 | mk (n : Int) (k : List CV) : k.length <= 1000000 -> (∀ x ∈ k, CV.Slim x) -> CV.Slim (.mk n k)
theorem CV.Slim.len {a : CV} (h : a.Slim) : a.kids.length <= 1000000 := by cases h; assumption
theorem CV.Slim.kid {a : CV} (h : a.Slim) {x : CV} (hx : x ∈ a.kids) : x.Slim := by cases h with | mk n k _ h2 => exact h2 x hx
theorem CV.Slim.leaf (n : Int) : (CV.mk n []).Slim := .mk n [] (by simp) (fun x hx => by cases hx)
theorem slim_cfg {s : Nat} {v : List Int} (h : v.length <= 100000) : (cfgC s v).Slim := by
 refine .mk _ _ (by rw [List.length_cons, List.length_map]; omega) fun x hx => ?_
 rcases List.mem_cons.1 hx with rfl | hx
 ·exact .leaf _
 ·obtain ⟨n, _, rfl⟩ := List.mem_map.1 hx
  exact .leaf _
theorem con_rcopyV (c : CV) (hc : c.Slim) : Con Tryz.prog 93 [vV c] [] fun r _ => r = ownV 2 c := by
 have key : ∀ (N : Nat) (c : CV), SizeOf.sizeOf c <= N -> c.Slim -> Con Tryz.prog 93 [vV c] [] fun r _ => r = ownV 2 c := by
  intro N
  induction N with
  | zero => intro v hs; cases v; rw [CV.mk.sizeOf_spec] at hs; omega
  | succ N ih =>
   intro v hs hv
   have hlen := hv.len
   rw [vV_eq]
   refine Con.intro Tryz.func93 rfl Tryz.ntmps93 Tryz.results93 (by kernel_rfl) (by simp) 0 (by simp) ?_
   simp only [go_sem]
   refine LoopK.intro (fun i : Nat => ⟨27, [(1, .pb 0 0), (2, .pb 1 0), (3, .pb 2 0), (4, vi i)], [[vi v.n, .sl 0 2 (v.kids.map vV)], [vi 0, .nil], [vi v.n, .sl 1600 2 ((v.kids.take i).map vV)]]⟩)
    (fun i => v.kids.length - i) (fun i => i <= v.kids.length) 0 (by omega) ?_ ?_
   ·simp only [go_sem, List.take_zero, List.map_nil]
    all_goals exact ⟨leV_refl _, leV_nil _ _, trivial⟩
   rintro i hi
   by_cases h : i < v.kids.length
   ·have hg := getvV h
    have hw : IntKind.i64.wrap (i + 1) = i + 1 := wrap_in (by omega) (by omega)
    have hmem : v.kids[i]! ∈ v.kids := mem_bangI h
    have hsz := kid_size hmem
    have e : (v.kids.take (i + 1)).map vV = (v.kids.take i).map vV ++ [.ag [vi v.kids[i]!.n, .sl 0 2 (v.kids[i]!.kids.map vV)]] := by
     rw [<- vV_eq, List.take_add_one, List.getElem?_eq_getElem h, getElem!_pos v.kids i h, List.map_append]; rfl
    simp only [go_sem, h]
    refine DrawK.walk 9 mixed (by kernel_rfl) ?_
    simp only [go_sem, h, hg]
    refine CallY.mk (Con.froz (ih v.kids[i]! (by omega) (hv.kid hmem))) (by simp only [go_sem, vV_eq]) (by simp only [go_sem]) (.inl (by simp only [go_sem])) ?_
    simp only [go_sem, hw]
    refine ⟨by simp only [roomFor, List.length_take]; omega, ?_⟩
    refine roundK.intro (i + 1) (by omega) (by omega) ?_
    simp only [go_sem, e]
   ·have e : v.kids.take i = v.kids := List.take_of_length_le (by omega)
    simp only [go_sem, h, e]
 exact key _ c (Nat.le_refl _) hc
abbrev DS := Nat × Int
def deckA (l : List Int) (s : DS) : List AV := [.sl 0 1 (l.map vi), .sc (.int .i64 s.1), .sc (.int .u64 s.2)]
attribute [go_sem] deckA
def Dk (l : List Int) (s : DS) : Prop := s.1 <= l.length /\ l.length <= 1000
theorem con_dNew (l : List Int) : Con Tryz.prog 17 [vs 0 l] [] fun r b => r = .pb 0 0 /\ b = [deckA l (0, 11400714819323198485)] := by
 refine Con.intro Tryz.func17 rfl Tryz.ntmps17 Tryz.results17 (by kernel_rfl) (by simp) 1 (by simp) ?_
 simp only [go_sem]
theorem u64_range (x : Int) : 0 <= IntKind.u64.wrap x /\ IntKind.u64.wrap x < 18446744073709551616 := by
 rw [IntKind.wrap_u64]; omega
def longX (l : List Int) (s : DS) : Int := if s.1 < l.length then IntKind.u64.wrap l[s.1]! else 0
def longT (l : List Int) (s : DS) : Int := IntKind.u64.wrap (IntKind.u64.wrap (IntKind.u64.wrap (s.2 + longX l s) * 6364136223846793005) + 1442695040888963407)
def longS (l : List Int) (s : DS) : DS := (if s.1 < l.length then s.1 + 1 else s.1, longT l s)
def mixX (x : Int) (k : Nat) : Int := IntKind.u64.wrap (BitVec.ofInt 64 x ^^^ BitVec.ofInt 64 (x.fdiv (2 ^ min k 64))).toNat
def longV (l : List Int) (s : DS) : Int := mixX (IntKind.u64.wrap (mixX (longT l s) 33 * 18397679294719823053)) 29
theorem longV_range (l : List Int) (s : DS) : 0 <= longV l s /\ longV l s < 18446744073709551616 := u64_range _
theorem con_dLong (l : List Int) (s : DS) (h : Dk l s) : Con Tryz.prog 58 [.pb 0 0] [deckA l s]
  fun r b => r = .sc (.int .u64 (longV l s)) /\ b = [deckA l (longS l s)] := by
 refine Con.intro Tryz.func58 rfl Tryz.ntmps58 Tryz.results58 (by kernel_rfl) (by simp) 1 (by simp) ?_
 obtain ⟨at_, st⟩ := s
 obtain ⟨ha, hl⟩ := h
 simp only at ha
 by_cases h : at_ < l.length
 ·simp only [go_sem]
  refine DrawK.walk 10 mixed (by kernel_rfl) ?_
  have hg := getv h
  have hw : IntKind.i64.wrap (at_ + 1) = at_ + 1 := wrap_in (by omega) (by omega)
  simp only [go_sem, h]
  refine DrawK.walk 12 mixed (by kernel_rfl) ?_
  simp only [go_sem, h, hg, hw]
  refine DrawK.walk 11 mixed (by kernel_rfl) ?_
  simp only [go_sem, longV, mixX, longS, longT, longX, h]
  rfl
 ·simp only [go_sem]
  refine DrawK.walk 10 mixed (by kernel_rfl) ?_
  simp only [go_sem, h]
  refine DrawK.walk 11 mixed (by kernel_rfl) ?_
  simp only [go_sem, longV, mixX, longS, longT, longX, h]
  rfl
theorem longS_dk {l : List Int} {s : DS} (h : Dk l s) : Dk l (longS l s) := by
 obtain ⟨h1, h2⟩ := h
 refine ⟨?_, h2⟩
 unfold longS
 simp only
 split <;> omega
def nextV (l : List Int) (s : DS) (n : Int) : Int := if n < 1 then 0 else (longV l s / 2) % n
def nextS (l : List Int) (s : DS) (n : Int) : DS := if n < 1 then s else longS l s
theorem nextS_dk {l : List Int} {s : DS} {n : Int} (h : Dk l s) : Dk l (nextS l s n) := by
 unfold nextS; split
 ·exact h
 ·exact longS_dk h
theorem nextV_lt {l : List Int} {s : DS} {n : Int} (hn : 1 <= n) : 0 <= nextV l s n /\ nextV l s n < n := by
 unfold nextV
 rw [if_neg (by omega)]
 exact ⟨Int.emod_nonneg _ (by omega), Int.emod_lt_of_pos _ (by omega)⟩
theorem con_dNext (l : List Int) (s : DS) (n : Int) (h : Dk l s) : Con Tryz.prog 18 [.pb 0 0, vi n] [deckA l s]
  fun r b => r = vi (nextV l s n) /\ b = [deckA l (nextS l s n)] := by
 refine Con.intro Tryz.func18 rfl Tryz.ntmps18 Tryz.results18 (by kernel_rfl) (by simp) 1 (by simp) ?_
 by_cases h1 : n < 1
 ·simp only [go_sem, h1, nextV, nextS]
 ·have hr := longV_range l s
  simp only [go_sem, h1, nextV, nextS]
  refine CallU.boxes (i := 0) (is := []) (bx0 := [deckA l s]) (con_dLong l s h) (by simp only [go_sem]) (by simp only [go_sem]) (by simp only [go_sem]) (by simp only [go_sem]) (by simp only [go_sem]) ?_
  rintro r b ⟨rfl, rfl⟩
  simp only [go_sem]
  have hv : IntKind.i64.wrap ((longV l s).fdiv (2 ^ min 1 64)) = longV l s / 2 := by
   have e : (2 : Int) ^ min 1 64 = 2 := rfl
   rw [e, Int.fdiv_eq_ediv_of_nonneg _ (by omega)]
   exact wrap_in (by omega) (by omega)
  rw [hv, Int.tmod_eq_emod_of_nonneg (by omega)]
  exact ⟨by omega, rfl⟩
def oneV (l : List Int) (s : DS) (n : Int) : Bool := nextV l s n == 0
theorem con_dOne (l : List Int) (s : DS) (n : Int) (h : Dk l s) : Con Tryz.prog 42 [.pb 0 0, vi n] [deckA l s]
  fun r b => r = vb (oneV l s n) /\ b = [deckA l (nextS l s n)] := by
 refine Con.intro Tryz.func42 rfl Tryz.ntmps42 Tryz.results42 (by kernel_rfl) (by simp) 1 (by simp) ?_
 simp only [go_sem]
 refine CallU.boxes (i := 0) (is := []) (bx0 := [deckA l s]) (con_dNext l s n h) (by simp only [go_sem]) (by simp only [go_sem]) (by simp only [go_sem]) (by simp only [go_sem]) (by simp only [go_sem]) ?_
 rintro r b ⟨rfl, rfl⟩
 simp only [go_sem, oneV]
def smS (l : List Int) (s : DS) (most : Int) : Nat -> DS
 | 0 => s
 | n + 1 => nextS l (smS l s most n) (most + 1)
def smV (l : List Int) (s : DS) (most : Int) : Nat -> List Int
 | 0 => []
 | n + 1 => smV l s most n ++ [nextV l (smS l s most n) (most + 1)]
theorem smS_dk {l : List Int} {s : DS} {most : Int} (h : Dk l s) : ∀ n, Dk l (smS l s most n)
 | 0 => h
 | n + 1 => nextS_dk (smS_dk h n)
theorem smV_len {l : List Int} {s : DS} {most : Int} : ∀ n, (smV l s most n).length = n
 | 0 => rfl
 | n + 1 => by rw [smV, List.length_append, smV_len n]; rfl
theorem smV_low {l : List Int} {s : DS} {most : Int} (h : 0 <= most) : ∀ n, ∀ x ∈ smV l s most n, 0 <= x /\ x <= most
 | 0 => fun x hx => by cases hx
 | n + 1 => fun x hx => by
  rw [smV, List.mem_append] at hx
  rcases hx with hx | hx
  ·exact smV_low h n x hx
  ·simp only [List.mem_cons, List.not_mem_nil, or_false] at hx
   have := nextV_lt (l := l) (s := smS l s most n) (n := most + 1) (by omega)
   subst hx; omega
theorem con_dSmall (l : List Int) (s : DS) (n : Nat) (most : Int) (h : Dk l s) (hn : n <= 1000000) (hm : -1 <= most /\ most <= 1000000) : Con Tryz.prog 54 [.pb 0 0, vi n, vi most] [deckA l s]
  fun r b => r = vs 2 (smV l s most n) /\ b = [deckA l (smS l s most n)] := by
 refine Con.intro Tryz.func54 rfl Tryz.ntmps54 Tryz.results54 (by kernel_rfl) (by simp) 1 (by simp) ?_
 simp only [go_sem]
 refine LoopK.intro (fun i : Nat => ⟨22, [(0, .pb 0 0), (1, vi n), (2, vi most), (7, vs 1344 (smV l s most i)), (8, vi i)], [deckA l (smS l s most i)]⟩)
  (fun i => n - i) (fun i => i <= n) 0 (by omega) ?_ ?_
 ·simp only [go_sem, smV, smS, List.map_nil]
 rintro i hi
 by_cases h2 : i < n
 ·have hw : IntKind.i64.wrap (i + 1) = i + 1 := wrap_in (by omega) (by omega)
  have hw2 : IntKind.i64.wrap (most + 1) = most + 1 := wrap_in (by omega) (by omega)
  simp only [go_sem, h2, hw2]
  refine CallU.boxes (i := 0) (is := []) (bx0 := [deckA l (smS l s most i)]) (con_dNext l (smS l s most i) (most + 1) (smS_dk h i)) (by simp only [go_sem]) (by simp only [go_sem]) (by simp only [go_sem]) (by simp only [go_sem]) (by simp only [go_sem]) ?_
  rintro r b ⟨rfl, rfl⟩
  have hr : roomFor ((smV l s most i).length + 1) 8 := by rw [smV_len]; simp only [roomFor]; omega
  simp only [go_sem, hr, hw]
  refine roundK.intro (i + 1) (by omega) (by omega) ?_
  simp only [go_sem, smV, smS, List.map_append, List.map_cons, List.map_nil]
 ·have e : i = n := by omega
  subst e
  simp only [go_sem, h2]
theorem con_dSmallF (l : List Int) (s : DS) (n : Nat) (most : Int) (h : Dk l s) (hn : n <= 1000000) (hm : -1 <= most /\ most <= 1000000) : Con Tryz.prog 54 [.pb 0 0, vi n, vi most] [deckA l s]
  fun r b => r = vs 0 (smV l s most n) /\ b = [deckA l (smS l s most n)] :=
 ((con_dSmall l s n most h hn hm).freezeB fun _ => true).mono fun r b ⟨r1, b1, ⟨h1, h2⟩, h3, h4⟩ => by
  subst h1; subst h2; subst h3; subst h4
  exact ⟨rfl, rfl⟩
def wdN (l : List Int) (s : DS) (most : Int) : Nat := (nextV l s (most + 1)).toNat
def wdV (l : List Int) (s : DS) (letters most : Int) : List Int := smV l (nextS l s (most + 1)) (letters - 1) (wdN l s most)
def wdS (l : List Int) (s : DS) (letters most : Int) : DS := smS l (nextS l s (most + 1)) (letters - 1) (wdN l s most)
theorem wdS_dk {l : List Int} {s : DS} {a b : Int} (h : Dk l s) : Dk l (wdS l s a b) := smS_dk (nextS_dk h) _
theorem wdN_le {l : List Int} {s : DS} {most : Int} (h : 0 <= most) : (wdN l s most : Int) = nextV l s (most + 1) /\ (wdN l s most : Int) <= most := by
 have := nextV_lt (l := l) (s := s) (n := most + 1) (by omega)
 unfold wdN; omega
theorem con_dWord (l : List Int) (s : DS) (letters most : Int) (h : Dk l s) (h1 : 0 <= letters /\ letters <= 1000000) (h2 : 0 <= most /\ most <= 1000) : Con Tryz.prog 48 [.pb 0 0, vi letters, vi most] [deckA l s]
  fun r b => r = vs 2 (wdV l s letters most) /\ b = [deckA l (wdS l s letters most)] := by
 refine Con.intro Tryz.func48 rfl Tryz.ntmps48 Tryz.results48 (by kernel_rfl) (by simp) 1 (by simp) ?_
 have hw : IntKind.i64.wrap (most + 1) = most + 1 := wrap_in (by omega) (by omega)
 have hw2 : IntKind.i64.wrap (letters - 1) = letters - 1 := wrap_in (by omega) (by omega)
 obtain ⟨e, e2⟩ := wdN_le (l := l) (s := s) h2.1
 simp only [go_sem, hw]
 refine CallU.boxes (i := 0) (is := []) (bx0 := [deckA l s]) (con_dNext l s (most + 1) h) (by simp only [go_sem]) (by simp only [go_sem]) (by simp only [go_sem]) (by simp only [go_sem]) (by simp only [go_sem]) ?_
 rintro r b ⟨rfl, rfl⟩
 simp only [go_sem, hw2, <- e]
 refine CallU.boxes (i := 0) (is := []) (bx0 := [deckA l (nextS l s (most + 1))]) (con_dSmall l (nextS l s (most + 1)) (wdN l s most) (letters - 1) (nextS_dk h) (by omega) (by omega)) (by simp only [go_sem]) (by simp only [go_sem]) (by simp only [go_sem]) (by simp only [go_sem]) (by simp only [go_sem]) ?_
 rintro r b ⟨rfl, rfl⟩
 simp only [go_sem]
 exact ⟨rfl, rfl⟩
def cfgO (t s : Nat) (v : List Int) : AV := .ag [vi 0, .sl t 2 (kidZ s :: v.map kidZ)]
attribute [go_sem] cfgO
structure Own (m : MD) : Prop where
 kind : m.kind = 1
 states : 1 <= m.states.length /\ m.states.length <= 8
 places : 1 <= m.places.length /\ m.places.length <= 6
 letters : m.letters = []
 ranks : m.ranks = []
 levels : m.levels = 0
 age : m.age = 0
 names : namesB (m.states ++ m.places) = true
def noR (m : MD) (st : CV) : MD := { m with rules := [], start := st }
def noRA (m : MD) (st : CV) : AV := .ag [vi m.kind, vss m.states, vss m.places, vss m.letters, vs 0 m.ranks, vi m.levels, vi m.age, .nil, vi st.n, .sl 0 2 (st.kids.map vV)]
attribute [go_sem] noRA
theorem noR_le (m : MD) (st : CV) : leV (noRA m st) (vM (noR m st)) := by
 unfold vM cM noR noRA
 exact leV_ag ⟨leV_refl _, leV_refl _, leV_refl _, leV_refl _, leV_refl _, leV_refl _, leV_refl _, leV_nil 0 14, leV_refl _, leV_refl _, trivial⟩
def hidA (m : MD) : AV := .ag [vi m.kind, vss m.states, vss m.places, vss m.letters, vs 0 m.ranks, vi m.levels, vi m.age, .any, .any, .any]
attribute [go_sem] hidA
def noSA (m : MD) : AV := .ag [vi m.kind, vss m.states, vss m.places, vss m.letters, vs 0 m.ranks, vi m.levels, vi m.age, .nil, vi 0, .nil]
attribute [go_sem] noSA
end Go.AM
namespace Go.AM
abbrev Tk := Int × Int
def chg : List Tk -> Int
 | [] => 0
 | t :: ts => t.2 - t.1 + chg ts
def effStep (p : Int × Int) (t : Tk) : Int × Int := (if p.1 <= t.1 - p.2 then t.1 - p.2 else p.1, p.2 + (t.2 - t.1))
def effFold (ts : List Tk) (p : Int × Int) : Int × Int := ts.foldl effStep p
theorem effFold_chg : ∀ (ts : List Tk) (p : Int × Int), (effFold ts p).2 = p.2 + chg ts
 | [], p => by simp [effFold, chg]
 | t :: ts, p => by
  have := effFold_chg ts (effStep p t)
  unfold effFold at *
  rw [List.foldl_cons, this]
  simp only [effStep, chg]; omega
theorem effFold_mono : ∀ (ts : List Tk) (p : Int × Int), p.1 <= (effFold ts p).1
 | [], p => Int.le_refl _
 | t :: ts, p => by
  have := effFold_mono ts (effStep p t)
  unfold effFold at *
  rw [List.foldl_cons]
  refine Int.le_trans ?_ this
  simp only [effStep]; split <;> omega
def needA (ts : List Tk) : Int := (effFold ts (0, 0)).1
theorem needA_nonneg (ts : List Tk) : 0 <= needA ts := effFold_mono ts (0, 0)
theorem chg_app : ∀ {ts us : List Tk}, chg (ts ++ us) = chg ts + chg us
 | [], us => by simp [chg]
 | t :: ts, us => by simp only [List.cons_append, chg]; rw [chg_app]; omega
def tksF (rules : List RD) (c : List Int) (p : Nat) : List Tk := c.map fun k => (rules[k.toNat]!.need[p]!, rules[k.toNat]!.give[p]!)
def needL (np : Nat) (rules : List RD) (c : List Int) : List Int := (List.range np).map fun p => needA (tksF rules c p)
def chgL (np : Nat) (rules : List RD) (c : List Int) : List Int := (List.range np).map fun p => chg (tksF rules c p)
theorem needL_len (np : Nat) (rules : List RD) (c : List Int) : (needL np rules c).length = np := by simp [needL]
theorem chgL_len (np : Nat) (rules : List RD) (c : List Int) : (chgL np rules c).length = np := by simp [chgL]
def mixL (np i : Nat) (f g : Nat -> Int) : List Int := (List.range np).map fun p => if p < i then f p else g p
theorem mixL_len (np i : Nat) (f g : Nat -> Int) : (mixL np i f g).length = np := by simp [mixL]
theorem mixL_zero (np : Nat) (f g : Nat -> Int) : mixL np 0 f g = (List.range np).map g := by simp [mixL]
theorem mixL_full (np : Nat) (f g : Nat -> Int) : mixL np np f g = (List.range np).map f := by
 unfold mixL
 refine List.map_congr_left fun p hp => ?_
 rw [if_pos (List.mem_range.1 hp)]
theorem mixL_at {np i p : Nat} {f g : Nat -> Int} (h : p < np) : (mixL np i f g)[p]! = if p < i then f p else g p := by
 rw [getElem!_pos _ p (by rw [mixL_len]; exact h)]; simp [mixL]
theorem mixL_set {np i : Nat} {f g : Nat -> Int} : (mixL np i f g).set i (f i) = mixL np (i + 1) f g := by
 refine List.ext_getElem? fun j => ?_
 rw [List.getElem?_set]
 by_cases hij : i = j
 ·subst hij
  simp only [mixL_len, if_pos]
  by_cases h : i < np
  ·rw [if_pos h]
   unfold mixL
   rw [List.getElem?_map, List.getElem?_range h, Option.map_some, if_pos (by omega)]
  ·rw [if_neg h, List.getElem?_eq_none (by rw [mixL_len]; omega)]
 ·rw [if_neg hij]
  unfold mixL
  rw [List.getElem?_map, List.getElem?_map]
  by_cases h : j < np
  ·rw [List.getElem?_range h, Option.map_some, Option.map_some]
   congr 1
   by_cases h2 : j < i
   ·rw [if_pos h2, if_pos (by omega)]
   ·rw [if_neg h2, if_neg (by omega)]
  ·rw [List.getElem?_eq_none (by simp; omega)]; rfl
theorem chg_bnd : ∀ {ts : List Tk} {B : Int}, (∀ t ∈ ts, 0 <= t.1 /\ t.1 <= B /\ 0 <= t.2 /\ t.2 <= B) -> 0 <= B -> -(ts.length * B) <= chg ts /\ chg ts <= ts.length * B
 | [], B, _, _ => by simp [chg]
 | t :: ts, B, h, hB => by
  have h1 := chg_bnd (fun x hx => h x (List.mem_cons_of_mem _ hx)) hB
  have h2 := h t (List.mem_cons_self ..)
  simp only [chg, List.length_cons, Int.natCast_add, Int.add_mul, Int.natCast_one, Int.one_mul]
  omega
theorem effFold_bnd : ∀ {ts : List Tk} {B : Int} {p : Int × Int}, (∀ t ∈ ts, 0 <= t.1 /\ t.1 <= B /\ 0 <= t.2 /\ t.2 <= B) -> 0 <= B -> ∀ {M : Int}, 0 <= M -> p.1 <= M + B -> -M <= p.2 -> (effFold ts p).1 <= M + (ts.length + 1) * B
 | [], B, p, _, _, M, _, h2, _ => by simp only [effFold, List.foldl_nil, List.length_nil]; simpa using h2
 | t :: ts, B, p, h, hB, M, hM, h2, h3 => by
  have ht := h t (List.mem_cons_self ..)
  have := effFold_bnd (p := effStep p t) (fun x hx => h x (List.mem_cons_of_mem _ hx)) hB (M := M + B) (by omega) (by simp only [effStep]; split <;> omega) (by simp only [effStep]; omega)
  unfold effFold at *
  rw [List.foldl_cons]
  refine Int.le_trans this ?_
  simp only [List.length_cons, Int.natCast_add, Int.add_mul, Int.natCast_one, Int.one_mul]
  omega
theorem needA_bnd {ts : List Tk} {B : Int} (h : ∀ t ∈ ts, 0 <= t.1 /\ t.1 <= B /\ 0 <= t.2 /\ t.2 <= B) (hB : 0 <= B) : needA ts <= (ts.length + 1) * B := by
 have := effFold_bnd (p := (0, 0)) h hB (M := 0) (Int.le_refl _) (by simpa using hB) (by simp)
 unfold needA; omega
end Go.AM
namespace Go.AM
open Go Go.Proofs Go.RowKit
set_option maxRecDepth 100000
set_option maxHeartbeats 8000000
theorem con_mplain1 (r : RD) : Con Tryz.prog 140 [vRule r] [] fun x _ => x = .sc (.bool (!stillB r)) := by
 refine Con.intro Tryz.func140 rfl Tryz.ntmps140 Tryz.results140 (by kernel_rfl) (by simp) 1 (by simp) ?_
 unfold stillB
 simp only [go_sem]
 cases r.move <;> simp
theorem con_mplain (m : MD) (hk : m.kind = 1) (hl : m.rules.length <= 9223372036854775806) : Con Tryz.prog 86 [vM m] [] fun x _ => x = vb (m.rules.all stillB) := by
 refine Con.intro Tryz.func86 rfl Tryz.ntmps86 Tryz.results86 (by kernel_rfl) (by simp) 1 (by simp) ?_
 simp only [go_sem, hk]
 refine CallU.free (con_containsRule m.rules 140 [] (fun r => !stillB r) rfl (fun r _ => con_mplain1 r) hl) (by simp only [go_sem]) (by simp only [go_sem]) ?_
 rintro r bx rfl
 simp only [go_sem, any_not]
def badRule (n : Nat) (k : Int) : Bool := decide (k < 0) || decide ((n : Int) <= k)
theorem con_eff1 (m : MD) (k : Int) : Con Tryz.prog 105 [vi k, .fp (cM m) 0] [] fun x _ => x = .sc (.bool (badRule m.rules.length k)) := by
 refine Con.intro Tryz.func105 rfl Tryz.ntmps105 Tryz.results105 (by kernel_rfl) (by simp) 0 (by simp) ?_
 unfold badRule
 by_cases h : k < 0
 ·simp only [go_sem, cM, vss, h, decide_true, Bool.true_or]
 ·by_cases h2 : (m.rules.length : Int) <= k
  ·simp only [go_sem, cM, vss, h, h2, List.length_map, decide_true, decide_false, Bool.false_or]
  ·simp only [go_sem, cM, vss, h, h2, List.length_map, decide_false, Bool.false_or]
def RulesOk (rules : List RD) (c : List Int) : Prop := ∀ k ∈ c, 0 <= k /\ k < rules.length
theorem rules_any {rules : List RD} {c : List Int} (h : RulesOk rules c) : c.any (badRule rules.length) = false := by
 rw [List.any_eq_false]
 intro k hk
 have := h k hk
 unfold badRule
 rw [decide_eq_false (by omega), decide_eq_false (by omega)]
 simp
def SmallR (np : Nat) (r : RD) : Prop := r.need.length = np /\ r.give.length = np /\ (∀ x ∈ r.need, 0 <= x /\ x <= 16) /\ ∀ x ∈ r.give, 0 <= x /\ x <= 16
theorem good_small {m : MD} (h : GoodM m) : ∀ r ∈ m.rules, SmallR m.places.length r := fun r hr => by
 have h3 := (h.rules r hr).1
 unfold ruleB changesB smallB betweenB at h3
 simp only [Bool.and_eq_true, decide_eq_true_eq, List.all_eq_true] at h3
 exact ⟨h3.1.2.1.1.1, h3.1.2.1.1.2, h3.1.2.1.2, h3.1.2.2⟩
theorem tks_bnd {np : Nat} {rules : List RD} {c : List Int} {p : Nat} (h : ∀ r ∈ rules, SmallR np r) (hc : RulesOk rules c) (hp : p < np) : ∀ t ∈ tksF rules c p, 0 <= t.1 /\ t.1 <= 16 /\ 0 <= t.2 /\ t.2 <= 16 := fun t ht => by
 obtain ⟨k, hk, rfl⟩ := List.mem_map.1 ht
 have hk' := hc k hk
 have hr := h _ (mem_bangI (show k.toNat < rules.length by omega))
 unfold SmallR at hr
 have h1 := hr.2.2.1 _ (mem_bangI (show p < rules[k.toNat]!.need.length by omega))
 have h2 := hr.2.2.2 _ (mem_bangI (show p < rules[k.toNat]!.give.length by omega))
 exact ⟨h1.1, h1.2, h2.1, h2.2⟩
theorem tks_len (rules : List RD) (c : List Int) (p : Nat) : (tksF rules c p).length = c.length := by simp [tksF]
theorem tks_take {rules : List RD} {c : List Int} {p j : Nat} (h : j < c.length) : tksF rules (c.take (j + 1)) p = tksF rules (c.take j) p ++ [(rules[c[j]!.toNat]!.need[p]!, rules[c[j]!.toNat]!.give[p]!)] := by
 unfold tksF
 rw [List.take_add_one, List.getElem?_eq_getElem h, List.map_append, getElem!_pos c j h]; rfl
theorem need_take {rules : List RD} {c : List Int} {p j : Nat} (h : j < c.length) : needA (tksF rules (c.take (j + 1)) p) = if needA (tksF rules (c.take j) p) <= rules[c[j]!.toNat]!.need[p]! - chg (tksF rules (c.take j) p) then rules[c[j]!.toNat]!.need[p]! - chg (tksF rules (c.take j) p) else needA (tksF rules (c.take j) p) := by
 have h2 := effFold_chg (tksF rules (c.take j) p) (0, 0)
 simp only [Int.zero_add] at h2
 unfold needA
 rw [tks_take h]
 unfold effFold at *
 rw [List.foldl_append, List.foldl_cons, List.foldl_nil]
 generalize List.foldl effStep (0, 0) (tksF rules (c.take j) p) = q at *
 rw [<- h2]; rfl
theorem chg_take {rules : List RD} {c : List Int} {p j : Nat} (h : j < c.length) : chg (tksF rules (c.take (j + 1)) p) = chg (tksF rules (c.take j) p) + (rules[c[j]!.toNat]!.give[p]! - rules[c[j]!.toNat]!.need[p]!) := by
 rw [tks_take h, chg_app]; simp [chg]
theorem rules_take {rules : List RD} {c : List Int} (j : Nat) (h : RulesOk rules c) : RulesOk rules (c.take j) := fun k hk => h k (List.mem_of_mem_take hk)
theorem con_cEffect (m : MD) (c : List Int) (h : GoodM m) (hst : m.rules.all stillB = true) (hc : RulesOk m.rules c) (hl : c.length <= 64) :
  Con Tryz.prog 49 [vM m, vs 0 c] [] fun r _ => r = .tup [vs 2 (needL m.places.length m.rules c), vs 3 (chgL m.places.length m.rules c), vi 0] := by
 refine Con.intro Tryz.func49 rfl Tryz.ntmps49 Tryz.results49 (by kernel_rfl) (by simp) 0 (by simp) ?_
 have h2 := h.places
 have h3 := h.few
 have hsm := good_small h
 have hl2 : ¬ (64 : Int) < (c.length : Int) := by omega
 simp only [go_sem, vM, cM, vss]
 refine CallU.free (con_check m h) (by simp only [go_sem]) (by simp only [go_sem, vM, cM, vss]) ?_
 rintro x bx rfl
 simp only [go_sem]
 refine CallU.free (con_mplain m h.kind (by omega)) (by simp only [go_sem]) (by simp only [go_sem, vM, cM, vss]) ?_
 rintro x bx rfl
 simp only [go_sem, hst, hl2]
 refine CallU.look (con_containsInt c 105 [.fp (cM m) 0] (badRule m.rules.length) (by simp only [go_sem]) (fun x _ => con_eff1 m x) (by omega)) (by simp only [go_sem]) (by simp only [go_sem, cM, vss]) ?_
 rintro x bx rfl
 simp only [go_sem, rules_any hc]
 refine DrawK.walk 10 mixed (by kernel_rfl) ?_
 simp only [go_sem, List.length_map]
 refine ⟨Nat.le_refl _, by omega, by omega, Nat.le_refl _, by omega, by omega, ?_⟩
 obtain ⟨np, hnp⟩ : ∃ np, np = m.places.length := ⟨_, rfl⟩
 rw [<- hnp] at h2 hsm ⊢
 have hrep : List.replicate np (AV.sc (.int .i64 0)) = (needL np m.rules (c.take 0)).map vi := by unfold needL; simp [tksF, needA, effFold, List.map_const']; exact .inr rfl
 have hrep2 : List.replicate np (AV.sc (.int .i64 0)) = (chgL np m.rules (c.take 0)).map vi := by unfold chgL; simp [tksF, chg, List.map_const']; exact .inr rfl
 refine LoopK.intro (fun j : Nat => ⟨94, [(2, .pb 0 0), (8, vs 2240 (needL np m.rules (c.take j))), (9, vs 2496 (chgL np m.rules (c.take j))), (39, vs 0 c), (40, vi c.length), (41, vi j)], [cM m] ++ Rk 14 j⟩)
  (fun j => c.length - j) (fun j => j <= c.length) 0 (by omega) ?_ ?_
 ·simp only [go_sem, cM, vss, Rk, List.replicate_zero, List.append_nil]
  exact ⟨by rw [hrep]; exact leV_refl _, by rw [hrep2]; exact leV_refl _⟩
 rintro j hj
 have nl := needL_len np m.rules (c.take j)
 have cl := chgL_len np m.rules (c.take j)
 by_cases hjl : j < c.length
 case neg =>
  have e1 : c.take j = c := List.take_of_length_le (by omega)
  simp only [go_sem, cM, vss, hjl, e1]
 have hck := hc _ (mem_bangI hjl)
 obtain ⟨k, ek, hk⟩ : ∃ k : Nat, c[j]! = k /\ k < m.rules.length := ⟨c[j]!.toNat, by omega, by omega⟩
 have hg := getv hjl
 have hgr := getRule hk
 have hrk := hsm _ (mem_bangI hk)
 have ra : ∀ L : List (List AV), (Rk 14 j ++ L)[(Rk 14 j).length]? = L[0]? := fun L => app_at0 rfl
 have rs : ∀ (L : List (List AV)) z, (Rk 14 j ++ L).set (Rk 14 j).length z = Rk 14 j ++ L.set 0 z := fun L z => app_set0 rfl
 have hw : IntKind.i64.wrap (j + 1) = j + 1 := wrap_in (by omega) (by omega)
 rw [ek] at hg
 simp only [go_sem, cM, vss, hjl, hg, hk, hgr, ra, rs, List.cons_append, List.nil_append, List.length_map, nl]
 obtain ⟨r, er⟩ : ∃ r, r = m.rules[k]! := ⟨_, rfl⟩
 rw [<- er] at hrk ⊢
 have hbnd : ∀ p, p < np -> 0 <= needA (tksF m.rules (c.take j) p) /\ needA (tksF m.rules (c.take j) p) <= 1040 /\ -1024 <= chg (tksF m.rules (c.take j) p) /\ chg (tksF m.rules (c.take j) p) <= 1024 := fun p hp => by
  have h5 := tks_bnd hsm (rules_take j hc) hp
  have h6 := needA_bnd h5 (by omega)
  have h7 := chg_bnd h5 (by omega)
  have h8 := tks_len m.rules (c.take j) p
  have h9 : (c.take j).length <= 64 := by rw [List.length_take]; omega
  have h10 := needA_nonneg (tksF m.rules (c.take j) p)
  rw [h8] at h6 h7
  omega
 have hnx : ∀ p, needA (tksF m.rules (c.take (j + 1)) p) = if needA (tksF m.rules (c.take j) p) <= r.need[p]! - chg (tksF m.rules (c.take j) p) then r.need[p]! - chg (tksF m.rules (c.take j) p) else needA (tksF m.rules (c.take j) p) := fun p => by
  have := need_take (rules := m.rules) (p := p) hjl
  rw [ek, Int.toNat_natCast, <- er] at this; exact this
 have hcx : ∀ p, chg (tksF m.rules (c.take (j + 1)) p) = chg (tksF m.rules (c.take j) p) + (r.give[p]! - r.need[p]!) := fun p => by
  have := chg_take (rules := m.rules) (p := p) hjl
  rw [ek, Int.toNat_natCast, <- er] at this; exact this
 obtain ⟨f1, e1⟩ : ∃ f1 : Nat -> Int, f1 = fun p => needA (tksF m.rules (c.take (j + 1)) p) := ⟨_, rfl⟩
 obtain ⟨f0, e0⟩ : ∃ f0 : Nat -> Int, f0 = fun p => needA (tksF m.rules (c.take j) p) := ⟨_, rfl⟩
 obtain ⟨g1, e3⟩ : ∃ g1 : Nat -> Int, g1 = fun p => chg (tksF m.rules (c.take (j + 1)) p) := ⟨_, rfl⟩
 obtain ⟨g0, e2⟩ : ∃ g0 : Nat -> Int, g0 = fun p => chg (tksF m.rules (c.take j) p) := ⟨_, rfl⟩
 have n0 : needL np m.rules (c.take j) = mixL np 0 f1 f0 := by rw [mixL_zero, e0]; rfl
 have n1 : needL np m.rules (c.take (j + 1)) = mixL np np f1 f0 := by rw [mixL_full, e1]; rfl
 have c0 : chgL np m.rules (c.take j) = mixL np 0 g1 g0 := by rw [mixL_zero, e2]; rfl
 have c1 : chgL np m.rules (c.take (j + 1)) = mixL np np g1 g0 := by rw [mixL_full, e3]; rfl
 rw [n0, c0]
 refine LoopK.intro (fun i : Nat => ⟨94, [(2, .pb 0 0), (8, vs 2240 (mixL np i f1 f0)), (9, vs 2496 (mixL np i g1 g0)), (12, .pb ((Rk 14 j).length + 1) 0), (39, vs 0 c), (40, vi c.length), (41, vi j), (51, vi np), (52, vi i)], cM m :: (Rk 14 j ++ [[vStr r.name, vi r.src, vi r.dst, vs 0 r.need, vs 0 r.give, vs 0 r.move, vi r.channel, vi r.act, vi r.letter, vs 0 r.path, vs 0 r.next, .sl 0 3 (r.takes.map vTake), vs 0 r.makes, vi r.second]])⟩)
  (fun i => np - i) (fun i => i <= np) 0 (by omega) ?_ ?_
 ·simp only [go_sem, cM, vss]
  all_goals exact leB_self _
 rintro i hi
 have ml := mixL_len np i f1 f0
 have ml2 := mixL_len np i g1 g0
 by_cases hil : i < np
 ·have hb := hbnd i hil
  have hw2 : IntKind.i64.wrap (i + 1) = i + 1 := wrap_in (by omega) (by omega)
  have q1 := getv (l := mixL np i f1 f0) (i := i) (by omega)
  have q2 := getv (l := mixL np i g1 g0) (i := i) (by omega)
  have q3 := getv (l := r.need) (i := i) (by rw [hrk.1]; exact hil)
  have q4 := getv (l := r.give) (i := i) (by rw [hrk.2.1]; exact hil)
  have l3 : i < r.need.length := by rw [hrk.1]; exact hil
  have l4 : i < r.give.length := by rw [hrk.2.1]; exact hil
  have b3 := hrk.2.2.1 _ (mem_bangI l3)
  have b4 := hrk.2.2.2 _ (mem_bangI l4)
  have f0i : f0 i = needA (tksF m.rules (c.take j) i) := by rw [e0]
  have g0i : g0 i = chg (tksF m.rules (c.take j) i) := by rw [e2]
  have hf1 := hnx i
  have hg1 := hcx i
  have f1i : f1 i = if f0 i <= r.need[i]! - g0 i then r.need[i]! - g0 i else f0 i := by rw [e1, f0i, g0i]; exact hf1
  have g1i : g1 i = g0 i + (r.give[i]! - r.need[i]!) := by rw [e3, g0i]; exact hg1
  rw [<- f0i, <- g0i] at hb
  rw [mixL_at hil, if_neg (by omega)] at q1 q2
  have w1 : IntKind.i64.wrap (r.need[i]! - g0 i) = r.need[i]! - g0 i := wrap_in (by omega) (by omega)
  have w2 : IntKind.i64.wrap (r.give[i]! - r.need[i]!) = r.give[i]! - r.need[i]! := wrap_in (by omega) (by omega)
  have w3 : IntKind.i64.wrap (g0 i + (r.give[i]! - r.need[i]!)) = g1 i := by rw [g1i]; exact wrap_in (by omega) (by omega)
  have hmx : max (f0 i) (r.need[i]! - g0 i) = f1 i := by rw [f1i, Int.max_def]
  have hs1 := mixL_set (np := np) (i := i) (f := f1) (g := f0)
  have hs2 := mixL_set (np := np) (i := i) (f := g1) (g := g0)
  simp only [go_sem, cM, vss, hil]
  refine DrawK.walk 18 mixed (by kernel_rfl) ?_
  simp only [go_sem, ml, ml2, hil, ra, q1, q2, q3, l3, w1]
  refine DrawK.walk 17 mixed (by kernel_rfl) ?_
  simp only [go_sem, ml2, hil, ra, q2, q3, q4, l3, l4, w2, w3]
  rw [hmx]
  simp only [modify_vi, hs1, hs2]
  refine roundK.intro (i + 1) (by show i + 1 <= np; omega) (by show np - (i + 1) < np - i; omega) ?_
  simp only [go_sem, hw2]
 ·obtain rfl : i = np := by omega
  simp only [go_sem, cM, vss, hil, hw]
  refine roundK.intro (j + 1) (by omega) (by omega) ?_
  simp only [go_sem, n1, c1, Rk_succ]
  all_goals exact leB_RkA ⟨leC_any _ 14 rfl, trivial⟩
end Go.AM
