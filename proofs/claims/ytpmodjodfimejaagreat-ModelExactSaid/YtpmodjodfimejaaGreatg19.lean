/- Am5 CmZ CmX0 LCyc FG GT GU GV GW GX HC CrL HF HD KV LMod -/
import Derived.Test.YtpmodjodfimejaaGreatg7
import Derived.Test.YtpmodjodfimejaaGreatg8
import Derived.Test.YtpmodjodfimejaaGreatg18
import Derived.Test.YtpmodjodfimejaaGreatg17
import Derived.Test.YtpmodjodfimejaaGreatg9
namespace Go.AM
open Go.RowKit
def noPb (N : Nat) : AV -> Bool
 | .pb i _ => decide (i ≠ N)
 | .cl _ caps => caps.all fun c => match c with
  | .pb i _ => decide (i ≠ N)
  | _ => true
 | _ => true
def noPbT (N : Nat) : List (Nat × AV) -> Bool
 | [] => true
 | (_, v) :: r => v.allLeaf (noPb N) && noPbT N r
def noPbB (N : Nat) : List (List AV) -> Bool
 | [] => true
 | cs :: r => allLeafs (noPb N) cs && noPbB N r
theorem noPbT_look {N : Nat} : ∀ {l : List (Nat × AV)}, noPbT N l = true -> ∀ s, (lookT l s).allLeaf (noPb N) = true
 | [], _, s => by simp [lookT, AV.allLeaf, noPb]
 | (k, v) :: r, h, s => by
  simp only [noPbT, Bool.and_eq_true] at h
  simp only [lookT]
  split
  ·exact h.1
  ·exact noPbT_look h.2 s
theorem noPbB_mem {N : Nat} : ∀ {l : List (List AV)}, noPbB N l = true -> ∀ (i : Nat) cs, l[i]? = some cs -> ∀ x ∈ cs, x.allLeaf (noPb N) = true
 | [], _, i, cs, h, _, _ => by simp at h
 | y :: r, h, i, cs, hi, x, hx => by
  simp only [noPbB, Bool.and_eq_true] at h
  cases i with
  | zero => simp at hi; subst hi; exact allLeafs_mem h.1 x hx
  | succ i => exact noPbB_mem h.2 i cs (by simpa using hi) x hx
theorem noPbT_put {N : Nat} {x : AV} (hx : x.allLeaf (noPb N) = true) : ∀ {l : List (Nat × AV)} {s : Nat}, noPbT N l = true -> noPbT N (putT l s x) = true
 | [], s, _ => by simp [putT, noPbT, hx]
 | (s', v) :: r, s, h => by
  simp only [noPbT, Bool.and_eq_true] at h
  unfold putT
  split
  ·simp [noPbT, hx, h.2]
  ·simp [noPbT, h.1, noPbT_put hx h.2]
theorem noPbB_set {N : Nat} : ∀ (bx : List (List AV)) (k : Nat) (c' : List AV), noPbB N bx = true -> allLeafs (noPb N) c' = true -> noPbB N (bx.set k c') = true
 | [], _, _, _, _ => rfl
 | b :: bx, 0, c', h1, h2 => by simp only [List.set_cons_zero, noPbB, Bool.and_eq_true] at h1 ⊢; exact ⟨h2, h1.2⟩
 | b :: bx, k + 1, c', h1, h2 => by simp only [List.set_cons_succ, noPbB, Bool.and_eq_true] at h1 ⊢; exact ⟨h1.1, noPbB_set bx k c' h1.2 h2⟩
def unboxG (N : Nat) (G : Nat -> Status) (b : Nat) : Status := if G b = .box N then .junk else G b
theorem unboxG_stable {N : Nat} {G : Nat -> Status} {b : Nat} : Stable (unboxG N G) b ↔ Stable G b := by
 unfold Stable unboxG
 split
 ·rename_i h; rw [h]; simp
 ·exact Iff.rfl
theorem unboxG_tag {N t : Nat} {G : Nat -> Status} {b : Nat} : unboxG N G b = .tag t ↔ G b = .tag t := by
 unfold unboxG
 split
 ·rename_i h; rw [h]; simp
 ·exact Iff.rfl
theorem unboxG_box {N i : Nat} {G : Nat -> Status} {b : Nat} : unboxG N G b = .box i ↔ G b = .box i /\ i ≠ N := by
 unfold unboxG
 split
 ·rename_i h; rw [h]; simp; exact fun e => e.symm
 ·rename_i h
  exact ⟨fun h' => ⟨h', fun e => h (by rw [h', e])⟩, fun h' => h'.1⟩
theorem VRel.unbox {N : Nat} {G : Nat -> Status} {w : World} {x : AV} {v : Value} (h : VRel G w x v) (hq : x.allLeaf (noPb N) = true) : VRel (unboxG N G) w x v := by
 have hF : ∀ {x v}, FRel (Stable G) w x v -> FRel (Stable (unboxG N G)) w x v := fun hr => hr.mono (fun b => unboxG_stable.2) (fun _ _ => rfl)
 have hsl : ∀ {t es xs v}, VRel G w (.sl t es xs) v -> VRel (unboxG N G) w (.sl t es xs) v := by
  intro t es xs v h
  cases h with
  | froz h => exact .froz (hF h)
  | own _ _ _ _ e vals h1 h2 h3 h4 h0 h5 => exact .own t es xs v e vals h1 h2 (fun b hb => unboxG_tag.2 (h3 b hb)) h4 h0 (h5.mono fun x y _ hr => hF hr)
 have hso : ∀ {t xs v}, VRel G w (.so t xs) v -> VRel (unboxG N G) w (.so t xs) v := by
  intro t xs v h
  have := h.so_map (f := id) (G' := unboxG N G) (w' := w) h.so_two (fun x u hx hr => ⟨hx, by
   cases hr with
   | froz hr => exact .froz (hF hr)
   | own t' es ys _ e vals h1 hrt h2 h3 h4 h0 h5 => exact .own t' es ys _ e vals h1 hrt h2 (fun b hb => unboxG_tag.2 (h3 b hb)) h4 h0 (h5.mono fun x y _ hr => hF hr)⟩)
   (fun b hb => ⟨unboxG_tag.2 hb, rfl⟩)
  simpa using this
 refine h.keepQ (fun x v hx hq h => ?_) hq
 cases x with
 | so t xs => exact hso h
 | po t xs i =>
  obtain ⟨b, off, c, h1, h2, rfl⟩ := h.po_inv
  exact (hso h1).po_of rfl h2
 | sl t es xs => exact hsl h
 | pe t es xs i o =>
  obtain ⟨b, off, c, h1, h2, rfl⟩ := h.pe_inv
  exact .pe _ _ _ _ _ _ _ _ (hsl h1) h2
 | pb i o =>
  obtain ⟨b, hb, rfl⟩ := h.pb_inv
  simp only [noPb, decide_eq_true_eq] at hq
  exact .pb _ _ _ (unboxG_box.2 ⟨hb, hq⟩)
 | ag cs => simp [AV.leafy] at hx
 | tup cs => simp [AV.leafy] at hx
 | any => exact .froz (.any _)
 | nil => rw [h.nil_inv]; exact .froz .nil
 | ub => obtain ⟨b, rfl⟩ := h.ub_inv; exact .froz (.ub b)
 | sc u => rw [h.sc_inv]; exact .froz (.sc _)
 | fn g caps => cases h with | froz h => exact .froz (hF h)
 | mp t P k e D => exact h.mpMono (fun b hb => unboxG_tag.2 hb) (fun _ _ _ _ _ => rfl)
 | cl g caps =>
  obtain ⟨vs, rfl, hp⟩ := h.cl_inv
  simp only [noPb, List.all_eq_true] at hq
  refine .cl _ _ _ (hp.mono fun x u hx hr => ?_)
  rcases hr with ⟨i, o, b, rfl, hb, rfl⟩ | hr
  ·have := hq _ hx
   simp only [decide_eq_true_eq] at this
   exact .inl ⟨i, o, b, rfl, unboxG_box.2 ⟨hb, this⟩, rfl⟩
  ·exact .inr (hF hr)
 | tl t es xs i =>
  obtain ⟨b, off, off', c, h1, h2, h3, _, rfl⟩ := h.tl_inv
  exact .tl _ _ _ _ _ _ _ _ (hsl h1) h2 h3
 | fp cs o => cases h with | froz h => exact .froz (hF h)
theorem SRel.unbox {G0 w0 σ G a w} (h : SRel G0 w0 σ G a w) {N k : Nat} (hg : G0.gh N = none) (h0 : ∀ b, b < w0.heap.size -> G0 b ≠ .box N) (ht : noPbT N σ.tmps = true) (hb : noPbB N σ.boxes = true) (hc : σ.boxes[N]? = some (List.replicate k .any)) :
  SRel G0 w0 σ (unboxG N G) a w /\ ∀ b, unboxG N G b ≠ .box N := by
 have hn : ∀ b, unboxG N G b ≠ .box N := fun b hb => (unboxG_box.1 hb).2 rfl
 refine ⟨{ h with good := ?_, slots := fun s => (h.slots s).unbox (noPbT_look ht s), boxes := ⟨h.boxes.low, fun i cs hi => ?_⟩, blt := fun b i hb => h.blt b i (unboxG_box.1 hb).1, stat := fun b hbl hnt => ?_ }, hn⟩
 ·refine ⟨fun b hb => h.good.lt b fun h' => hb (by unfold unboxG; rw [h']; simp), fun b b' t h1 h2 => h.good.tags b b' t (unboxG_tag.1 h1) (unboxG_tag.1 h2), fun b b' i h1 h2 => h.good.boxes b b' i (unboxG_box.1 h1).1 (unboxG_box.1 h2).1⟩
 ·by_cases hiN : i = N
  ·subst hiN
   rw [hc] at hi; cases hi
   exact .inr (.inr ⟨hg, hn, fun x hx v => by rw [(List.mem_replicate.1 hx).2]; exact .froz (.any _)⟩)
  ·refine (h.boxes.cell i cs hi).turn rfl (fun j x y v h1 h2 hr => ?_) (fun b hb => ⟨unboxG_box.2 ⟨hb, hiN⟩, rfl⟩) fun h0 b hb => h0 b (unboxG_box.1 hb).1
   rw [h1] at h2; cases h2
   exact hr.unbox (noPbB_mem hb i cs hi x (List.mem_of_getElem? h1))
 ·have h1 := h.stat b hbl hnt
  unfold unboxG
  rw [if_neg (fun h' => h0 b hbl (by rw [<- h1, h'])), h1]
theorem SRel.realize {G0 w0 σ G a w} (h : SRel G0 w0 σ G a w) {N d : Nat} {z : Value} {T : TypeId} (hg : G0.gh N = none) (hn : ∀ b, G b ≠ .box N) (hc : σ.boxes[N]? = some (List.replicate z.cells.size .any)) (hz : One z.cells.toList) (hd : d < σ.n) :
  SRel G0 w0 (σ.put (some d) (.pb N 0)) (updG G w.heap.size (.box N)) (a.put (some d) (.pointer (some ⟨w.heap.size, 0, none⟩))) (w.alloc (.cells z.cells T)) := by
 have hE : Ext G w (updG G w.heap.size (.box N)) (w.alloc (.cells z.cells T)) := .alloc _ _
 have hG : Good (updG G w.heap.size (.box N)) (w.alloc (.cells z.cells T)) := h.good.upd _ _ (Nat.le_refl _) (by simp) (by simp) (fun t ht => by cases ht) (fun i hi b hb => by cases hi; exact hn b hb)
 have hbx : ∀ b i, updG G w.heap.size (.box N) b = .box i -> (b = w.heap.size /\ i = N) \/ G b = .box i := fun b i hb => by
  unfold updG at hb
  split at hb
  ·rename_i e; cases hb; exact .inl ⟨e, rfl⟩
  ·exact .inr hb
 have hNl : N < σ.boxes.length := (List.getElem?_eq_some_iff.1 hc).1
 refine { good := hG, slots := slots_put (fun s => (h.slots s).ext h.good hE) h.size (by simpa [dstOk] using hd) (.pb _ _ _ (by simp [updG])), boxes := ⟨fun i vs hv => by rw [put_boxes]; exact h.boxes.low i vs hv, fun i cs hi => ?_⟩, blt := fun b i hb => ?_, size := by rw [put_size, put_n]; exact h.size, defs := by rw [put_defers]; exact h.defs, os := hE.os.trans h.os, tape := hE.tape.trans h.tape, output := hE.output.trans h.output, hsize := Nat.le_trans h.hsize hE.size, stat := fun b hb ht => (hE.stat b (Nat.lt_of_lt_of_le hb h.hsize)).trans (h.stat b hb ht), keep := fun b hb hn' ht => (hE.keep b (Nat.lt_of_lt_of_le hb h.hsize)).trans (h.keep b hb hn' ht) }
 ·rw [put_boxes] at hi
  by_cases hiN : i = N
  ·subst hiN
   rw [hc] at hi; cases hi
   refine .inl ⟨hg, w.heap.size, z.cells, T, by simp [updG], heap_alloc_new w _, hz, by simp, fun j x u hx _ => ?_⟩
   rw [List.getElem?_replicate] at hx
   split at hx
   ·cases hx; exact .froz (.any _)
   ·cases hx
  ·refine (h.boxes.cell i cs hi).same (fun x v hr => hr.ext h.good hE) (fun b hb => ?_) fun h0 b hb => ?_
   ·have hbs := h.good.lt b (by rw [hb]; simp)
    exact ⟨by rw [hE.stat b hbs]; exact hb, hE.keep b hbs⟩
   ·rcases hbx b i hb with ⟨_, e⟩ | h1
    ·exact hiN e
    ·exact h0 b h1
 ·rw [put_boxes]
  rcases hbx b i hb with ⟨_, rfl⟩ | h1
  ·exact hNl
  ·exact h.blt b i h1
def lookA : List (Nat × Nat) -> Nat -> Option Nat
 | [], _ => none
 | (i, N) :: r, k => if i = k then some N else lookA r k
def AllocP (P : Program) (bx : List (List AV)) (o : Oper) (N : Nat) (y : AV) : Prop :=
 o.guard = none /\ y = .pb N 0 /\ ∃ T q z, o.op = .alloc T /\ tinfo P T = some q /\ q.2.2 = some z /\ zeroOk q.1 z = true /\ bx[N]? = some (List.replicate q.1 .any)
section
variable {P : Program} {ops : Array Oper} {m : Nat} {vs : List (Nat × AV)} {E : List Nat} {A : List (Nat × Nat)} {C : Nat -> List AV} {i0 : Nat} {σ : St} {K : St -> Prop} {G0 : Orig} {w0 : World} {Q : Exit -> Act -> World -> Prop}
theorem head_runP {LF : List Nat} {tr : Tr} {sg : Option (Nat × Tr)} (hp : PlanL ops m E LF tr sg) (hE : PlanE ops m E) (h0 : True) (hN : ∀ e a w, e ≠ .normal -> ¬ Q e a w) (hQ : ∀ σ' G' a' w', K σ' -> SRel G0 w0 σ' G' a' w' -> Q .normal a' w') (hvl : vs.length = m) (hap : Apart vs) (hC : ∀ j, (C j).length = (C 0).length)
    (hK : treeA P ops tr (puts { σ with boxes := σ.boxes.set i0 (C E.length) } vs) K) (hK2 : sgA P ops sg (puts { σ with boxes := σ.boxes.set i0 (C E.length) } vs) K)
    (hst : ∀ i o, i < m -> ops[i]? = some o -> ∃ d y, vs[i]? = some (d, y) /\ o.dst = some d /\ d < σ.n /\
      if i ∈ E then EffC P σ i0 o d (puts σ (vs.take i)).ev (C (E.filter fun e => decide (e < i)).length) y (C ((E.filter fun e => decide (e < i)).length + 1)) else if i ∈ LF then FrontC P o (puts σ (vs.take i)).ev y else match lookA A i with | some N => AllocP P σ.boxes o N y | none => StepG P ops o d (puts σ (vs.take i)) (σ.boxes.set i0 (blankC E (C 0))) y)
    (hA : ∀ i N, i < m -> lookA A i = some N -> N ≠ i0 /\ G0.gh N = none /\ (∀ b, b < w0.heap.size -> G0 b ≠ .box N) /\ (∀ j d y, j ≠ i -> vs[j]? = some (d, y) -> y.allLeaf (noPb N) = true) /\ ∀ j, allLeafs (noPb N) (C j) = true)
    (hfr : ∀ i o d, ops[i]? = some o -> i < m -> o.dst = some d -> creates o.op = true -> (∀ j d' y, j ≠ i -> vs[j]? = some (d', y) -> y.allLeaf (freeLeaf d) = true \/ reach ops j j i = true) /\ ∀ j, allLeafs (freeLeaf d) (C j) = true) :
    ∀ (fuel : Nat) (listed : Array Bool) (U : List Nat) (τ : St) (G : Nat -> Status) (a : Act) (w : World), Left ops listed U -> U.length = fuel -> (∀ i, m <= i -> listed.getD i false = false) ->
      Closed ops (fun k => listed.getD k false) -> AtE vs E C i0 (fun i => listed.getD i false) σ τ -> SRel G0 w0 τ G a w ->
      (∀ i o d, ops[i]? = some o -> i < m -> o.dst = some d -> creates o.op = true -> listed.getD i false = false -> τ.free d = true) ->
      (∀ i N, i < m -> lookA A i = some N -> i ∉ E -> i ∉ LF -> listed.getD i false = false -> noPbT N τ.tmps = true /\ noPbB N τ.boxes = true) -> wpAny P .any ops Q fuel listed a w := by
  have posAll : ∀ {L : Nat -> Bool}, (∀ i, i < m -> L i = true) -> posE E L = E.length := fun {L} h => by
    unfold posE
    rw [List.filter_eq_self.2 fun e he => h e (hE.lt e he)]
  have done : ∀ {τ G a w} {L : Nat -> Bool}, AtE vs E C i0 L σ τ -> (∀ i, i < m -> L i = true) -> SRel G0 w0 τ G a w -> SRel G0 w0 (puts { σ with boxes := σ.boxes.set i0 (C E.length) } vs) G a w := by
    intro τ G a w L hat hall h
    have hpa := puts_at m vs { σ with boxes := σ.boxes.set i0 (C E.length) } hap
    rw [List.take_of_length_le (by omega)] at hpa
    refine h.slotsEq (by rw [hpa.n, hat.n]) (by rw [hpa.boxes, hat.boxes, posAll hall]) fun s => ?_
    by_cases hs : ∀ (i d : Nat) (y : AV), vs[i]? = some (d, y) -> d ≠ s
    · rw [hpa.rest s hs, hat.rest s hs]; rfl
    · have : ∃ (i : Nat) (y : AV), vs[i]? = some (s, y) := by
        apply Classical.byContradiction
        intro hcon
        exact hs fun i d y hi hds => hcon ⟨i, y, by rw [<- hds]; exact hi⟩
      obtain ⟨i, y, hi⟩ := this
      have hil : i < m := by rw [<- hvl]; exact (List.getElem?_eq_some_iff.1 hi).1
      rw [hpa.dst i s y hi, hat.dst i s y hi]
      simp [hil, hall i hil]
  have done2 : ∀ {τ G a w} {L : Nat -> Bool} {x dx : Nat} {yx : AV}, AtE vs E C i0 L σ τ -> x ∉ E -> vs[x]? = some (dx, yx) -> (∀ i, i < m -> i ≠ x -> L i = true) -> SRel G0 w0 τ G a w -> SRel G0 w0 ((puts { σ with boxes := σ.boxes.set i0 (C E.length) } vs).put (some dx) .any) G a w := by
    intro τ G a w L x dx yx hat hxE hx hall h
    have hpa := puts_at m vs { σ with boxes := σ.boxes.set i0 (C E.length) } hap
    rw [List.take_of_length_le (by omega)] at hpa
    have hpos : posE E L = E.length := by
      unfold posE
      rw [List.filter_eq_self.2 fun e he => hall e (hE.lt e he) fun h' => hxE (h' ▸ he)]
    have h2 := h.reput (d := dx) (x := .any) (.froz (.any _))
    refine h2.slotsEq (by rw [put_n, put_n, hpa.n, hat.n]) (by rw [put_boxes, put_boxes, hpa.boxes, hat.boxes, hpos]) fun s => ?_
    rw [get_put, get_put]
    by_cases hds : dx = s
    · rw [if_pos hds, if_pos hds]
    rw [if_neg hds, if_neg hds]
    by_cases hs : ∀ (i d : Nat) (y : AV), vs[i]? = some (d, y) -> d ≠ s
    · rw [hpa.rest s hs, hat.rest s hs]; rfl
    · have : ∃ (i : Nat) (y : AV), vs[i]? = some (s, y) := by
        apply Classical.byContradiction
        intro hcon
        exact hs fun i d y hi hds => hcon ⟨i, y, by rw [<- hds]; exact hi⟩
      obtain ⟨i, y, hi⟩ := this
      have hil : i < m := by rw [<- hvl]; exact (List.getElem?_eq_some_iff.1 hi).1
      have hix : i ≠ x := fun h' => by subst h'; rw [hx] at hi; cases hi; exact hds rfl
      rw [hpa.dst i s y hi, hat.dst i s y hi]
      simp [hil, hall i hil hix]
  intro fuel
  induction fuel with
  | zero =>
    intro listed U τ G a w hl hU hm hc hat h _ _
    have hUn : U = [] := List.eq_nil_of_length_eq_zero hU
    subst hUn
    have hall : ∀ i, i < ops.size -> listed.getD i false = true := fun i hi => by
      cases hb : listed.getD i false
      · have := (hl.mem i).2 ⟨hi, hb⟩; simp at this
      · rfl
    have hms : m = ops.size := by
      apply Classical.byContradiction
      intro hne
      have := hp.le
      have h1 := hall m (by omega)
      rw [hm m (Nat.le_refl m)] at h1; cases h1
    exact (tree_run (P := P) h0 hp.lt hN hQ tr true (List.range m) listed [] _ G a w hp.tr hl hc (fun i hi => by rw [hall i hi]; simp; omega) hK (done hat (fun i hi => hall i (by have := hp.le; omega)) h)).1 rfl
  | succ fuel ih =>
    intro listed U τ G a w hl hU hm hc hat h hfree hph
    have hUn : U ≠ [] := by intro h; rw [h] at hU; simp at hU
    by_cases hdone : ∀ i, i < m -> listed.getD i false = true
    · have := (tree_run (P := P) h0 hp.lt hN hQ tr true (List.range m) listed U _ G a w hp.tr hl hc (fun i hi => by
        simp only [List.contains_iff_mem, List.mem_range]
        refine ⟨fun hb => ?_, fun hlt => hdone i hlt⟩
        apply Classical.byContradiction
        intro hge
        rw [hm i (by omega)] at hb; cases hb) hK (done hat hdone h)).1 rfl
      rw [hU] at this; exact this
    by_cases hsg : ∃ x t, sg = some (x, t) /\ ∀ i, i < m -> i ≠ x -> listed.getD i false = true
    · obtain ⟨x, t, rfl, hall⟩ := hsg
      obtain ⟨hxm, hxE, hxL, _, ht⟩ := hp.sg x t rfl
      obtain ⟨o, ho⟩ : ∃ p, ops[x]? = some p := ⟨ops[x]'(by have := hp.le; omega), by have := hp.le; simp [show x < ops.size by omega]⟩
      obtain ⟨dx, yx, hv, hd, _, _⟩ := hst x o hxm ho
      have hxf : listed.getD x false = false := by
        cases hb : listed.getD x false
        · rfl
        · exact absurd (fun i hi => by by_cases hix : i = x; · rw [hix]; exact hb
                                       · exact hall i hi hix) hdone
      simp only [sgA, ho] at hK2
      obtain ⟨d', hd', hK2⟩ := hK2
      rw [hd] at hd'; cases hd'
      have := (tree_run (P := P) h0 hp.lt hN hQ t true _ listed U _ G a w ht hl hc (fun i hi => by
        simp only [List.contains_iff_mem, List.mem_filter, List.mem_range, Bool.not_eq_true', beq_eq_false_iff_ne, ne_eq]
        refine ⟨fun hb => ⟨?_, fun hix => by rw [hix, hxf] at hb; cases hb⟩, fun ⟨h1, h2⟩ => hall i h1 h2⟩
        apply Classical.byContradiction
        intro hge
        rw [hm i (by omega)] at hb; cases hb) hK2 (done2 hat hxE hv hall h)).1 rfl
      rw [hU] at this; exact this
    · suffices key : ∀ i, i ∈ Region.ready .any ops listed -> i < m -> (i ∈ LF -> wpAny P .any ops Q (fuel + 1) listed a w) /\ (i ∉ LF -> Go.wpOp P ops Q i (wpAny P .any ops Q fuel (listed.setIfInBounds i true)) a w) by
        by_cases hLF : ∃ j, j ∈ LF /\ j ∈ Region.ready .any ops listed
        · obtain ⟨j, h1, h2⟩ := hLF
          exact (key j h2 (hp.fr j h1).1).1 h1
        · refine ⟨fun hr => absurd hr (some_ready hl hp.lt hUn), fun i hi => (key i hi ?_).2 fun hiL => hLF ⟨i, hiL, hi⟩⟩
          obtain ⟨o, ho, h1, h2⟩ := (ready_iff hl.size).1 hi
          apply Classical.byContradiction
          intro hge
          have hall : ∀ j, j < m -> sgIs sg j = false -> listed.getD j false = true := fun j => by
            refine Nat.strongRecOn (motive := fun j => j < m -> sgIs sg j = false -> listed.getD j false = true) j ?_
            intro j ihj hjm hjs
            by_cases hjL : j ∈ LF
            · obtain ⟨p, hpj⟩ : ∃ p, ops[j]? = some p := ⟨ops[j]'(by have := hp.le; omega), by have := hp.le; simp [show j < ops.size by omega]⟩
              cases hb : listed.getD j false
              · exact absurd ⟨j, hjL, (ready_iff hl.size).2 ⟨p, hpj, hb, fun k hk => by
                  have := hp.lt j p hpj k hk
                  refine ihj k this (by omega) ?_
                  cases hsg' : sg with
                  | none => rfl
                  | some q =>
                    obtain ⟨x, t⟩ := q
                    have := (hp.sg x t hsg').2.2.2.1 j hjL p hpj
                    simp only [sgIs, beq_eq_false_iff_ne, ne_eq]
                    exact fun hkx => this (hkx ▸ hk)⟩⟩ hLF
              · rfl
            · exact reach_listed hc ops.size i j o ho h2 (hp.tail i o ho (by omega) j hjm hjL hjs)
          cases hsg' : sg with
          | none => exact hdone fun j hj => hall j hj (by rw [hsg']; rfl)
          | some q =>
            obtain ⟨x, t⟩ := q
            exact hsg ⟨x, t, hsg', fun j hj hjx => hall j hj (by rw [hsg']; simpa [sgIs] using hjx)⟩
      intro i hi him
      obtain ⟨o, ho, h1, h2⟩ := (ready_iff hl.size).1 hi
      have hlt := (Array.getElem?_eq_some_iff.1 ho).1
      obtain ⟨d, y, hv, hd, hdn, hstep⟩ := hst i o him ho
      obtain ⟨d', hd', hself, hpair⟩ := hp.head i o ho him
      rw [hd] at hd'; cases hd'
      have hmem : i ∈ U := (hl.mem i).2 ⟨hlt, h1⟩
      obtain ⟨l1, l2⟩ := hl.step hmem
      have hsz : i < listed.size := by rw [hl.size]; exact hlt
      have hsame : ∀ s ∈ slotsG ops o, (puts σ (vs.take i)).get s = τ.get s := by
        intro s hsm
        have hpa := puts_at i vs σ hap
        by_cases hs : ∀ (i d : Nat) (y : AV), vs[i]? = some (d, y) -> d ≠ s
        · rw [hpa.rest s hs, hat.rest s hs]
        · have : ∃ (j : Nat) (y : AV), vs[j]? = some (s, y) := by
            apply Classical.byContradiction
            intro hcon
            exact hs fun i d y hi hds => hcon ⟨i, y, by rw [<- hds]; exact hi⟩
          obtain ⟨j, y', hj⟩ := this
          have hjl : j < m := by rw [<- hvl]; exact (List.getElem?_eq_some_iff.1 hj).1
          obtain ⟨p, hpj⟩ : ∃ p, ops[j]? = some p := ⟨ops[j]'(by have := hp.le; omega), by have := hp.le; simp [show j < ops.size by omega]⟩
          obtain ⟨d'', y'', hv'', hds'', _⟩ := hst j p hjl hpj
          rw [hj] at hv''; cases hv''
          have hji : j ≠ i := fun hji => by subst hji; rw [hv] at hj; cases hj; exact hself hsm
          have hre := (hpair j p s hjl hji hpj hds'').2 hsm
          rw [hpa.dst j s y' hj, hat.dst j s y' hj]
          by_cases hjlt : j < i
          · rw [if_pos hjlt] at hre
            have := reach_listed hc ops.size i j o ho h2 hre
            simp [hjlt, this]
          · rw [if_neg hjlt] at hre
            have hjf : listed.getD j false = false := by
              cases hb : listed.getD j false
              · rfl
              · have := reach_listed hc ops.size j i p hpj (fun k hk => hc j p hpj hb k hk) hre
                rw [h1] at this; cases this
            simp [hjlt, hjf]
      have hevs : ∀ x ∈ o.op.operands, (puts σ (vs.take i)).ev x = τ.ev x := by
        intro x hx
        cases x with
        | tmp s =>
          simp only [St.ev]
          refine hsame s (List.mem_append.2 (.inr ?_))
          unfold slotsOf
          exact List.mem_filterMap.2 ⟨.tmp s, by simpa using hx, rfl⟩
        | const v => rfl
        | func f => rfl
        | global g => rfl
      -- the frame behind the step
      have hLi : (listed.setIfInBounds i true).getD i false = true := by rw [set_getD hsz]; simp
      have hLj : ∀ j, j ≠ i -> (listed.setIfInBounds i true).getD j false = listed.getD j false := fun j hj => by rw [set_getD hsz, if_neg (Ne.symm hj)]
      have hpos := posE_step (L := fun k => listed.getD k false) (L' := fun k => (listed.setIfInBounds i true).getD k false) hE.nodup hLj h1 hLi
      have hgo : ∀ {τ' G' a' w'}, τ'.n = τ.n -> τ'.tmps = putT τ.tmps d y -> τ'.boxes = σ.boxes.set i0 (C (posE E fun k => (listed.setIfInBounds i true).getD k false)) -> SRel G0 w0 τ' G' a' w' -> wpAny P .any ops Q fuel (listed.setIfInBounds i true) a' w' := by
        intro τ' G' a' w' e1 e2 e3 hs'
        have hget : ∀ s, τ'.get s = if d = s then y else τ.get s := fun s => by unfold St.get; rw [e2, lookT_put]
        refine ih _ _ τ' G' _ _ l1 (by omega) (fun j hj => ?_) (hc.step hsz ho h2) ⟨by rw [e1, hat.n], e3, fun j d' y' hj => ?_, fun s hs => ?_⟩ hs' (fun j oj dj hoj hjm hdj hcr hjf => ?_) (fun j N hjm hjA hjE hjL hjf => ?_)
        · rw [set_getD hsz, if_neg (by omega)]; exact hm j hj
        · rw [hget]
          by_cases hij : j = i
          · subst hij; rw [hv] at hj; cases hj; simp [hLi]
          · rw [if_neg (hap i j d y d' y' hv hj (Ne.symm hij)), hat.dst j d' y' hj, hLj j hij]
        · rw [hget, if_neg (hs i d y hv), hat.rest s hs]
        · by_cases hij : j = i
          · subst hij; rw [hLi] at hjf; cases hjf
          · rw [hLj j hij] at hjf
            have hf := hfree j oj dj hoj hjm hdj hcr hjf
            obtain ⟨f1, f2⟩ := hfr j oj dj hoj hjm hdj hcr
            have f1 : y.allLeaf (freeLeaf dj) = true := (f1 i d y (Ne.symm hij) hv).elim id fun f1 => by
              have := reach_listed hc i i j o ho h2 f1
              rw [hjf] at this; cases this
            simp only [St.free, Bool.and_eq_true, decide_eq_true_eq] at hf ⊢
            refine ⟨hf.1, by rw [e2]; exact freeT_put f1 hf.2.1, ?_⟩
            rw [e3]
            have hfb := hf.2.2
            rw [hat.boxes] at hfb
            have hset : ∀ (bx : List (List AV)) (k : Nat) (c c' : List AV), freeB dj (bx.set k c) = true -> allLeafs (freeLeaf dj) c' = true -> freeB dj (bx.set k c') = true := by
              intro bx
              induction bx with
              | nil => intro k c c' _ _; rfl
              | cons b bx ihb =>
                intro k c c' h1 h2
                cases k with
                | zero => simp only [List.set_cons_zero, freeB, Bool.and_eq_true] at h1 ⊢; exact ⟨h2, h1.2⟩
                | succ k => simp only [List.set_cons_succ, freeB, Bool.and_eq_true] at h1 ⊢; exact ⟨h1.1, ihb k c c' h1.2 h2⟩
            exact hset _ _ _ _ hfb (f2 _)
        · by_cases hij : j = i
          · subst hij; rw [hLi] at hjf; cases hjf
          · rw [hLj j hij] at hjf
            obtain ⟨q1, q2⟩ := hph j N hjm hjA hjE hjL hjf
            obtain ⟨_, _, _, f1, f2⟩ := hA j N hjm hjA
            refine ⟨by rw [e2]; exact noPbT_put (f1 i d y (Ne.symm hij) hv) q1, ?_⟩
            rw [e3]
            rw [hat.boxes] at q2
            have := noPbB_set _ i0 _ q2 (f2 (posE E fun k => (listed.setIfInBounds i true).getD k false))
            rw [List.set_set] at this
            exact this
      refine ⟨fun hiL => ?_, fun hnL => ?_⟩
      · obtain ⟨_, hiE, hfr'⟩ := hp.fr i hiL
        obtain ⟨d', hfront⟩ := hfr' o ho
        obtain rfl : d = d' := by have := hfront.dst; rw [hd] at this; simpa using this
        rw [if_neg hiE, if_pos hiL] at hstep
        rw [if_neg hiE, Nat.add_zero] at hpos
        obtain ⟨v, hv', hex⟩ := hstep G a w h.good (fun x hx => by rw [hevs x hx]; exact h.ev x)
        have hs' := h.add (.refl G w) h.good (fun _ _ h => h) (d := some d) (x := y) (v := v) (by simp [dstOk, hat.n, hdn]) hv'
        exact front_run hN hfront fuel listed a w v hl.size hc hi hex (hgo (τ' := τ.put (some d) y) rfl rfl (by rw [put_boxes, hat.boxes, hpos]) hs')
      by_cases hiE : i ∈ E
      case neg =>
        rw [if_neg hiE, if_neg hnL] at hstep
        rw [if_neg hiE, Nat.add_zero] at hpos
        cases hlA : lookA A i with
        | some N =>
          rw [hlA] at hstep
          obtain ⟨hgd, rfl, T, q, z, hop, hq, hz, hzo, hbN⟩ := hstep
          obtain ⟨a1, a2, a3, _, _⟩ := hA i N him hlA
          obtain ⟨p1, p2⟩ := hph i N him hlA hiE hnL h1
          have hbN' : τ.boxes[N]? = some (List.replicate q.1 .any) := by rw [hat.boxes, List.getElem?_set_ne (Ne.symm a1)]; exact hbN
          obtain ⟨hu, hun⟩ := h.unbox a2 a3 p1 p2 hbN'
          simp only [zeroOk, Bool.and_eq_true, decide_eq_true_eq] at hzo
          obtain ⟨_, hone⟩ := ofConst_cells (S := fun _ => False) (w := w) z hzo.2
          have hr := hu.realize (d := d) (z := z) (T := T) a2 hun (by rw [hzo.1]; exact hbN') hone (by rw [hat.n]; exact hdn)
          obtain ⟨sz, by_, zz⟩ := q
          simp only at hz
          subst hz
          obtain ⟨ti, hti, _, _, hzz⟩ := tinfo_some hq
          have hrun : (execOp a.eval o).run P w = .ok (.value (.pointer (some ⟨w.heap.size, 0, none⟩))) (w.alloc (.cells z.cells T)) := by
            simp [execOp, hop, Instr.alloc, newVar, newRow, zeroValue, typeInfo, hti, hzz]
          simp only [Go.wpOp, ho]
          rw [if_pos (by simp [Region.wanted, hgd])]
          refine .inl ?_
          simp only [Oper.wp, hrun, Oper.upon, hd]
          exact hgo (τ' := τ.put (some d) (.pb N 0)) rfl rfl (by rw [put_boxes, hat.boxes, hpos]) hr
        | none =>
        rw [hlA] at hstep
        have hops : ∀ x ∈ o.op.operands, ∀ {G}, SRel G0 w0 τ G a w -> VRel G w ((puts σ (vs.take i)).ev x) (a.eval x) := fun x hx G h => by rw [hevs x hx]; exact h.ev x
        have hgo2 : ∀ {G' a' w'}, SRel G0 w0 (τ.put (some d) y) G' a' w' -> wpAny P .any ops Q fuel (listed.setIfInBounds i true) a' w' := fun hs' =>
          hgo (τ' := τ.put (some d) y) rfl rfl (by rw [put_boxes, hat.boxes, hpos]) hs'
        have hrun : StepOk P o d (puts σ (vs.take i)).ev (σ.boxes.set i0 (blankC E (C 0))) y -> o.wp P a w (wpAny P .any ops Q fuel (listed.setIfInBounds i true)) Q := by
          intro hstep
          have key : ∀ {G}, SRel G0 w0 τ G a w -> (creates o.op = true -> Fresh d G) -> o.wp P a w (wpAny P .any ops Q fuel (listed.setIfInBounds i true)) Q := fun {G} h hfr' =>
            hstep _ G a w h.good ((show BRel _ G w (σ.boxes.set i0 (C (posE E fun k => listed.getD k false))) from by rw [<- hat.boxes]; exact h.boxes).blank (hC _) fun hE0 => by rw [hE0]; rfl) hfr' (fun x hx => hops x hx h) _ _ fun v w' G' g1 g2 g3 g4 =>
              hgo2 (by rw [hd]; exact h.add g2 g3 g4.boxes (by simp [dstOk, hat.n, hdn]) g1)
          by_cases hcr : creates o.op = true
          · obtain ⟨hs, hf⟩ := h.fresh (hfree i o d ho him hd hcr h1) h0
            exact key hs fun _ => hf
          · exact key h fun hc' => absurd hc' hcr
        simp only [Go.wpOp, ho]
        rcases hstep with ⟨hg, hstep⟩ | ⟨j, want, g, c, hg, hgs, hgv, hc2⟩ | ⟨j, want, g, vs', hg, hgs, hgv, rfl⟩
        · rw [if_pos (by simp [Region.wanted, hg])]
          exact .inl (hrun hstep)
        · have hgm : g ∈ slotsG ops o := by simp [slotsG, guardS, hg, hgs]
          have hv2 := h.slots g
          rw [<- hsame g hgm, hgv] at hv2
          have hy := yielded_bool hgs hv2.sc_inv
          rcases hc2 with ⟨rfl, hstep⟩ | ⟨hne, rfl⟩
          · rw [if_pos (by simp [Region.wanted, hg, hy])]
            exact .inl (hrun hstep)
          · rw [if_neg (by simp [Region.wanted, hg, hy, hne])]
            have hs' := h.add (.refl G w) h.good (fun _ _ h => h) (d := o.dst) (x := .sc undef) (v := undef) (by rw [hd]; simp [dstOk, hat.n, hdn]) (.froz (.sc _))
            exact hgo2 (G' := G) (by rw [hd] at hs' ⊢; exact hs')
        · have hgm : g ∈ slotsG ops o := by simp [slotsG, guardS, hg, hgs]
          have hv2 := h.slots g
          rw [<- hsame g hgm, hgv] at hv2
          have hy := yielded_none hgs hv2.sc_inv
          rw [if_neg (by simp [Region.wanted, hg, hy])]
          have hs' := h.add (.refl G w) h.good (fun _ _ h => h) (d := o.dst) (x := .sc undef) (v := undef) (by rw [hd]; simp [dstOk, hat.n, hdn]) (.froz (.sc _))
          exact hgo2 (G' := G) (by rw [hd] at hs' ⊢; exact hs')
      case pos =>
        rw [if_pos hiE] at hstep
        rw [if_pos hiE] at hpos
        obtain ⟨hg, fid, args, As, r, c1, hop, hpb, hnt, hnt0, hcon, hr1, hr2, hye, hce⟩ := hstep
        -- all effects ahead of it are listed, none behind it is
        have hposi : posE E (fun k => listed.getD k false) = (E.filter fun e => decide (e < i)).length := by
          unfold posE
          congr 1
          refine List.filter_congr fun e he => ?_
          rcases Nat.lt_trichotomy e i with hlt' | heq | hgt
          · have := reach_listed hc ops.size i e o ho h2 (hE.chain e he i hiE hlt')
            simp [hlt', this]
          · subst heq; simp [h1]
          · have hnl : listed.getD e false = false := by
              cases hb : listed.getD e false
              · rfl
              · have hel := hE.lt e he
                obtain ⟨p, hpe⟩ : ∃ p, ops[e]? = some p := ⟨ops[e]'(by have := hp.le; omega), by have := hp.le; simp [show e < ops.size by omega]⟩
                have := reach_listed hc ops.size e i p hpe (fun k hk => hc e p hpe hb k hk) (hE.chain i hiE e he hgt)
                rw [h1] at this; cases this
            simp [hnl]; omega
        have hargs : args.toList.map (puts σ (vs.take i)).ev = args.toList.map τ.ev := by
          refine List.map_congr_left fun x hx => hevs x ?_
          simp [hop, Op.operands, Call.operands]
          exact .inr (by simpa using hx)
        rw [hargs] at hpb hnt hcon
        have hcr : creates o.op = true := by simp [creates, hop]
        have hfd := hfree i o d ho him hd hcr h1
        -- the variable is there
        have hva : ∀ G, SRel G0 w0 τ G a w -> PW (VRel G w) (args.toList.map τ.ev) (args.map a.eval).toList := fun G hs => by
          rw [Array.toList_map]
          refine ⟨by simp, fun j x u hx hu => ?_⟩
          simp only [List.getElem?_map] at hx hu
          cases hj : args.toList[j]? with
          | none => simp [hj] at hx
          | some c => simp [hj] at hx hu; subst hx; subst hu; exact hs.ev c
        have hi0 : i0 < σ.boxes.length := by
          obtain ⟨b, hb⟩ := pbss_real (i := i0) _ _ (hva G h) (dedup_mem _ (by rw [hpb]; simp))
          have := h.blt b i0 hb
          rw [hat.boxes] at this; simpa using this
        have hbx : getAll τ.boxes [i0] = some [C (posE E fun k => listed.getD k false)] := by
          simp only [getAll, hat.boxes, List.getElem?_set, if_true, hi0]
        have hlen : τ.boxes.length = σ.boxes.length := by rw [hat.boxes]; simp
        rw [<- hposi] at hcon hnt0 hce
        have hcall : CallB P fid (args.toList.map τ.ev) [i0] d τ fun σ' => σ'.n = τ.n /\ σ'.tmps = putT τ.tmps d y /\ σ'.boxes = σ.boxes.set i0 (C (posE E (fun k => listed.getD k false) + 1)) := by
          refine ⟨hfd, by rw [hat.n]; exact hdn, hnt, rfl, _, hbx, hnt0, hcon.mono ?_⟩
          rintro r' bx ⟨rfl, rfl⟩
          refine ⟨hr1, hr2, rfl, by rw [hlen, <- hye]; rfl, ?_⟩
          rw [put_boxes]
          have hce' : mapB (outLeaf (64 * (d + 1)) [i0] σ.boxes.length) [c1] = [C (posE E (fun k => listed.getD k false) + 1)] := hce.symm
          simp only [List.length_singleton, List.take_succ_cons, List.take_zero, List.drop_succ_cons, List.drop_nil, hlen, hce', mapB, setAll, List.append_nil]
          rw [hat.boxes, List.set_set]
        obtain ⟨⟨fn, hfn, hname, hbody⟩, hcalls⟩ := CallB.sound hcall h h0 hva (fun G hs j hj => by
          simp at hj; subst hj
          exact pbss_real _ _ (hva G hs) (dedup_mem _ (by rw [hpb]; simp)))
        have hrun : (execOp a.eval o).run P w = .ok (.enter fid (args.map a.eval)) w := by
          have hname' : ¬ fn.name = "runtime.NumGoroutine" := by simpa using hname
          have hbody' : ¬ fn.body = none := by intro h; rw [h] at hbody; simp at hbody
          have hfe : a.eval (.func fid) = .func (.func fid) #[] #[] := rfl
          simp [execOp, hop, resolve, hfe, Deferred.ofValue, invoke, callFunc, hfn, hname', hbody']
        simp only [Go.wpOp, ho]
        rw [if_pos (by simp [Region.wanted, hg])]
        refine .inl ?_
        unfold Oper.wp
        rw [hrun, Oper.upon_enter]
        refine hcalls.mono ?_
        rintro e w' ⟨v, σ', G', rfl, ⟨e1, e2, e3⟩, hs'⟩
        exact hgo e1 e2 (by rw [e3, hpos]) (by rw [hd]; exact hs')
end
def noVar : AV -> Bool
 | .pb _ _ => false
 | .cl _ _ => false
 | _ => true
theorem noVar_noPb {N : Nat} : ∀ x : AV, noVar x = true -> noPb N x = true := fun x h => by cases x <;> simp_all [noVar, noPb]
def AllocK (P : Program) (o : Oper) (N : Nat) (σ : St) (K : St -> Prop) : Prop :=
 ∃ d, o.dst = some d /\ d < σ.n /\ AllocP P σ.boxes o N (.pb N 0) /\ K (σ.put (some d) (.pb N 0))
def headF (P : Program) (ops : Array Oper) (n0 i0 : Nat) (E LF : List Nat) (A : List (Nat × Nat)) : Nat -> List Oper -> St -> List AV -> (St -> List AV -> Prop) -> Prop
 | _, [], σ, c, K => K σ c
 | k, o :: r, σ, c, K => if E.contains k = true then EffK P n0 i0 o σ c fun σ' c' => allLeafs noVar c' = true /\ headF P ops n0 i0 E LF A (k + 1) r σ' c' K else if LF.contains k = true then frB P o σ fun σ' => headF P ops n0 i0 E LF A (k + 1) r σ' c K else match lookA A k with
  | some N => AllocK P o N σ fun σ' => headF P ops n0 i0 E LF A (k + 1) r σ' c K
  | none => headG P ops o σ fun σ' => headF P ops n0 i0 E LF A (k + 1) r σ' c K
section
variable {P : Program} {ops : Array Oper} {n0 i0 : Nat} {E LF : List Nat} {A : List (Nat × Nat)}
theorem headF_vals (hn : E.Nodup) : ∀ (l : List Oper) (k : Nat) (σ : St) (c : List AV) (K : St -> List AV -> Prop), headF P ops n0 i0 E LF A k l σ c K -> allLeafs noTag c = true -> allLeafs noVar c = true -> ∃ (vs : List (Nat × AV)) (C : Nat -> List AV), vs.length = l.length /\ (∀ j, j <= cntE E k -> C j = c) /\ (∀ j, (C j).length = c.length /\ allLeafs noTag (C j) = true /\ allLeafs noVar (C j) = true) /\ K (puts σ vs) (C (cntE E (k + l.length))) /\
  ∀ i o, l[i]? = some o -> ∃ d y, vs[i]? = some (d, y) /\ o.dst = some d /\ d < σ.n /\
   if k + i ∈ E then EffC P ⟨0, [], List.replicate n0 []⟩ i0 o d (puts σ (vs.take i)).ev (C (cntE E (k + i))) y (C (cntE E (k + i) + 1)) else if k + i ∈ LF then FrontC P o (puts σ (vs.take i)).ev y else match lookA A (k + i) with | some N => AllocP P σ.boxes o N y | none => StepG P ops o d (puts σ (vs.take i)) σ.boxes y
 | [], k, σ, c, K, h, hc, hn0 => ⟨[], fun _ => c, rfl, fun _ _ => rfl, fun _ => ⟨rfl, hc, hn0⟩, h, fun i o hi => by simp at hi⟩
 | o :: l, k, σ, c, K, h, hc, hn0 => by
  unfold headF at h
  have hcs := cntE_succ hn k
  by_cases hk : k ∈ E
  ·rw [if_pos (by simpa using hk)] at h
   rw [if_pos hk] at hcs
   obtain ⟨d, y, c', h1, h2, h3, h4, h5, h7, h6⟩ := h
   obtain ⟨vs, C, g1, g2, g3, g4, g5⟩ := headF_vals hn l (k + 1) _ c' K h6 h5 h7
   refine ⟨(d, y) :: vs, fun j => if j <= cntE E k then c else C j, by simp [g1], fun j hj => if_pos hj, fun j => ?_, ?_, fun i o' hi => ?_⟩
   ·simp only
    split
    ·exact ⟨rfl, hc, hn0⟩
    ·exact ⟨(g3 j).1.trans h4, (g3 j).2⟩
   ·simp only [puts, List.length_cons]
    rw [show k + (l.length + 1) = k + 1 + l.length by omega]
    have : ¬ cntE E (k + 1 + l.length) <= cntE E k := by
     have : ∀ t, cntE E (k + 1) <= cntE E (k + 1 + t) := fun t => by
      induction t with
      | zero => exact Nat.le_refl _
      | succ t ih => have := cntE_succ hn (k + 1 + t); rw [show k + 1 + (t + 1) = k + 1 + t + 1 by omega]; omega
     have := this l.length; omega
    rw [if_neg this]; exact g4
   ·cases i with
    | zero =>
     simp at hi; subst hi
     refine ⟨d, y, rfl, h1, h2, ?_⟩
     rw [Nat.add_zero, if_pos hk]
     dsimp only
     rw [if_pos (Nat.le_refl _), if_neg (by omega), <- hcs, g2 _ (Nat.le_refl _)]
     exact h3
    | succ i =>
     obtain ⟨d', y', k1, k2, k3, k4⟩ := g5 i o' (by simpa using hi)
     rw [put_n] at k3
     refine ⟨d', y', by simpa using k1, k2, k3, ?_⟩
     rw [show k + (i + 1) = k + 1 + i by omega]
     have hge : ∀ t, cntE E (k + 1) <= cntE E (k + 1 + t) := fun t => by
      induction t with
      | zero => exact Nat.le_refl _
      | succ t ih => have := cntE_succ hn (k + 1 + t); rw [show k + 1 + (t + 1) = k + 1 + t + 1 by omega]; omega
     have := hge i
     dsimp only
     rw [if_neg (show ¬ cntE E (k + 1 + i) <= cntE E k by omega), if_neg (show ¬ cntE E (k + 1 + i) + 1 <= cntE E k by omega)]
     rw [put_boxes] at k4
     exact k4
  ·rw [if_neg (by simpa using hk)] at h
   rw [if_neg hk, Nat.add_zero] at hcs
   obtain ⟨d, y, h1, h2, h3, h4⟩ : ∃ d y, o.dst = some d /\ d < σ.n /\ headF P ops n0 i0 E LF A (k + 1) l (σ.put (some d) y) c K /\ if k ∈ LF then FrontC P o σ.ev y else match lookA A k with | some N => AllocP P σ.boxes o N y | none => StepG P ops o d σ σ.boxes y := by
    by_cases hkL : k ∈ LF
    ·rw [if_pos (by simpa using hkL)] at h
     obtain ⟨d, y, h1, h2, h3, h4⟩ := frB_sound h
     exact ⟨d, y, h1, h2, h3, by rw [if_pos hkL]; exact h4⟩
    ·rw [if_neg (by simpa using hkL)] at h
     cases hlA : lookA A k with
     | some N =>
      rw [hlA] at h
      obtain ⟨d, h1, h2, h4, h3⟩ := h
      exact ⟨d, _, h1, h2, h3, by rw [if_neg hkL]; exact h4⟩
     | none =>
      rw [hlA] at h
      obtain ⟨d, y, h1, h2, h3, h4⟩ := headG_sound h
      exact ⟨d, y, h1, h2, h3, by rw [if_neg hkL]; exact h4⟩
   obtain ⟨vs, C, g1, g2, g3, g4, g5⟩ := headF_vals hn l (k + 1) _ c K h3 hc hn0
   refine ⟨(d, y) :: vs, C, by simp [g1], fun j hj => g2 j (by omega), g3, ?_, fun i o' hi => ?_⟩
   ·simp only [puts, List.length_cons]
    rw [show k + (l.length + 1) = k + 1 + l.length by omega]; exact g4
   ·cases i with
    | zero =>
     simp at hi; subst hi
     refine ⟨d, y, rfl, h1, h2, ?_⟩
     rw [Nat.add_zero, if_neg hk]; exact h4
    | succ i =>
     obtain ⟨d', y', k1, k2, k3, k4⟩ := g5 i o' (by simpa using hi)
     rw [put_n] at k3
     rw [put_boxes] at k4
     refine ⟨d', y', by simpa using k1, k2, k3, ?_⟩
     rw [show k + (i + 1) = k + 1 + i by omega]; exact k4
def pbBut (N d : Nat) : List (Nat × AV) -> Bool
 | [] => true
 | (s, v) :: r => (s == d || v.allLeaf (noPb N)) && pbBut N d r
theorem pbBut_look {N d : Nat} : ∀ {l : List (Nat × AV)}, pbBut N d l = true -> ∀ s, s ≠ d -> (lookT l s).allLeaf (noPb N) = true
 | [], _, _, _ => rfl
 | (s', v) :: r, h, s, hs => by
  simp only [pbBut, Bool.and_eq_true, Bool.or_eq_true, beq_iff_eq] at h
  unfold lookT
  split
  ·rename_i he
   rcases h.1 with h1 | h1
   ·exact absurd (he.symm.trans h1) (by intro e; exact hs e)
   ·exact h1
  ·exact pbBut_look h.2 s hs
def keptOk (ops : Array Oper) (l : List (Nat × AV)) : List (Nat × Nat) -> Bool
 | [] => true
 | (i, N) :: r => (match (ops[i]?).bind (·.dst) with
  | some d => pbBut N d l
  | none => false) && keptOk ops l r
def keptFree (σ : St) : List (Nat × Nat) -> Bool
 | [] => true
 | (_, N) :: r => (decide (σ.boxes.length <= N) && (noPbT N σ.tmps && noPbB N σ.boxes)) && keptFree σ r
theorem keptOk_mem {l : List (Nat × AV)} : ∀ {A : List (Nat × Nat)}, keptOk ops l A = true -> ∀ i N, lookA A i = some N -> ∃ d, (ops[i]?).bind (·.dst) = some d /\ pbBut N d l = true
 | [], _, i, N, h => by simp [lookA] at h
 | (k, M) :: r, h, i, N, hi => by
  simp only [keptOk, Bool.and_eq_true] at h
  simp only [lookA] at hi
  split at hi
  ·rename_i e; subst e; cases hi
   have h1 := h.1
   split at h1
   ·rename_i d hd; exact ⟨d, hd, h1⟩
   ·cases h1
  ·exact keptOk_mem h.2 i N hi
theorem keptFree_mem {σ : St} : ∀ {A : List (Nat × Nat)}, keptFree σ A = true -> ∀ i N, lookA A i = some N -> σ.boxes.length <= N /\ noPbT N σ.tmps = true /\ noPbB N σ.boxes = true
 | [], _, i, N, h => by simp [lookA] at h
 | (k, M) :: r, h, i, N, hi => by
  simp only [keptFree, Bool.and_eq_true, decide_eq_true_eq] at h
  simp only [lookA] at hi
  split at hi
  ·cases hi; exact h.1
  ·exact keptFree_mem h.2 i N hi
def anyB (ph : List Nat) : List (List AV) := ph.map fun k => List.replicate k .any
theorem noPbB_any {N : Nat} : ∀ ph : List Nat, noPbB N (anyB ph) = true
 | [] => rfl
 | k :: r => by
  show (allLeafs (noPb N) (List.replicate k .any) && noPbB N (anyB r)) = true
  rw [noPbB_any r, Bool.and_true]
  induction k with
  | zero => rfl
  | succ k ih => rw [List.replicate_succ]; simp only [allLeafs, ih, Bool.and_true]; rfl
theorem noPbB_app {N : Nat} : ∀ (x y : List (List AV)), noPbB N (x ++ y) = (noPbB N x && noPbB N y)
 | [], y => by simp [noPbB]
 | c :: x, y => by rw [List.cons_append, noPbB, noPbB, noPbB_app x y, Bool.and_assoc]
theorem SRel.kept {G0 w0 σ G a w} (h : SRel G0 w0 σ G a w) (ph : List Nat) : SRel G0 w0 { σ with boxes := σ.boxes ++ anyB ph } G a w :=
 { h with
  boxes := ⟨fun i vs hv => by have := h.boxes.low i vs hv; simp only [List.length_append]; omega, fun i cs hi => by
   simp only at hi
   by_cases hlt : i < σ.boxes.length
   ·rw [List.getElem?_append_left hlt] at hi; exact h.boxes.cell i cs hi
   ·rw [List.getElem?_append_right (by omega)] at hi
    refine .inr (.inr ⟨by cases hgh : G0.gh i with | none => rfl | some vs => have := h.boxes.low _ vs hgh; omega, fun b hb => by have := h.blt b i hb; omega, fun x hx v => ?_⟩)
    unfold anyB at hi
    rw [List.getElem?_map] at hi
    cases hp : ph[i - σ.boxes.length]? with
    | none => simp [hp] at hi
    | some k => simp [hp] at hi; subst hi; rw [(List.mem_replicate.1 hx).2]; exact .froz (.any _)⟩
  blt := fun b i hb => by have := h.blt b i hb; simp only [List.length_append]; omega }
theorem freeB_kept {d : Nat} : ∀ ph : List Nat, freeB d (anyB ph) = true
 | [] => rfl
 | k :: r => by
  show (allLeafs (freeLeaf d) (List.replicate k .any) && freeB d (anyB r)) = true
  rw [freeB_kept r, Bool.and_true]
  induction k with
  | zero => rfl
  | succ k ih => rw [List.replicate_succ]; simp only [allLeafs, ih, Bool.and_true]; rfl
theorem freeB_two {d : Nat} : ∀ (x y : List (List AV)), freeB d (x ++ y) = (freeB d x && freeB d y)
 | [], y => by simp [freeB]
 | c :: x, y => by rw [List.cons_append, freeB, freeB, freeB_two x y, Bool.and_assoc]
theorem freeAll_kept {σ : St} (ph : List Nat) : ∀ {ds : List Nat}, freeAll σ ds = true -> freeAll { σ with boxes := σ.boxes ++ anyB ph } ds = true
 | [], _ => rfl
 | d :: r, h => by
  simp only [freeAll, Bool.and_eq_true] at h ⊢
  refine ⟨?_, freeAll_kept ph h.2⟩
  have h1 := h.1
  simp only [St.free, Bool.and_eq_true] at h1 ⊢
  exact ⟨h1.1, h1.2.1, by rw [freeB_two, h1.2.2, freeB_kept]; rfl⟩
def hasD (d s : Nat) : List (Nat × Nat) -> Bool
 | [] => false
 | (a, b) :: r => (a == d && b == s) || hasD d s r
def freeButD (D : List (Nat × Nat)) (d : Nat) : List (Nat × AV) -> Bool
 | [] => true
 | (s, v) :: r => (s == d || (hasD d s D || v.allLeaf (freeLeaf d))) && freeButD D d r
def freeOthersD (D : List (Nat × Nat)) (l : List (Nat × AV)) : List Nat -> Bool
 | [] => true
 | d :: r => freeButD D d l && freeOthersD D l r
theorem freeButD_look {D : List (Nat × Nat)} {d : Nat} : ∀ {l : List (Nat × AV)}, freeButD D d l = true -> ∀ s, s ≠ d -> hasD d s D = true \/ (lookT l s).allLeaf (freeLeaf d) = true
 | [], _, _, _ => .inr rfl
 | (s', v) :: r, h, s, hs => by
  simp only [freeButD, Bool.and_eq_true, Bool.or_eq_true, beq_iff_eq] at h
  unfold lookT
  split
  ·rename_i he
   rcases h.1 with h1 | h1 | h1
   ·exact absurd (he.symm.trans h1) (by intro e; exact hs e)
   ·rw [<- he]; exact .inl h1
   ·exact .inr h1
  ·exact freeButD_look h.2 s hs
theorem freeOthersD_mem {D : List (Nat × Nat)} {l : List (Nat × AV)} : ∀ {ds : List Nat}, freeOthersD D l ds = true -> ∀ d ∈ ds, freeButD D d l = true
 | d' :: r, h, d, hd => by
  simp only [freeOthersD, Bool.and_eq_true] at h
  rcases List.mem_cons.1 hd with rfl | hd
  ·exact h.1
  ·exact freeOthersD_mem h.2 d hd
def lateP (ops : Array Oper) (m d s : Nat) : Bool := (List.range m).all fun i => match ops[i]? with
 | some o => (o.dst != some s) || (List.range m).all fun j => match ops[j]? with
  | some o' => (o'.dst != some d) || reach ops i i j
  | none => true
 | none => true
def lateD (ops : Array Oper) (m : Nat) : List (Nat × Nat) -> Bool
 | [] => true
 | (d, s) :: r => lateP ops m d s && lateD ops m r
theorem lateD_has {ops : Array Oper} {m d s : Nat} : ∀ {D : List (Nat × Nat)}, lateD ops m D = true -> hasD d s D = true -> lateP ops m d s = true
 | (a, b) :: r, h, hd => by
  simp only [lateD, Bool.and_eq_true] at h
  simp only [hasD, Bool.or_eq_true, Bool.and_eq_true, beq_iff_eq] at hd
  rcases hd with ⟨rfl, rfl⟩ | hd
  ·exact h.1
  ·exact lateD_has h.2 hd
theorem lateP_spec {ops : Array Oper} {m d s i j : Nat} {o o' : Oper} (h : lateP ops m d s = true) (hi : ops[i]? = some o) (him : i < m) (hd : o.dst = some s) (hj : ops[j]? = some o') (hjm : j < m) (hd' : o'.dst = some d) : reach ops i i j = true := by
 unfold lateP at h
 have h1 := List.all_eq_true.1 h i (List.mem_range.2 him)
 rw [hi] at h1
 simp only [hd, bne_self_eq_false, Bool.false_or] at h1
 have h2 := List.all_eq_true.1 h1 j (List.mem_range.2 hjm)
 rw [hj] at h2
 simpa only [hd', bne_self_eq_false, Bool.false_or] using h2
theorem DrawN.effP {σ0 : St} {K : St -> Prop} (A : List (Nat × Nat)) (ph : List Nat) (D : List (Nat × Nat)) (i0 : Nat) (E LF : List Nat) (m : Nat) (tr : Tr) (sg : Option (Nat × Tr)) (c : List AV) (hok : lateOk ops m E LF tr sg = true) (hE : effOk ops m E = true) (hD : lateD ops m D = true) (hc : (σ0.boxes ++ anyB ph)[i0]? = some c) (hi0 : i0 < σ0.boxes.length) (hnt : allLeafs noTag c = true) (hnv : allLeafs noVar c = true) (hfree : freeAll σ0 (creators ops m) = true) (hkf : keptFree σ0 A = true)
  (h : headF P ops (σ0.boxes ++ anyB ph).length i0 E LF A 0 (ops.toList.take m) { σ0 with boxes := (σ0.boxes ++ anyB ph).set i0 (blankC E c) } c fun σ' c' => (freeOthersD D σ'.tmps (creators ops m) = true /\ keptOk ops σ'.tmps A = true) /\ treeA P ops tr { σ' with boxes := σ'.boxes.set i0 c' } K /\ sgA P ops sg { σ' with boxes := σ'.boxes.set i0 c' } K) : DrawN P ops σ0 K := by
 intro G0 w0 G a w Q h0 hs0 hN hQ
 have hs := hs0.kept ph
 have hkf := fun i N => keptFree_mem hkf i N
 have hfree : freeAll { σ0 with boxes := σ0.boxes ++ anyB ph } (creators ops m) = true := freeAll_kept ph hfree
 have hall : ∀ N, noPbB N σ0.boxes = true -> noPbB N (σ0.boxes ++ anyB ph) = true := fun N hN => by rw [noPbB_app, hN, noPbB_any]; rfl
 obtain ⟨σ, hσ⟩ : ∃ σ : St, σ = { σ0 with boxes := σ0.boxes ++ anyB ph } := ⟨_, rfl⟩
 have hσb : σ.boxes = σ0.boxes ++ anyB ph := by rw [hσ]
 have hσt : σ.tmps = σ0.tmps := by rw [hσ]
 have hσn : σ.n = σ0.n := by rw [hσ]
 rw [<- hσ] at hs hfree
 have h : headF P ops σ.boxes.length i0 E LF A 0 (ops.toList.take m) { σ with boxes := σ.boxes.set i0 (blankC E c) } c fun σ' c' => (freeOthersD D σ'.tmps (creators ops m) = true /\ keptOk ops σ'.tmps A = true) /\ treeA P ops tr { σ' with boxes := σ'.boxes.set i0 c' } K /\ sgA P ops sg { σ' with boxes := σ'.boxes.set i0 c' } K := by
  rw [hσ]; exact h
 rw [<- hσb] at hc
 have hp := lateOk_plan hok
 simp only [effOk, Bool.and_eq_true, List.all_eq_true, decide_eq_true_eq, Bool.or_eq_true, Bool.not_eq_true', decide_eq_false_iff_not] at hE
 have hpE : PlanE ops m E := ⟨nodupE_spec hE.1.1, hE.1.2, fun e he e' he' hlt => (hE.2 e he e' he').resolve_left (fun hn => hn hlt)⟩
 obtain ⟨vs, C, hvl, hC0, hC, ⟨⟨hoth, hkp⟩, hK, hK2⟩, hst⟩ := headF_vals hpE.nodup _ _ _ _ _ h hnt hnv
 have hlen : (ops.toList.take m).length = m := by have := hp.le; simp; omega
 rw [hlen] at hvl
 have hcm : cntE E (0 + (ops.toList.take m).length) = E.length := by
  rw [hlen, Nat.zero_add]
  unfold cntE posE
  rw [List.filter_eq_self.2 fun e he => by simpa using hpE.lt e he]
 rw [hcm] at hK hK2
 have hst' : ∀ i o, i < m -> ops[i]? = some o -> ∃ d y, vs[i]? = some (d, y) /\ o.dst = some d /\ d < σ.n /\
   if i ∈ E then EffC P σ i0 o d (puts σ (vs.take i)).ev (C (E.filter fun e => decide (e < i)).length) y (C ((E.filter fun e => decide (e < i)).length + 1)) else if i ∈ LF then FrontC P o (puts σ (vs.take i)).ev y else match lookA A i with | some N => AllocP P σ.boxes o N y | none => StepG P ops o d (puts σ (vs.take i)) (σ.boxes.set i0 (blankC E (C 0))) y := fun i o hi ho => by
  obtain ⟨d, y, k1, k2, k3, k4⟩ := hst i o (by rw [List.getElem?_take, if_pos hi]; simpa using ho)
  refine ⟨d, y, k1, k2, k3, ?_⟩
  rw [Nat.zero_add] at k4
  split
  ·rename_i hiE
   rw [if_pos hiE, puts_ev] at k4
   unfold EffC at k4 ⊢
   simp only [List.length_replicate] at k4
   exact k4
  ·rename_i hiE
   rw [if_neg hiE] at k4
   rw [hC0 0 (Nat.zero_le _)]
   split
   ·rename_i hiL
    rw [if_pos hiL, puts_ev] at k4
    exact k4
   rename_i hiL
   rw [if_neg hiL] at k4
   cases hlA : lookA A i with
   | some N =>
    rw [hlA] at k4
    have hNi : i0 ≠ N := fun e => by have := (hkf i N hlA).1; omega
    obtain ⟨q1, q2, T, q, z, q3, q4, q5, q6, q7⟩ := k4
    simp only [List.getElem?_set_ne hNi] at q7
    exact ⟨q1, q2, T, q, z, q3, q4, q5, q6, q7⟩
   | none =>
   rw [hlA] at k4
   unfold StepG at k4 ⊢
   rw [puts_ev] at k4
   simp only [puts_get] at k4
   exact k4
 have hap : Apart vs := by
  intro i j d y d' y' h1 h2 hij
  have hil : i < m := by have := (List.getElem?_eq_some_iff.1 h1).1; omega
  have hjl : j < m := by have := (List.getElem?_eq_some_iff.1 h2).1; omega
  have hle := hp.le
  obtain ⟨oi, hoi⟩ : ∃ p, ops[i]? = some p := ⟨ops[i]'(by omega), by simp [show i < ops.size by omega]⟩
  obtain ⟨oj, hoj⟩ : ∃ p, ops[j]? = some p := ⟨ops[j]'(by omega), by simp [show j < ops.size by omega]⟩
  obtain ⟨_, _, k1, k2, _⟩ := hst' i oi hil hoi
  obtain ⟨_, _, k3, k4, _⟩ := hst' j oj hjl hoj
  rw [h1] at k1; cases k1
  rw [h2] at k3; cases k3
  obtain ⟨d1, e1, _, e2⟩ := hp.head j oj hoj hjl
  rw [k4] at e1; cases e1
  exact (e2 i oi d hil hij hoi k2).1
 have hs' := hs
 have hgd : ∀ i, (Array.replicate ops.size false).getD i false = false := fun i => by
  by_cases hi : i < ops.size <;> simp [hi]
 have hcrm : ∀ i o d, ops[i]? = some o -> i < m -> o.dst = some d -> creates o.op = true -> d ∈ creators ops m := fun i o d ho hi hd hcr => by
  unfold creators
  refine List.mem_filterMap.2 ⟨o, ?_, by rw [if_pos hcr]; exact hd⟩
  refine List.mem_of_getElem? (i := i) ?_
  rw [List.getElem?_take, if_pos hi]; simpa using ho
 have hset : ∀ c', (puts { σ with boxes := σ.boxes.set i0 (blankC E c) } vs).boxes.set i0 c' = σ.boxes.set i0 c' := fun c' => by rw [puts_boxes, List.set_set]
 refine head_runP (P := P) (A := A) hp hpE h0 hN hQ hvl hap (fun j => by rw [(hC j).1, (hC 0).1]) ?_ ?_ hst' (fun i N hi hlA => ⟨fun e => by have := (hkf i N hlA).1; omega, ?_, fun b hb e => ?_, fun j d' y hji hj => ?_, fun j => allLeafs_mono noVar_noPb _ (hC j).2.2⟩) (fun i o d ho hi hd hcr => ⟨fun j d' y hji hj => ?_, fun j => allLeafs_mono noTag_free _ (hC j).2.1⟩) ops.size (Array.replicate ops.size false) (List.range ops.size) σ G a _ ⟨by simp, List.nodup_range, fun i => ?_⟩ (by simp) (fun i _ => hgd i)
  (fun i o _ hi => absurd (show (Array.replicate ops.size false).getD i false = true from hi) (by rw [hgd]; simp)) ⟨rfl, ?_, fun i d y _ => by simp only [hgd]; simp, fun _ _ => rfl⟩ hs' (fun i o d ho hi hd hcr _ => freeAll_mem hfree d (hcrm i o d ho hi hd hcr)) (fun i N hi hlA _ _ _ => ⟨by rw [hσt]; exact (hkf i N hlA).2.1, by rw [hσb]; exact hall N (hkf i N hlA).2.2⟩)
 ·rw [hset] at hK
  rw [puts_eq] at hK ⊢
  exact hK
 ·rw [hset] at hK2
  rw [puts_eq] at hK2 ⊢
  exact hK2
 ·have := (hkf i N hlA).1
  cases hgh : G0.gh N with
  | none => rfl
  | some vs => have := hs0.boxes.low _ vs hgh; omega
 ·have h1 := hs0.stat b hb (fun t ht => by rw [e] at ht; cases ht)
  rw [e] at h1
  have := hs0.blt b N h1
  have := (hkf i N hlA).1
  omega
 ·obtain ⟨di, hdi, hbut⟩ := keptOk_mem hkp i N hlA
  obtain ⟨oi, hoi⟩ : ∃ p, ops[i]? = some p := ⟨ops[i]'(by have := hp.le; omega), by have := hp.le; simp [show i < ops.size by omega]⟩
  rw [hoi, Option.bind_some] at hdi
  obtain ⟨_, yi, k1, k2, _⟩ := hst' i oi hi hoi
  rw [hdi] at k2; cases k2
  have hne := hap i j di yi d' y k1 hj (Ne.symm hji)
  have hpa := puts_at m vs { σ with boxes := σ.boxes.set i0 (blankC E c) } hap
  rw [List.take_of_length_le (by omega)] at hpa
  have hjm : j < m := by have := (List.getElem?_eq_some_iff.1 hj).1; omega
  have hg := hpa.dst j d' y hj
  simp only [hjm, decide_true, if_true] at hg
  rw [<- hg]
  exact pbBut_look hbut d' (Ne.symm hne)
 ·have hb := freeOthersD_mem hoth d (hcrm i o d ho hi hd hcr)
  obtain ⟨oi, yi, k1, k2, _⟩ := hst' i o hi ho
  rw [hd] at k2; cases k2
  have hne := hap i j d yi d' y k1 hj (Ne.symm hji)
  have hpa := puts_at m vs { σ with boxes := σ.boxes.set i0 (blankC E c) } hap
  rw [List.take_of_length_le (by omega)] at hpa
  have hjm : j < m := by have := (List.getElem?_eq_some_iff.1 hj).1; omega
  have hg := hpa.dst j d' y hj
  simp only [hjm, decide_true, if_true] at hg
  rw [<- hg]
  rcases freeButD_look hb d' (Ne.symm hne) with h1 | h1
  ·obtain ⟨oj, hoj⟩ : ∃ p, ops[j]? = some p := ⟨ops[j]'(by have := hp.le; omega), by have := hp.le; simp [show j < ops.size by omega]⟩
   obtain ⟨_, yj, q1, q2, _⟩ := hst' j oj hjm hoj
   rw [hj] at q1; cases q1
   exact .inr (lateP_spec (lateD_has hD h1) hoj hjm q2 ho hi hd)
  ·exact .inl h1
 ·rw [List.mem_range, hgd]; simp
 ·have : posE E (fun i => (Array.replicate ops.size false).getD i false) = 0 := by
   unfold posE
   rw [List.filter_eq_nil_iff.2 fun e _ => by rw [hgd]; simp]; rfl
  rw [this, hC0 0 (Nat.zero_le _)]
  have hi := (List.getElem?_eq_some_iff.1 hc).1
  rw [<- (List.getElem?_eq_some_iff.1 hc).2, List.set_getElem_self]
end
def headZ (P : Program) (ops : Array Oper) (_n0 i0 : Nat) (_E _LF : List Nat) (A : List (Nat × Nat)) (D : List (Nat × Nat)) (ds : List Nat) (tr : Tr) (sg : Option (Nat × Tr)) (σ : St) (c : List AV) (K : St -> Prop) : Prop :=
 (freeOthersD D σ.tmps ds = true /\ keptOk ops σ.tmps A = true) /\ treeA P ops tr { σ with boxes := σ.boxes.set i0 c } K /\ sgA P ops sg { σ with boxes := σ.boxes.set i0 c } K
def headY (P : Program) (ops : Array Oper) (n0 i0 : Nat) (E LF : List Nat) (A : List (Nat × Nat)) (D : List (Nat × Nat)) (ds : List Nat) (tr : Tr) (sg : Option (Nat × Tr)) : Nat -> Nat -> List Oper -> St -> List AV -> (St -> Prop) -> Prop
 | _, 0, _, σ, c, K => headZ P ops n0 i0 E LF A D ds tr sg σ c K
 | _, _ + 1, [], σ, c, K => headZ P ops n0 i0 E LF A D ds tr sg σ c K
 | k, m + 1, o :: r, σ, c, K => if E.contains k = true then EffK P n0 i0 o σ c fun σ' c' => allLeafs noVar c' = true /\ headY P ops n0 i0 E LF A D ds tr sg (k + 1) m r σ' c' K else if LF.contains k = true then frB P o σ fun σ' => headY P ops n0 i0 E LF A D ds tr sg (k + 1) m r σ' c K else match lookA A k with
  | some N => AllocK P o N σ fun σ' => headY P ops n0 i0 E LF A D ds tr sg (k + 1) m r σ' c K
  | none => headG P ops o σ fun σ' => headY P ops n0 i0 E LF A D ds tr sg (k + 1) m r σ' c K
theorem headY_eq {P : Program} {ops : Array Oper} {n0 i0 : Nat} {E LF : List Nat} {A D : List (Nat × Nat)} {ds : List Nat} {tr : Tr} {sg : Option (Nat × Tr)} {K : St -> Prop} : ∀ (m k : Nat) (l : List Oper) (σ : St) (c : List AV), headY P ops n0 i0 E LF A D ds tr sg k m l σ c K =
  headF P ops n0 i0 E LF A k (l.take m) σ c fun σ' c' => headZ P ops n0 i0 E LF A D ds tr sg σ' c' K
 | 0, k, l, σ, c => by cases l <;> rfl
 | m + 1, k, [], σ, c => rfl
 | m + 1, k, o :: l, σ, c => by
  have ih : ∀ σ' c', headY P ops n0 i0 E LF A D ds tr sg (k + 1) m l σ' c' K = headF P ops n0 i0 E LF A (k + 1) (l.take m) σ' c' fun σ' c' => headZ P ops n0 i0 E LF A D ds tr sg σ' c' K := fun σ' c' => headY_eq m (k + 1) l σ' c'
  simp only [headY, List.take_succ_cons, headF, ih]
theorem DrawK.news0 {P : Program} {l : List Oper} {σ : St} {K : St -> Prop} (A : List (Nat × Nat)) (ph : List Nat) (D : List (Nat × Nat)) (i0 : Nat) (E LF : List Nat) (m : Nat) (tr : Tr) (sg : Option (Nat × Tr)) (c : List AV) (hm : P.follows .mixedOrders = true) (hok : lateOk l.toArray m E LF tr sg = true) (hE : effOk l.toArray m E = true) (hD : lateD l.toArray m D = true) (hc : (σ.boxes ++ anyB ph)[i0]? = some c) (hi0 : i0 < σ.boxes.length) (hnt : allLeafs noTag c = true /\ allLeafs noVar c = true)
  (hfree : freeAll σ (crs (l.take m)) = true /\ keptFree σ A = true)
  (h : headY P l.toArray (σ.boxes ++ anyB ph).length i0 E LF A D (crs (l.take m)) tr sg 0 m l ⟨σ.n, σ.tmps, (σ.boxes ++ anyB ph).set i0 (blankC E c)⟩ c K) : DrawK P l.toArray σ K :=
 DrawK.ofN hm (DrawN.effP A ph D i0 E LF m tr sg c hok hE hD hc hi0 hnt.1 hnt.2 (by rw [crs_creators]; exact hfree.1) hfree.2 (by rw [crs_creators]; rw [headY_eq] at h; exact h))
section
variable {P : Program} {n : Nat} {t : List (Nat × AV)} {b : List (List AV)} {ops : Array Oper} {n0 i0 k m : Nat} {E LF ds : List Nat} {A D : List (Nat × Nat)} {tr : Tr} {sg : Option (Nat × Tr)} {l : List Oper} {c : List AV} {K : St -> Prop}
variable {d : Nat} {T : TypeId} {pos : String} {af : Array Edge} {g : Option (Nat × Bool)}
@[congr] theorem headY_congr {n0' k' : Nat} {σ σ' : St} {c' : List AV} (h0 : n0 = n0') (h1 : k = k') (h : mkd σ = σ') (h2 : c = c') : headY P ops n0 i0 E LF A D ds tr sg k m l σ c K = headY P ops n0' i0 E LF A D ds tr sg k' m l σ' c' K := by subst_vars; rfl
def selN (o : Option Nat) (f : Nat -> Prop) (p : Prop) : Prop := match o with
 | some N => f N
 | none => p
@[congr] theorem selN_congr {o o' : Option Nat} {f : Nat -> Prop} {p : Prop} (h : o = o') : selN o f p = selN o' f p := by subst_vars; rfl
@[go_sem] theorem selN_some {N : Nat} {f : Nat -> Prop} {p : Prop} : selN (some N) f p = f N := rfl
@[go_sem] theorem selN_none {f : Nat -> Prop} {p : Prop} : selN none f p = p := rfl
@[go_sem] theorem headY_zero : headY P ops n0 i0 E LF A D ds tr sg k 0 l ⟨n, t, b⟩ c K = andK (freeOthersD D t ds = true) (andK (keptOk ops t A = true) (andK (treeA P ops tr ⟨n, t, b.set i0 c⟩ K) (sgA P ops sg ⟨n, t, b.set i0 c⟩ K))) := by
 cases l <;> (simp only [headY, headZ, andK]; exact propext and_assoc)
@[go_sem] theorem headY_succ {dst : Option Tmp} {op : Op} : headY P ops n0 i0 E LF A D ds tr sg k (m + 1) (⟨dst, op, T, pos, af, none⟩ :: l) ⟨n, t, b⟩ c K = selK (E.contains k) (EffK P n0 i0 ⟨dst, op, T, pos, af, none⟩ ⟨n, t, b⟩ c fun σ' c' => andK (allLeafs noVar c' = true) (headY P ops n0 i0 E LF A D ds tr sg (k + 1) m l σ' c' K))
  (selK (LF.contains k) (frB P ⟨dst, op, T, pos, af, none⟩ ⟨n, t, b⟩ fun σ' => headY P ops n0 i0 E LF A D ds tr sg (k + 1) m l σ' c K) (selN (lookA A k) (fun N => AllocK P ⟨dst, op, T, pos, af, none⟩ N ⟨n, t, b⟩ fun σ' => headY P ops n0 i0 E LF A D ds tr sg (k + 1) m l σ' c K) (headOp P ⟨dst, op, T, pos, af, none⟩ ⟨n, t, b⟩ fun σ' => headY P ops n0 i0 E LF A D ds tr sg (k + 1) m l σ' c K))) := by
 rw [selK_ite, selK_ite]
 show (if E.contains k = true then _ else if LF.contains k = true then _ else _) = _
 cases lookA A k <;> rfl
@[congr] theorem AllocK_congr {o : Oper} {N : Nat} {σ σ' : St} {K : St -> Prop} (h : mkd σ = σ') : AllocK P o N σ K = AllocK P o N σ' K := by subst_vars; rfl
@[go_sem] theorem AllocK_eq {N : Nat} : AllocK P ⟨some d, .alloc T, k, pos, af, none⟩ N ⟨n, t, b⟩ K = andK (d < n) (caseO (tinfo P T) fun q => caseO q.2.2 fun z => andK (zeroOk q.1 z = true) (caseO b[N]? fun cs => andK (cs = List.replicate q.1 .any) (K (St.put ⟨n, t, b⟩ (some d) (.pb N 0))))) := by
 unfold AllocK AllocP andK caseO
 apply propext
 constructor
 ·rintro ⟨d', hd, h1, ⟨_, _, T', q, z, h3, h4, h5, h6, h7⟩, h8⟩
  cases hd; cases h3
  exact ⟨h1, q, h4, z, h5, h6, _, h7, rfl, h8⟩
 ·rintro ⟨h1, q, h4, z, h5, h6, cs, h7, rfl, h8⟩
  exact ⟨d, rfl, h1, ⟨rfl, rfl, T, q, z, rfl, h4, h5, h6, h7⟩, h8⟩
attribute [go_sem] freeOthersD freeButD hasD lookA keptOk pbBut keptFree noPbT noPbB noPb noVar anyB
end
end Go.AM
namespace Go.AM
open Go Go.Proofs Go.RowKit
theorem Con.freezeB {P : Program} {f : FuncId} {args : List AV} {bx : List (List AV)} {post : AV -> List (List AV) -> Prop} (p : Nat -> Bool) (h : Con P f args bx post) : Con P f args bx fun r' b' => ∃ r b, post r b /\ r' = r.freeze p /\ b' = b.map fun cs => cs.map (AV.freeze p) :=
 ⟨h.1, fun G w vs h1 h2 h3 h4 h5 => (h.2 G w vs h1 h2 h3 h4 h5).mono fun e w' ⟨v, r, bx', G', he, hq, hr, hg, hbx, hlt, e1, e2, e3, e4, e5, e6⟩ => by
  have hbox : ∀ k i, freezeG p G' k = .box i ↔ G' k = .box i := fun k i => by
   unfold freezeG; split
   ·rename_i t ht; split <;> simp [ht]
   ·exact Iff.rfl
  refine ⟨v, _, bx'.map (fun cs => cs.map (AV.freeze p)), freezeG p G', he, ⟨r, bx', hq, rfl, rfl⟩, hr.freeze, hg.freeze, ⟨fun i vs hv => by simp [noGh] at hv, fun i cs hi => ?_⟩, fun k i hk => by simpa using hlt k i ((hbox k i).1 hk), e1, e2, e3, e4, fun k hk => ?_, e6⟩
  ·rw [List.getElem?_map] at hi
   cases hc : bx'[i]? with
   | none => simp [hc] at hi
   | some cs' =>
    simp [hc] at hi; subst hi
    exact (hbx.cell i cs' hc).map (fun x v hr => hr.freeze) (fun k hk => ⟨(hbox k i).2 hk, rfl⟩) fun h0 k hk => h0 k ((hbox k i).1 hk)
  ·have := e5 k hk
   unfold freezeG
   split
   ·rename_i t ht; rw [this] at ht; exact absurd ht (h2 k t)
   ·exact this⟩
def kidN (n : Int) : AV := .ag [vi n, .nil]
def cfgN (t s : Nat) (v : List Int) : AV := .ag [vi 0, .sl t 2 (((s : Int) :: v).map kidN)]
attribute [go_sem] kidN cfgN
theorem flat_cons (x : AV) (l : List AV) : flat (x :: l) = x.cells ++ flat l := by simp [flat]
theorem kids_pw : ∀ l : List Int, PW Sub (flat (l.map kidN)) (flat ((l.map fun n => CV.mk n []).map vV))
 | [] => PW.nil _
 | n :: l => by
  rw [List.map_cons, List.map_cons, List.map_cons, flat_cons, flat_cons, vV_eq]
  exact PW.append (PW.cons (Sub.refl _) (PW.cons (Sub.nil 2) (PW.nil _))) (kids_pw l)
theorem cfg_le (s : Nat) (v : List Int) : leV (cfgN 0 s v) (vV (cfgC s v)) := by
 rw [vV_eq]
 refine leV_ag ⟨leV_refl _, ?_, trivial⟩
 show leV (.sl 0 2 (((s : Int) :: v).map kidN)) (.sl 0 2 ((((s : Int) :: v).map fun n => CV.mk n []).map vV))
 exact leV_slE (by simp) (fun y hy => by
  obtain ⟨x, _, rfl⟩ := List.mem_map.1 hy
  rw [vV_eq]; rfl) (kids_pw _)
def ruleN (r : RD) : AV := .ag [vStr r.name, vi r.src, vi r.dst, vs 0 r.need, vs 0 r.give, .nil, vi 0, vi 0, vi 0, .nil, .nil, .nil, .nil, vi 0]
attribute [go_sem] ruleN
def ThinR (r : RD) : Prop := r = bareR r.name r.src r.dst r.need r.give []
theorem rules_pw : ∀ l : List RD, (∀ r ∈ l, ThinR r) -> PW Sub (flat (l.map ruleN)) (flat (l.map vRule))
 | [], _ => PW.nil _
 | r :: l, h => by
  rw [List.map_cons, List.map_cons, flat_cons, flat_cons]
  refine PW.append ?_ (rules_pw l fun x hx => h x (List.mem_cons_of_mem _ hx))
  rw [h r (List.mem_cons_self ..)]
  have e1 : Sub .nil (vs 0 []) := Sub.nil 1
  have e3 : Sub .nil (.sl 0 3 (([] : List (Int × Int × Int)).map vTake)) := Sub.nil 3
  exact PW.cons (Sub.refl _) (PW.cons (Sub.refl _) (PW.cons (Sub.refl _) (PW.cons (Sub.refl _) (PW.cons (Sub.refl _) (PW.cons e1 (PW.cons (Sub.refl _) (PW.cons (Sub.refl _) (PW.cons (Sub.refl _) (PW.cons e1 (PW.cons e1 (PW.cons e3 (PW.cons e1 (PW.cons (Sub.refl _) (PW.nil _))))))))))))))
def modelN (m : MD) (t s0 : Nat) (v0 : List Int) : AV := .ag [vi 1, vss m.states, vss m.places, .nil, .nil, vi 0, vi 0, .sl t 14 (m.rules.map ruleN), vi 0, .sl t 2 (((s0 : Int) :: v0).map kidN)]
attribute [go_sem] modelN
end Go.AM
namespace Go.AM
end Go.AM
namespace Go.AM
open Go Go.Proofs Go.RowKit
set_option maxRecDepth 100000
theorem con_rcopy (l : List Int) (h2 : l.length <= 1000000) : Con Tryz.prog 132 [vs 0 l] [] fun r _ => r = vs 2 l := by
 refine Con.intro Tryz.func132 rfl Tryz.ntmps132 Tryz.results132 (by kernel_rfl) (by simp) 0 (by simp) ?_
 have hr : roomFor l.length 8 := by simp only [roomFor]; omega
 simp only [go_sem, List.length_map, hr]
set_option maxHeartbeats 8000000
def prioR (nl : Nat) (l : List Int) : AV := .ag [vi 7, vi nl, vs 0 l, .nil]
theorem con_rtypeOf3 (m : MD) (hp : m.places.length <= 1000000) (hr : m.ranks.length <= 1000000) (hk : m.kind = 3) : Con Tryz.prog 77 [vM m] [] fun r _ => r = .ag [vi 3, vi 0, .nil, .sl 2 4 (.ag [vi 2, vi m.states.length, .nil, .nil] :: List.replicate m.places.length (prioR m.letters.length m.ranks))] := by
 refine Con.intro Tryz.func77 rfl Tryz.ntmps77 Tryz.results77 (by kernel_rfl) (by simp) 0 (by simp) ?_
 unfold vM cM
 rw [hk]
 simp only [go_sem, vss, List.length_map]
 refine LoopK.intro (fun i : Nat => ⟨96, [(1, .pb 0 0), (2, .pb 1 0), (3, .pb 2 0), (4, .pb 3 0), (8, vi i)], [vi 3, .sl 0 1 (m.states.map vStr), .sl 0 1 (m.places.map vStr), .sl 0 1 (m.letters.map vStr), vs 0 m.ranks, vi m.levels, vi m.age, .sl 0 14 (m.rules.map vRule), vi m.start.n, .sl 0 2 (m.start.kids.map vV)] :: [.any, .any, .any, .any] :: [vi 3, vi 0, .nil, .sl 960 4 (.ag [vi 2, vi m.states.length, .nil, .nil] :: List.replicate i (prioR m.letters.length m.ranks))] :: [vi 2, vi m.letters.length, .nil, .nil] :: Rk 4 i⟩)
  (fun i => m.places.length - i) (fun i => i <= m.places.length) 0 (by omega) ?_ ?_
 ·simp only [go_sem, List.replicate_zero]
  all_goals exact leB_self _
 rintro i hi
 by_cases hlt : i < m.places.length
 ·have hw : IntKind.i64.wrap (i + 1) = i + 1 := wrap_in (by omega) (by omega)
  have hB := Rk_len 4 i
  have n0 := fun L : List (List AV) => app_at0 (L := L) hB
  have s0 := fun (L : List (List AV)) z => app_set0 (L := L) (z := z) hB
  have e : List.replicate (i + 1) (prioR m.letters.length m.ranks) = List.replicate i (prioR m.letters.length m.ranks) ++ [prioR m.letters.length m.ranks] := rep_succ _ _
  have cc := con_rcopy m.ranks hr
  simp only [go_sem, hlt, hB, n0, s0, List.length_map]
  refine DrawK.walk 7 mixed (by kernel_rfl) ?_
  simp only [go_sem]
  refine CallY.mk cc (by simp only [go_sem]) (by simp only [go_sem]) (.inl (by simp only [go_sem])) ?_
  simp only [go_sem, hw, n0, s0]
  refine ⟨by simp only [roomFor, List.length_replicate]; omega, ?_⟩
  refine roundK.intro (i + 1) (by omega) (by omega) ?_
  simp only [go_sem, Rk_succ, e]
  exact ⟨leV_refl _, leB_RkA ⟨leC_any _ 4 rfl, trivial⟩⟩
 ·obtain rfl : i = m.places.length := by omega
  simp only [go_sem, hlt, List.length_map]
def nodeR (nl : Nat) : Nat -> AV
 | 0 => .ag [vi 2, vi nl, .nil, .sl 0 4 []]
 | n + 1 => .ag [vi 3, vi 0, .nil, .sl 0 4 [.ag [vi 2, vi nl, .nil, .nil], .ag [vi 5, vi 0, .nil, .sl 0 4 [nodeR nl n]]]]
def nodeC (nl : Nat) : Nat -> List AV
 | 0 => [vi 2, vi nl, .nil, .sl 4224 4 []]
 | n + 1 => [vi 3, vi 0, .nil, .sl 4224 4 [.ag [vi 2, vi nl, .nil, .nil], .ag [vi 5, vi 0, .nil, .sl 0 4 [nodeR nl n]]]]
theorem nodeC_eq (nl n : Nat) : ∃ (k s : Int) (p : List AV), nodeC nl n = [vi k, vi s, .nil, .sl 4224 4 p] /\ nodeR nl n = .ag [vi k, vi s, .nil, .sl 0 4 p] := by cases n <;> exact ⟨_, _, _, rfl, rfl⟩
theorem con_rtypeOf4 (m : MD) (n : Nat) (hl : m.levels = (n + 1 : Nat)) (hn : n <= 100) (hk : m.kind = 4) : Con Tryz.prog 77 [vM m] [] fun r _ => r = .ag [vi 3, vi 0, .nil, .sl 2 4 [.ag [vi 2, vi m.states.length, .nil, .nil], .ag [vi 5, vi 0, .nil, .sl 0 4 [nodeR m.letters.length n]]]] := by
 refine Con.intro Tryz.func77 rfl Tryz.ntmps77 Tryz.results77 (by kernel_rfl) (by simp) 0 (by simp) ?_
 have hro : roomFor (1 + 1) 64 := by simp only [roomFor]; omega
 unfold vM cM
 rw [hk, hl]
 simp only [go_sem, vss, List.length_map]
 refine LoopK.intro (fun i : Nat => ⟨96, [(1, .pb 0 0), (2, .pb 1 0), (3, .pb 2 0), (4, .pb 3 0), (5, .pb 4 0), (6, vi ((i : Int) + 1))], [[vi 4, .sl 0 1 (m.states.map vStr), .sl 0 1 (m.places.map vStr), .sl 0 1 (m.letters.map vStr), vs 0 m.ranks, vi ((n : Int) + 1), vi m.age, .sl 0 14 (m.rules.map vRule), vi m.start.n, .sl 0 2 (m.start.kids.map vV)], [.any, .any, .any, .any], [vi 3, vi 0, .nil, .sl 960 4 [.ag [vi 2, vi m.states.length, .nil, .nil]]], [vi 2, vi m.letters.length, .nil, .nil], nodeC m.letters.length i]⟩)
  (fun i => n - i) (fun i => i <= n) 0 (by omega) ?_ ?_
 ·simp only [go_sem, nodeC]
  all_goals exact ⟨leV_int rfl, leV_nil 4224 4⟩
 rintro i hi
 obtain ⟨k, s, p, ec, er⟩ := nodeC_eq m.letters.length i
 by_cases hlt : i < n
 ·have hlt' : (i : Int) + 1 < (n : Int) + 1 := by omega
  have hw : IntKind.i64.wrap ((i : Int) + 1 + 1) = (i : Int) + 1 + 1 := wrap_in (by omega) (by omega)
  have e2 : nodeC m.letters.length (i + 1) = [vi 3, vi 0, .nil, .sl 4224 4 [.ag [vi 2, vi m.letters.length, .nil, .nil], .ag [vi 5, vi 0, .nil, .sl 0 4 [.ag [vi k, vi s, .nil, .sl 0 4 p]]]]] := by rw [nodeC, er]
  simp only [go_sem, hlt', hw, ec]
  refine roundK.intro (i + 1) (by omega) (by omega) ?_
  simp only [go_sem, e2]
 ·obtain rfl : i = n := by omega
  have hlt' : ¬ (i : Int) + 1 < (i : Int) + 1 := by omega
  rw [er]
  simp only [go_sem, hlt', ec, List.length_cons, List.length_nil, hro]
def ForT (x : AV) (t : TD) : Prop := PW Sub x.cells (vT t).cells
theorem ForT.leaf (k s : Int) : ForT (.ag [vi k, vi s, .nil, .nil]) (.mk k s [] []) := by
 unfold ForT; rw [vT_eq]
 exact PW.cons (Sub.refl _) (PW.cons (Sub.refl _) (PW.cons (Sub.nil 1) (PW.cons (Sub.nil 4) (PW.nil _))))
theorem ForT.leafS (k s : Int) : ForT (.ag [vi k, vi s, .nil, .sl 0 4 []]) (.mk k s [] []) := by
 unfold ForT; rw [vT_eq]
 exact PW.cons (Sub.refl _) (PW.cons (Sub.refl _) (PW.cons (Sub.nil 1) (PW.cons (Sub.refl _) (PW.nil _))))
theorem ForT.ranks (k s : Int) (l : List Int) : ForT (.ag [vi k, vi s, vs 0 l, .nil]) (.mk k s l []) := by
 unfold ForT; rw [vT_eq]
 exact PW.cons (Sub.refl _) (PW.cons (Sub.refl _) (PW.cons (Sub.refl _) (PW.cons (Sub.nil 4) (PW.nil _))))
inductive ForL : List AV -> List TD -> Prop
 | nil : ForL [] []
 | cons {x : AV} {t : TD} {xs : List AV} {l : List TD} : ForT x t -> ForL xs l -> ForL (x :: xs) (t :: l)
theorem ForL.len {xs : List AV} {l : List TD} (h : ForL xs l) : xs.length = (l.map vT).length := by
 induction h with
 | nil => rfl
 | cons _ _ ih => rw [List.length_cons, List.map_cons, List.length_cons, ih]
theorem ForL.flat {xs : List AV} {l : List TD} (h : ForL xs l) : PW Sub (AM.flat xs) (AM.flat (l.map vT)) := by
 induction h with
 | nil => exact PW.nil _
 | cons h _ ih =>
  rw [List.map_cons, flat_consL, flat_consL]
  exact PW.append h ih
theorem vT_cells (l : List TD) : ∀ y ∈ l.map vT, y.cells.length = 4 := fun y hy => by
 obtain ⟨t, _, rfl⟩ := List.mem_map.1 hy
 rw [vT_eq]; rfl
theorem ForT.parts (k s : Int) {xs : List AV} {l : List TD} (h : ForL xs l) : ForT (.ag [vi k, vi s, .nil, .sl 0 4 xs]) (.mk k s [] l) := by
 unfold ForT; rw [vT_eq]
 exact PW.cons (Sub.refl _) (PW.cons (Sub.refl _) (PW.cons (Sub.nil 1) (PW.cons (Sub.slE h.len (vT_cells l) h.flat) (PW.nil _))))
theorem ForL.rep {x : AV} {t : TD} (h : ForT x t) : ∀ n, ForL (List.replicate n x) (List.replicate n t)
 | 0 => .nil
 | n + 1 => by rw [List.replicate_succ, List.replicate_succ]; exact .cons h (ForL.rep h n)
theorem type_le {xs : List AV} {l : List TD} (h : ForL xs l) : leV (.ag [vi 3, vi 0, .nil, .sl 0 4 xs]) (vT (prodT l)) := by
 unfold prodT
 rw [vT_eq]
 exact leV_ag ⟨leV_refl _, leV_refl _, leV_nil 0 1, leV_slE h.len (vT_cells l) h.flat, trivial⟩
def nodeT (nl : Int) : Nat -> TD
 | 0 => labelT nl
 | n + 1 => prodT [labelT nl, listT 5 (nodeT nl n)]
theorem nodeR_for (nl : Nat) : ∀ n, ForT (nodeR nl n) (nodeT nl n)
 | 0 => ForT.leafS 2 nl
 | n + 1 => ForT.parts 3 0 (.cons (ForT.leaf 2 nl) (.cons (ForT.parts 5 0 (.cons (nodeR_for nl n) .nil)) .nil))
theorem nodes_node (nl : Int) : ∀ n, nodesT nl (n + 1) = listT 5 (nodeT nl n)
 | 0 => rfl
 | n + 1 => by rw [nodesT, nodes_node nl n]; rfl
theorem con_rtypeOfG (m : MD) (h : SizeM m) (hb : betweenB m.kind 1 6 = true) (hlv : m.kind = 4 -> 1 <= m.levels) : Con Tryz.prog 77 [vM m] [] fun r _ => r = vT (typeM m) := by
 have hlab : ForT (.ag [vi 2, vi m.states.length, .nil, .nil]) (labelT m.states.length) := ForT.leaf 2 _
 have fin : ∀ {xs : List AV} {l : List TD}, (Con Tryz.prog 77 [vM m] [] fun r _ => ∃ r0, r0 = (.ag [vi 3, vi 0, .nil, .sl 2 4 xs] : AV) /\ r = r0.freeze fun _ => true) -> typeM m = prodT l -> ForL xs l -> (.ag [vi 3, vi 0, .nil, .sl 2 4 xs] : AV).freeze (fun _ => true) = .ag [vi 3, vi 0, .nil, .sl 0 4 xs] -> Con Tryz.prog 77 [vM m] [] fun r _ => r = vT (typeM m) := fun hc e hf hz =>
  hc.weak fun r b ⟨r1, h3, h6⟩ => by
   subst h3; subst h6
   refine ⟨_, rfl, ?_⟩
   rw [e, hz]
   exact type_le hf
 have e0 : ∀ k, m.kind = k -> k ≠ 4 -> k ≠ 5 -> typeM m = prodT (labelT m.states.length :: List.replicate m.places.length (placeT m)) := fun k hk h4 h5 => by unfold typeM partsM; rw [if_neg (by omega), if_neg (by omega)]
 have ef : flatT 2 (partsP m.states.length m.places.length) = .ag [vi 3, vi 0, .nil, .sl 2 4 (.ag [vi 2, vi m.states.length, .nil, .nil] :: List.replicate m.places.length (.ag [vi 1, vi 0, .nil, .nil]))] := by
  unfold flatT partsP
  rw [List.map_cons, List.map_replicate]
  rfl
 rcases kind_cases hb with hk | hk | hk | hk | hk | hk
 ·have hc := con_rtypeOf16 m h.places (.inl hk)
  rw [ef] at hc
  refine fin (hc.freezeR fun _ => true) (e0 1 hk (by omega) (by omega)) (.cons hlab (ForL.rep (t := placeT m) ?_ _)) rfl
  unfold placeT; rw [if_neg (by omega), if_neg (by omega)]
  exact ForT.leaf 1 0
 ·refine fin ((con_rtypeOf2 m h.places hk).freezeR fun _ => true) (e0 2 hk (by omega) (by omega)) (.cons hlab (ForL.rep (t := placeT m) ?_ _)) rfl
  unfold placeT; rw [if_pos hk]
  exact ForT.parts 4 0 (.cons (ForT.leaf 2 _) .nil)
 ·refine fin ((con_rtypeOf3 m h.places h.ranks hk).freezeR fun _ => true) (e0 3 hk (by omega) (by omega)) (.cons hlab (ForL.rep (t := placeT m) ?_ _)) rfl
  unfold placeT; rw [if_neg (by omega), if_pos hk]
  exact ForT.ranks 7 _ _
 ·have hl := h.levels hk
  have h1 := hlv hk
  obtain ⟨n, hn⟩ : ∃ n : Nat, m.levels = (n + 1 : Nat) := ⟨(m.levels - 1).toNat, by omega⟩
  have e4 : typeM m = prodT [labelT m.states.length, listT 5 (nodeT m.letters.length n)] := by
   unfold typeM partsM
   rw [if_pos hk, hn, Int.toNat_natCast, nodes_node]
  exact fin ((con_rtypeOf4 m n hn (by omega) hk).freezeR fun _ => true) e4 (.cons hlab (.cons (ForT.parts 5 0 (.cons (nodeR_for _ n) .nil)) .nil)) rfl
 ·have hc := con_rtypeOf16 m h.places (.inr hk)
  rw [ef] at hc
  refine fin (hc.freezeR fun _ => true) (e0 6 hk (by omega) (by omega)) (.cons hlab (ForL.rep (t := placeT m) ?_ _)) rfl
  unfold placeT; rw [if_neg (by omega), if_neg (by omega)]
  exact ForT.leaf 1 0
 ·have e5 : typeM m = prodT [labelT m.states.length, listT 5 (prodT [labelT m.places.length, labelT (m.age + 2)])] := by
   unfold typeM partsM
   rw [if_neg (by omega), if_pos hk]
  exact fin ((con_rtypeOf5 m (by have := h.age hk; omega) hk).freezeR fun _ => true) e5 (.cons hlab (.cons (ForT.parts 5 0 (.cons (ForT.parts 3 0 (.cons (ForT.leaf 2 _) (.cons (ForT.leaf 2 _) .nil))) .nil)) .nil)) rfl
theorem ordI_anti (a b : Int) : ordI a b = - ordI b a := by unfold ordI; split <;> split <;> omega
mutual
theorem cmpV_anti : ∀ (a b : CV), cmpV a b = - cmpV b a
 | .mk n k, .mk m l => by
  by_cases h : n = m
  ·by_cases h2 : k.length = l.length
   ·have a : cmpV (.mk n k) (.mk m l) = cmpVs k l := by rw [cmpV, if_neg (fun h' => h' h), if_neg (fun h' => h' h2)]
    have b : cmpV (.mk m l) (.mk n k) = cmpVs l k := by rw [cmpV, if_neg (fun h' => h' h.symm), if_neg (fun h' => h' h2.symm)]
    rw [a, b, cmpVs_anti k l]
   ·have a : cmpV (.mk n k) (.mk m l) = ordI k.length l.length := by rw [cmpV, if_neg (fun h' => h' h), if_pos h2]
    have b : cmpV (.mk m l) (.mk n k) = ordI l.length k.length := by rw [cmpV, if_neg (fun h' => h' h.symm), if_pos (fun e => h2 e.symm)]
    rw [a, b, ordI_anti]
  ·have a : cmpV (.mk n k) (.mk m l) = ordI n m := by rw [cmpV, if_pos h]
   have b : cmpV (.mk m l) (.mk n k) = ordI m n := by rw [cmpV, if_pos (fun e => h e.symm)]
   rw [a, b, ordI_anti]
theorem cmpVs_anti : ∀ (k l : List CV), cmpVs k l = - cmpVs l k
 | [], [] => by simp [cmpVs]
 | [], _ :: _ => by simp [cmpVs]
 | _ :: _, [] => by simp [cmpVs]
 | x :: k, y :: l => by
  have h1 := cmpV_anti x y
  have h2 := cmpVs_anti k l
  rw [cmpVs, cmpVs]
  by_cases h : cmpV x y = 0
  ·rw [if_neg (fun h' => h' h), if_neg (fun h' => h' (by omega)), h2]
  ·rw [if_pos h, if_pos (by omega), h1]
end
theorem right_kind {d : Nat} {t : TD} (h : rightT d t = true) : t.kind = 1 \/ t.kind = 2 \/ t.kind = 3 \/ t.kind = 4 \/ t.kind = 5 \/ t.kind = 6 \/ t.kind = 7 := by
 cases d with
 | zero => simp [rightT] at h
 | succ d =>
  unfold rightT at h
  split at h
  ·cases h
  ·split at h
   ·omega
   ·split at h
    ·omega
    ·split at h
     ·omega
     ·split at h
      ·omega
      ·split at h
       ·omega
       ·cases h
theorem right_parts {d : Nat} {t : TD} (h : rightT d t = true) : ∀ x ∈ t.parts, rightT (d - 1) x = true := by
 cases d with
 | zero => simp [rightT] at h
 | succ d =>
  have hparts : t.parts = [] \/ ∀ x ∈ t.parts, rightT d x = true := by
   unfold rightT at h
   split at h
   ·cases h
   ·split at h
    ·simp at h; exact .inl h.1
    ·split at h
     ·simp at h; exact .inl h.1.1
     ·split at h
      ·simp at h; exact .inl h.1.1
      ·split at h
       ·right; intro x hx; simp at h; exact h.2 x hx
       ·split at h
        ·right; intro x hx; simp at h; exact h.2 x hx
        ·cases h
  intro x hx
  rcases hparts with hp | hp
  ·rw [hp] at hx; cases hx
  ·exact hp x hx
theorem allT_bad {l : List CV} {t : TD} {i : Nat} (h : i < l.length) (hb : oneT l[i]! t = false) : allT l t = false := by
 rw [allT_any, any_bad (p := fun x => !oneT x t) h (by rw [hb]; rfl)]; rfl
theorem allT_good {l : List CV} {t : TD} (h : ∀ i, i < l.length -> oneT l[i]! t = true) : allT l t = true := by
 rw [allT_any, any_ok (l := l) (p := fun x => !oneT x t) fun i hi => by rw [h i hi]; rfl]; rfl
theorem con_rnodes : ∀ (s : Nat) (v : CV) (size : Int), SizeOf.sizeOf v <= s -> v.Ok -> Con Tryz.prog 150 [vi size, vV v] [] fun r _ => r = vb (taggedV v size) := by
 intro s
 induction s with
 | zero => intro v _ hs; cases v; rw [CV.mk.sizeOf_spec] at hs; omega
 | succ s ih =>
  intro v size hs hv
  have hlen := hv.len
  rw [vV_eq, tagged_eq]
  refine Con.intro Tryz.func150 rfl Tryz.ntmps150 Tryz.results150 (by kernel_rfl) (by simp) 0 (by simp) ?_
  simp only [go_sem]
  refine LoopK.intro (fun i : Nat => ⟨30, [(0, vi size), (3, .pb 0 0), (5, vi i)], [[vi v.n, .sl 0 2 (v.kids.map vV)]]⟩)
   (fun i => v.kids.length - i) (fun i => i <= v.kids.length /\ ∀ j, j < i -> (!taggedV v.kids[j]! size) = false) 0 ⟨by omega, fun j hj => by omega⟩ ?_ ?_
  ·simp only [go_sem]
  rintro i ⟨hi, hj⟩
  by_cases h : i < v.kids.length
  ·have hg := getvV h
   have hw : IntKind.i64.wrap (i + 1) = i + 1 := wrap_in (by omega) (by omega)
   have hm : v.kids[i]! ∈ v.kids := mem_bangI h
   simp only [go_sem, h, hg]
   refine CallU.free (ih v.kids[i]! size (by have := kid_size hm; omega) (hv.kid hm)) (by simp only [go_sem]) (by simp only [go_sem, vV_eq]) ?_
   rintro r bx rfl
   cases hp : taggedV v.kids[i]! size
   ·have hb := any_bad (p := fun x => !taggedV x size) h (by rw [hp]; rfl)
    rw [hb]
    simp only [go_sem, Bool.not_true, Bool.and_false]
   simp only [go_sem, hw]
   refine roundK.intro (i + 1) ⟨by omega, fun j hj2 => ?_⟩ (by omega) ?_
   ·by_cases e : j = i
    ·rw [e, hp]; rfl
    ·exact hj j (by omega)
   simp only [go_sem]
  ·have hb := any_ok (l := v.kids) (p := fun x => !taggedV x size) fun j hj2 => hj j (by omega)
   rw [hb, Bool.not_false, Bool.and_true]
   by_cases h1 : 0 <= v.n
   ·simp only [go_sem, h, h1, decide_true, Bool.true_and]
   ·simp only [go_sem, h, h1, decide_false, Bool.false_and]
theorem con_rof : ∀ (s d : Nat) (v : CV) (t : TD), SizeOf.sizeOf v <= s -> v.Ok -> t.Ok -> rightT d t = true -> Con Tryz.prog 97 [vT t, vV v] [] fun r _ => r = vb (oneT v t) := by
 intro s
 induction s with
 | zero => intro d v t hs; cases v; rw [CV.mk.sizeOf_spec] at hs; omega
 | succ s ih =>
  intro d v t hs hv ht hr
  have hlen := hv.len
  have hpl := ht.plen
  have hf := right_fit d t hr
  have hkind := right_kind hr
  have e : oneT v t = if t.kind = 1 then decide (0 <= v.n) && decide (v.n <= 1048576) && v.kids.length == 0
   else if t.kind = 2 then decide (0 <= v.n) && decide (v.n < t.size) && v.kids.length == 0
   else if t.kind = 3 then v.n == 0 && decide (v.kids.length = t.parts.length) && zipT v.kids t.parts
   else if t.kind = 4 then v.n == 0 && decide (v.kids.length <= 12) && allT v.kids t.parts[0]!
   else if t.kind = 5 then v.n == 0 && decide (v.kids.length <= 12) && allT v.kids t.parts[0]! && sortedB v.kids
   else if t.kind = 6 then decide (countV v 12 <= 12) && taggedV v t.size
   else v.n == 0 && decide (v.kids.length <= 12) && !v.kids.any fun k => !labelB t.size k := by cases v; rw [oneT]; rfl
  have hzk : ((v.kids.length : Int) == 0) = (v.kids.length == 0) := zero_len _
  have hrec : ∀ x ∈ v.kids, ∀ p ∈ t.parts, Con Tryz.prog 97 [vT p, vV x] [] fun r _ => r = vb (oneT x p) := fun x hx p hp => ih (d - 1) x p (by have := kid_size hx; omega) (hv.kid hx) (ht.part hp) (right_parts hr p hp)
  have e0 := vV_eq v
  have e1 := vT_eq t
  rw [e, e0, e1]
  refine Con.intro Tryz.func97 rfl Tryz.ntmps97 Tryz.results97 (by kernel_rfl) (by simp) 0 (by simp) ?_
  by_cases k1 : t.kind = 1
  ·have b1 : (t.kind == 1) = true := beq_iff_eq.2 k1
   rw [if_pos k1]
   by_cases h1 : 0 <= v.n
   ·by_cases h2 : v.n <= 1048576
    ·simp only [go_sem, b1, h1, h2, hzk, List.length_map, decide_true, Bool.true_and]
    ·simp only [go_sem, b1, h1, h2, decide_true, decide_false, Bool.true_and, Bool.false_and]
   ·simp only [go_sem, b1, h1, decide_false, Bool.false_and]
  have b1 : (t.kind == 1) = false := beq_eq_false_iff_ne.2 k1
  rw [if_neg k1]
  by_cases k2 : t.kind = 2
  ·have b2 : (t.kind == 2) = true := beq_iff_eq.2 k2
   rw [if_pos k2]
   by_cases h1 : 0 <= v.n
   ·by_cases h2 : v.n < t.size
    ·simp only [go_sem, b1, b2, h1, h2, hzk, List.length_map, decide_true, Bool.true_and]
    ·simp only [go_sem, b1, b2, h1, h2, decide_true, decide_false, Bool.true_and, Bool.false_and]
   ·simp only [go_sem, b1, b2, h1, decide_false, Bool.false_and]
  have b2 : (t.kind == 2) = false := beq_eq_false_iff_ne.2 k2
  rw [if_neg k2]
  by_cases k6 : t.kind = 6
  ·have b6 : (t.kind == 6) = true := beq_iff_eq.2 k6
   rw [if_neg (by omega), if_neg (by omega), if_neg (by omega), if_pos k6]
   simp only [go_sem, b1, b2, b6]
   refine CallU.free (con_rcount v 12 (by omega) (by omega) hv) (by simp only [go_sem]) (by simp only [go_sem, e0]) ?_
   rintro r bx rfl
   by_cases hc : countV v 12 <= 12
   ·simp only [go_sem, hc]
    refine CallU.free (con_rnodes _ v t.size (Nat.le_refl _) hv) (by simp only [go_sem]) (by simp only [go_sem, e0]) ?_
    rintro r bx rfl
    simp only [go_sem, hc, decide_true, Bool.true_and]
   ·simp only [go_sem, hc, decide_false, Bool.false_and]
  have b6 : (t.kind == 6) = false := beq_eq_false_iff_ne.2 k6
  by_cases k3 : t.kind = 3
  ·have b3 : (t.kind == 3) = true := beq_iff_eq.2 k3
   rw [if_pos k3]
   cases hn : v.n == 0
   ·have hn' : (v.n != 0) = true := by unfold bne; rw [hn]; rfl
    simp only [go_sem, b1, b2, b6, b3, hn', Bool.false_and]
   have hn' : (v.n != 0) = false := by unfold bne; rw [hn]; rfl
   by_cases hl : v.kids.length = t.parts.length
   case neg =>
    have hl' : ((v.kids.length : Int) != (t.parts.length : Int)) = true := bne_iff_ne.2 (by omega)
    simp only [go_sem, b1, b2, b6, b3, hn', hl', hl, List.length_map, decide_false, Bool.and_false, Bool.false_and]
   have hl' : ((v.kids.length : Int) != (t.parts.length : Int)) = false := by rw [hl]; simp
   have hld : decide (v.kids.length = t.parts.length) = true := decide_eq_true hl
   rw [hld, Bool.true_and, Bool.true_and]
   simp only [go_sem, b1, b2, b6, b3, hn', hl', List.length_map]
   refine LoopK.intro (fun i : Nat => ⟨169, [(2, .pb 0 0), (3, .pb 1 0), (5, vi i)], [[vi t.kind, vi t.size, vs 0 t.ranks, .sl 0 4 (t.parts.map vT)], [vi v.n, .sl 0 2 (v.kids.map vV)]]⟩)
    (fun i => v.kids.length - i) (fun i => i <= v.kids.length /\ ∀ j, j < i -> oneT v.kids[j]! t.parts[j]! = true) 0 ⟨by omega, fun j hj => by omega⟩ ?_ ?_
   ·simp only [go_sem]
   rintro i ⟨hi, hb⟩
   by_cases h : i < v.kids.length
   ·have h2 : i < t.parts.length := by omega
    have hg := getvV h
    have hg2 := getvT h2
    have hw : IntKind.i64.wrap (i + 1) = i + 1 := wrap_in (by omega) (by omega)
    have hr := hrec _ (mem_bangI h) _ (mem_bangI h2)
    rw [vT_eq, vV_eq] at hr
    simp only [go_sem, h]
    refine DrawK.walk 12 mixed (by kernel_rfl) ?_
    simp only [go_sem, h, h2, hg, hg2]
    refine CallY.mk hr (by simp only [go_sem]) (by simp only [go_sem]) (.inl (by simp only [go_sem])) ?_
    cases hq : oneT v.kids[i]! t.parts[i]!
    ·simp only [go_sem, zipT_bad h h2 hq]
    ·simp only [go_sem, hw]
     refine roundK.intro (i + 1) ⟨by omega, fun j hj => ?_⟩ (by omega) ?_
     ·by_cases hji : j = i
      ·subst hji; exact hq
      ·exact hb j (by omega)
     ·simp only [go_sem]
   ·have ez : zipT v.kids t.parts = true := zipT_good hl fun j hj => hb j (by omega)
    simp only [go_sem, h, ez]
  have b3 : (t.kind == 3) = false := beq_eq_false_iff_ne.2 k3
  rw [if_neg k3, if_neg k6]
  cases hn : v.n == 0
  ·have hn' : (v.n != 0) = true := by unfold bne; rw [hn]; rfl
   simp only [go_sem, b1, b2, b6, b3, hn', Bool.false_and, ite_self]
  have hn' : (v.n != 0) = false := by unfold bne; rw [hn]; rfl
  by_cases h12 : v.kids.length <= 12
  case neg =>
   have h12' : (12 : Int) < (v.kids.length : Int) := by omega
   rw [decide_eq_false h12]
   simp only [go_sem, b1, b2, b6, b3, hn', h12', List.length_map, Bool.and_false, Bool.false_and, ite_self]
  have h12' : ¬ (12 : Int) < (v.kids.length : Int) := by omega
  rw [decide_eq_true h12, Bool.true_and, Bool.true_and]
  simp only [go_sem, b1, b2, b6, b3, hn', h12', List.length_map]
  by_cases k4 : t.kind = 4
  ·have b5 : (t.kind == 5) = false := beq_eq_false_iff_ne.2 (by omega)
   have b7 : (t.kind == 7) = false := beq_eq_false_iff_ne.2 (by omega)
   have hp1 := hf.one (.inl k4)
   have hp0 : 0 < t.parts.length := by omega
   have hg2 := getvT hp0
   rw [if_pos k4]
   refine LoopK.intro (fun i : Nat => ⟨169, [(2, .pb 0 0), (3, .pb 1 0), (6, vi i)], [[vi t.kind, vi t.size, vs 0 t.ranks, .sl 0 4 (t.parts.map vT)], [vi v.n, .sl 0 2 (v.kids.map vV)]]⟩)
    (fun i => v.kids.length - i) (fun i => i <= v.kids.length /\ ∀ j, j < i -> oneT v.kids[j]! t.parts[0]! = true) 0 ⟨by omega, fun j hj => by omega⟩ ?_ ?_
   ·simp only [go_sem]
   rintro i ⟨hi, hb⟩
   by_cases h : i < v.kids.length
   ·have hg := getvV h
    have hw : IntKind.i64.wrap (i + 1) = i + 1 := wrap_in (by omega) (by omega)
    have hr := hrec _ (mem_bangI h) _ (mem_bangI hp0)
    rw [vT_eq, vV_eq] at hr
    simp only [go_sem, h, b7]
    refine DrawK.walk 35 mixed (by kernel_rfl) ?_
    simp only [go_sem, h, hp0, hg, hg2]
    refine CallY.mk hr (by simp only [go_sem]) (by simp only [go_sem]) (.inl (by simp only [go_sem])) ?_
    cases hq : oneT v.kids[i]! t.parts[0]!
    ·simp only [go_sem, allT_bad h hq]
    ·simp only [go_sem, b5, hw]
     refine roundK.intro (i + 1) ⟨by omega, fun j hj => ?_⟩ (by omega) ?_
     ·by_cases hji : j = i
      ·subst hji; exact hq
      ·exact hb j (by omega)
     ·simp only [go_sem]
   ·have ez : allT v.kids t.parts[0]! = true := allT_good fun j hj => hb j (by omega)
    simp only [go_sem, h, ez]
  rw [if_neg k4]
  by_cases k5 : t.kind = 5
  ·have b5 : (t.kind == 5) = true := beq_iff_eq.2 k5
   have b7 : (t.kind == 7) = false := beq_eq_false_iff_ne.2 (by omega)
   have hp1 := hf.one (.inr k5)
   have hp0 : 0 < t.parts.length := by omega
   have hg2 := getvT hp0
   rw [if_pos k5]
   refine LoopK.intro (fun i : Nat => ⟨169, [(2, .pb 0 0), (3, .pb 1 0), (6, vi i)], [[vi t.kind, vi t.size, vs 0 t.ranks, .sl 0 4 (t.parts.map vT)], [vi v.n, .sl 0 2 (v.kids.map vV)]]⟩)
    (fun i => v.kids.length - i) (fun i => i <= v.kids.length /\ ∀ j, j < i -> oneT v.kids[j]! t.parts[0]! = true /\ (j ≠ 0 -> ¬ cmpV v.kids[j]! v.kids[j - 1]! < 0)) 0 ⟨by omega, fun j hj => by omega⟩ ?_ ?_
   ·simp only [go_sem]
   rintro i ⟨hi, hb⟩
   by_cases h : i < v.kids.length
   ·have hg := getvV h
    have hw : IntKind.i64.wrap (i + 1) = i + 1 := wrap_in (by omega) (by omega)
    have hr := hrec _ (mem_bangI h) _ (mem_bangI hp0)
    rw [vT_eq, vV_eq] at hr
    simp only [go_sem, h, b7]
    refine DrawK.walk 35 mixed (by kernel_rfl) ?_
    simp only [go_sem, h, hp0, hg, hg2]
    refine CallY.mk hr (by simp only [go_sem]) (by simp only [go_sem]) (.inl (by simp only [go_sem])) ?_
    cases hq : oneT v.kids[i]! t.parts[0]!
    ·simp only [go_sem, allT_bad h hq, Bool.false_and]
    by_cases h0 : 0 < i
    ·have h2 : i - 1 < v.kids.length := by omega
     have hg3 := getvV h2
     have hw2 : IntKind.i64.wrap ((i : Int) - 1) = ((i - 1 : Nat) : Int) := by rw [wrap_in (by omega) (by omega)]; omega
     have hc := con_rcompare _ v.kids[i - 1]! v.kids[i]! (Nat.le_refl _) (hv.kid (mem_bangI h2)) (hv.kid (mem_bangI h))
     rw [vV_eq v.kids[i - 1]!, vV_eq v.kids[i]!] at hc
     have han := cmpV_anti v.kids[i]! v.kids[i - 1]!
     simp only [go_sem, b5, h0, h, h2, hg, hg3, hw2]
     refine CallY.mk hc (by simp only [go_sem]) (by simp only [go_sem]) (.inl (by simp only [go_sem])) ?_
     by_cases hneg : cmpV v.kids[i]! v.kids[i - 1]! < 0
     ·have hneg' : 0 < cmpV v.kids[i - 1]! v.kids[i]! := by omega
      simp only [go_sem, hneg', sorted_bad h (by omega) hneg, Bool.and_false]
     ·have hneg' : ¬ 0 < cmpV v.kids[i - 1]! v.kids[i]! := by omega
      simp only [go_sem, hneg', hw]
      refine roundK.intro (i + 1) ⟨by omega, fun j hj => ?_⟩ (by omega) ?_
      ·by_cases hji : j = i
       ·subst hji; exact ⟨hq, fun _ => hneg⟩
       ·exact hb j (by omega)
      ·simp only [go_sem]
    ·have h0' : i = 0 := by omega
     simp only [go_sem, b5, h0, hw]
     refine roundK.intro (i + 1) ⟨by omega, fun j hj => ?_⟩ (by omega) ?_
     ·by_cases hji : j = i
      ·subst hji; exact ⟨hq, fun h => absurd h0' h⟩
      ·exact hb j (by omega)
     ·simp only [go_sem]
   ·have ez : allT v.kids t.parts[0]! = true := allT_good fun j hj => (hb j (by omega)).1
    have es : sortedB v.kids = true := sorted_good fun j hj hj0 => (hb j (by omega)).2 hj0
    simp only [go_sem, h, ez, es, Bool.true_and]
  rw [if_neg k5]
  have b7 : (t.kind == 7) = true := beq_iff_eq.2 (by omega)
  refine LoopK.intro (fun i : Nat => ⟨169, [(2, .pb 0 0), (3, .pb 1 0), (6, vi i)], [[vi t.kind, vi t.size, vs 0 t.ranks, .sl 0 4 (t.parts.map vT)], [vi v.n, .sl 0 2 (v.kids.map vV)]]⟩)
   (fun i => v.kids.length - i) (fun i => i <= v.kids.length /\ ∀ j, j < i -> (!labelB t.size v.kids[j]!) = false) 0 ⟨by omega, fun j hj => by omega⟩ ?_ ?_
  ·simp only [go_sem]
  rintro i ⟨hi, hb⟩
  by_cases h : i < v.kids.length
  ·have hg := getvV h
   have hw : IntKind.i64.wrap (i + 1) = i + 1 := wrap_in (by omega) (by omega)
   have hbad : labelB t.size v.kids[i]! = false -> (v.kids.any fun k => !labelB t.size k) = true := fun h3 => any_bad (p := fun k => !labelB t.size k) h (by rw [h3]; rfl)
   simp only [go_sem, h, b7]
   refine DrawK.walk 28 mixed (by kernel_rfl) ?_
   simp only [go_sem, h, hg]
   by_cases h1 : v.kids[i]!.n < 0
   ·rw [hbad (by unfold labelB; rw [decide_eq_false (by omega)]; rfl)]
    simp only [go_sem, h1, Bool.not_true]
   by_cases h2 : t.size <= v.kids[i]!.n
   ·rw [hbad (by unfold labelB; rw [decide_eq_false (show ¬ v.kids[i]!.n < t.size by omega), Bool.and_false]; rfl)]
    simp only [go_sem, h1, h2, h, hg, Bool.not_true]
   by_cases h3 : 0 < v.kids[i]!.kids.length
   ·rw [hbad (by unfold labelB; rw [show (v.kids[i]!.kids.length == 0) = false from beq_eq_false_iff_ne.2 (by omega), Bool.and_false])]
    simp only [go_sem, h1, h2, h3, h, hg, List.length_map, Bool.not_true]
   simp only [go_sem, h1, h2, h3, h, hg, List.length_map, hw]
   refine roundK.intro (i + 1) ⟨by omega, fun j hj => ?_⟩ (by omega) ?_
   ·by_cases hji : j = i
    ·subst hji
     unfold labelB
     rw [decide_eq_true (show 0 <= v.kids[j]!.n by omega), decide_eq_true (show v.kids[j]!.n < t.size by omega), show (v.kids[j]!.kids.length == 0) = true from beq_iff_eq.2 (by omega)]; rfl
    ·exact hb j (by omega)
   ·simp only [go_sem]
  ·have ez : (v.kids.any fun k => !labelB t.size k) = false := any_ok (p := fun k => !labelB t.size k) fun j hj => hb j (by omega)
   simp only [go_sem, h, ez, Bool.not_false]
theorem con_rtValid (t : TD) (v : CV) (ht : t.Ok) (hv : v.Ok) : Con Tryz.prog 39 [vT t, vV v] [] fun r _ => r = vb (validV t v) := by
 have e0 := vV_eq v
 have e1 := vT_eq t
 rw [e0, e1]
 refine Con.intro Tryz.func39 rfl Tryz.ntmps39 Tryz.results39 (by kernel_rfl) (by simp) 0 (by simp) ?_
 have hc := con_rtCheckG t ht
 unfold checkT at hc
 unfold validV
 simp only [go_sem]
 refine CallU.free hc (by simp only [go_sem]) (by simp only [go_sem, e1]) ?_
 rintro r bx rfl
 cases hr : rightT 8 t
 ·simp only [go_sem, Bool.false_eq_true, if_false, Bool.false_and]
 simp only [go_sem, if_true]
 refine CallU.free (con_rcount v 128 (by omega) (by omega) hv) (by simp only [go_sem]) (by simp only [go_sem, e0]) ?_
 rintro r bx rfl
 by_cases h : countV v 128 <= 128
 ·simp only [go_sem, h]
  refine CallU.free (con_rof _ 8 v t (Nat.le_refl _) hv ht hr) (by simp only [go_sem]) (by simp only [go_sem, e0, e1]) ?_
  rintro r bx rfl
  simp only [go_sem, h, decide_true, Bool.true_and]
 ·simp only [go_sem, h, decide_false, Bool.true_and, Bool.false_and]
theorem sized_levels {m : MD} (h : sizedB m = true) : m.kind = 4 -> 1 <= m.levels := fun hk => by
 unfold sizedB betweenB at h
 simp only [Bool.and_eq_true, decide_eq_true_eq] at h
 have h5 := h.1.2
 rw [hk] at h5
 have : lim 4 4 = 1 /\ lim 4 5 = 2 := by decide
 omega
theorem con_rCheckG (m : MD) (h : LenM m) : Con Tryz.prog 22 [vM m] [] fun r _ => r = vi (checkF m) := by
 have e1 : vM m = .ag [vi m.kind, vss m.states, vss m.places, vss m.letters, vs 0 m.ranks, vi m.levels, vi m.age, .sl 0 14 (m.rules.map vRule), vi m.start.n, .sl 0 2 (m.start.kids.map vV)] := rfl
 have hl := names_lens h
 rw [e1]
 refine Con.intro Tryz.func22 rfl Tryz.ntmps22 Tryz.results22 (by kernel_rfl) (by simp) 0 (by simp) ?_
 unfold checkF
 simp only [go_sem, vss]
 refine CallU.free (con_rbetween m.kind 1 6) (by simp only [go_sem]) (by simp only [go_sem]) ?_
 rintro r bx rfl
 cases h1 : betweenB m.kind 1 6
 ·simp only [go_sem, if_true]
 simp only [go_sem, if_false]
 refine CallU.free (con_rnumbersG m h1) (by simp only [go_sem]) (by simp only [go_sem, vss]) ?_
 rintro r bx rfl
 cases h2 : sizedB m
 ·simp only [go_sem, if_true]
 simp only [go_sem, if_false]
 refine CallU.free (con_rranksG m h.ranks) (by simp only [go_sem]) (by simp only [go_sem, vss]) ?_
 rintro r bx rfl
 cases h3 : rankedB m
 ·simp only [go_sem, if_true]
 have hz := sized_lim h2
 have hsz := sized_size h h2 h3
 have hRM : RightM m := ⟨hl.1, hl.2.1, hl.2.2.1, fun hk => by have := hz.2.2.1 hk; omega⟩
 simp only [go_sem, if_false]
 refine CallU.free (con_rnamesG m hz.1 h.names h.sizes) (by simp only [go_sem]) (by simp only [go_sem, vss]) ?_
 rintro r bx rfl
 cases h4 : namesB (namesOf m)
 ·simp only [go_sem, if_true]
 simp only [go_sem, if_false]
 refine LoopK.intro (fun i : Nat => ⟨52, [(1, .pb 0 0), (3, vi i)], [[vi m.kind, vss m.states, vss m.places, vss m.letters, vs 0 m.ranks, vi m.levels, vi m.age, .sl 0 14 (m.rules.map vRule), vi m.start.n, .sl 0 2 (m.start.kids.map vV)]]⟩)
  (fun i => m.rules.length - i) (fun i => i <= m.rules.length /\ ∀ j, j < i -> (!rightR m m.rules[j]!) = false) 0 ⟨by omega, fun j hj => by omega⟩ ?_ ?_
 ·simp only [go_sem, vss]
 rintro i ⟨hi, hj⟩
 by_cases hlt : i < m.rules.length
 ·have hg := getRule hlt
  have hw : IntKind.i64.wrap (i + 1) = i + 1 := wrap_in (by omega) (by omega)
  simp only [go_sem, hlt, vss]
  refine DrawK.walk 8 mixed (by kernel_rfl) ?_
  simp only [go_sem, hlt, hg]
  refine CallY.mk (con_rrightG m m.rules[i]! hRM (h.rules _ (mem_bangI hlt)) h1 h2) (by simp only [go_sem, vss]) (by simp only [go_sem]) (.inl (by simp only [go_sem])) ?_
  cases hq : rightR m m.rules[i]!
  ·rw [any_bad (p := fun r => !rightR m r) hlt (by rw [hq]; rfl)]
   simp only [go_sem, if_true]
  simp only [go_sem, hw]
  refine roundK.intro (i + 1) ⟨by omega, fun j hj2 => ?_⟩ (by omega) ?_
  ·by_cases e : j = i
   ·rw [e, hq]; rfl
   ·exact hj j (by omega)
  simp only [go_sem]
 ·have hok := any_ok (l := m.rules) (p := fun r => !rightR m r) fun j hj2 => hj j (by omega)
  rw [hok]
  unfold beginsF
  by_cases k6 : m.kind = 6
  ·have b6 : (m.kind == 6) = true := beq_iff_eq.2 k6
   rw [if_pos k6]
   cases hn : m.start.n == 0
   ·have hn' : (m.start.n != 0) = true := by unfold bne; rw [hn]; rfl
    simp only [go_sem, hlt, b6, hn', Bool.false_and, if_true, Bool.false_eq_true, if_false]
   have hn' : (m.start.n != 0) = false := by unfold bne; rw [hn]; rfl
   by_cases hk0 : 0 < m.start.kids.length
   ·have hb : (m.start.kids.length == 0) = false := beq_eq_false_iff_ne.2 (by omega)
    simp only [go_sem, hlt, b6, hn', hk0, hb, List.length_map, Bool.and_false, if_true, Bool.false_eq_true, if_false]
   ·have hb : (m.start.kids.length == 0) = true := beq_iff_eq.2 (by omega)
    simp only [go_sem, hlt, b6, hn', hk0, hb, List.length_map, Bool.and_self, Bool.true_eq_false, Bool.false_eq_true, if_false]
  have b6 : (m.kind == 6) = false := beq_eq_false_iff_ne.2 k6
  rw [if_neg k6]
  have ct := con_rtypeOfG m hsz.1 h1 (sized_levels h2)
  have cv := con_rtValid (typeM m) m.start (type_ok hsz.1 hsz.2) h.start
  have e2 := vT_eq (typeM m)
  rw [e2] at ct cv
  rw [vV_eq] at cv
  simp only [go_sem, hlt, b6, vss]
  refine DrawK.walk 6 mixed (by kernel_rfl) ?_
  simp only [go_sem]
  refine CallY.mk ct (by simp only [go_sem, vss]) (by simp only [go_sem]) (.inl (by simp only [go_sem])) ?_
  simp only [go_sem]
  refine CallY.mk cv (by simp only [go_sem]) (by simp only [go_sem]) (.inr (by simp only [go_sem])) ?_
  cases validV (typeM m) m.start
  ·simp only [go_sem, if_true, if_false]
  ·simp only [go_sem, Bool.true_eq_false, if_false]
def zeroT : TD := .mk 0 0 [] []
def typeF (m : MD) : TD := if checkF m = 0 then typeM m else zeroT
theorem con_rTypeG (m : MD) (h : LenM m) : Con Tryz.prog 26 [vM m] [] fun r _ => r = .tup [vT (typeF m), vi (checkF m)] := by
 have e1 : vM m = .ag [vi m.kind, vss m.states, vss m.places, vss m.letters, vs 0 m.ranks, vi m.levels, vi m.age, .sl 0 14 (m.rules.map vRule), vi m.start.n, .sl 0 2 (m.start.kids.map vV)] := rfl
 have cc := con_rCheckG m h
 have key : Con Tryz.prog 26 [vM m] [] fun r _ => r = .tup [if checkF m = 0 then vT (typeM m) else .ag [vi 0, vi 0, .nil, .nil], vi (checkF m)] := by
  rw [e1]
  refine Con.intro Tryz.func26 rfl Tryz.ntmps26 Tryz.results26 (by kernel_rfl) (by simp) 0 (by simp) ?_
  simp only [go_sem, vss]
  refine CallU.free cc (by simp only [go_sem]) (by simp only [go_sem, vss]) ?_
  rintro r bx rfl
  by_cases h0 : checkF m = 0
  ·have hz := checkF_zero h0
   have hsz := sized_size h hz.2.1 hz.2.2.1
   have ct := con_rtypeOfG m hsz.1 hz.1 (sized_levels hz.2.1)
   have e2 := vT_eq (typeM m)
   rw [e2] at ct
   rw [if_pos h0, h0]
   simp only [go_sem]
   refine CallU.free ct (by simp only [go_sem]) (by simp only [go_sem, vss]) ?_
   rintro r bx rfl
   simp only [go_sem, e2]
  ·have hn : (checkF m != 0) = true := bne_iff_ne.2 h0
   rw [if_neg h0]
   simp only [go_sem, hn]
 refine key.weak fun r b hr => ⟨_, rfl, ?_⟩
 subst hr
 unfold typeF
 by_cases h0 : checkF m = 0
 ·rw [if_pos h0, if_pos h0]; exact leV_refl _
 ·rw [if_neg h0, if_neg h0, vT_eq]
  show leV _ (.tup [.ag [vi 0, vi 0, vs 0 [], .sl 0 4 []], vi (checkF m)])
  exact leV_tup ⟨leV_ag ⟨leV_refl _, leV_refl _, leV_nil 0 1, leV_nil 0 4, trivial⟩, leV_refl _, trivial⟩
theorem con_rValidG (m : MD) (c : CV) (h : LenM m) (hc : c.Ok) : Con Tryz.prog 38 [vM m, vV c] [] fun r _ => r = vb (confG m c) := by
 have e1 : vM m = .ag [vi m.kind, vss m.states, vss m.places, vss m.letters, vs 0 m.ranks, vi m.levels, vi m.age, .sl 0 14 (m.rules.map vRule), vi m.start.n, .sl 0 2 (m.start.kids.map vV)] := rfl
 have e0 := vV_eq c
 have cc := con_rCheckG m h
 rw [e0, e1]
 refine Con.intro Tryz.func38 rfl Tryz.ntmps38 Tryz.results38 (by kernel_rfl) (by simp) 0 (by simp) ?_
 by_cases h0 : checkF m = 0
 ·have hz := checkF_zero h0
  have hsz := sized_size h hz.2.1 hz.2.2.1
  have ct := con_rtypeOfG m hsz.1 hz.1 (sized_levels hz.2.1)
  have cv := con_rtValid (typeM m) c (type_ok hsz.1 hsz.2) hc
  have e2 := vT_eq (typeM m)
  have hg : confG m c = validV (typeM m) c := by unfold confG; rw [decide_eq_true h0, Bool.true_and]
  rw [h0] at cc
  rw [e2] at ct cv
  rw [hg]
  rw [e0] at cv
  simp only [go_sem, vss]
  refine DrawK.walk 10 mixed (by kernel_rfl) ?_
  simp only [go_sem]
  refine CallY.mk cc (by simp only [go_sem, vss]) (by simp only [go_sem]) (.inl (by simp only [go_sem])) ?_
  simp only [go_sem]
  refine CallY.mk ct (by simp only [go_sem, vss]) (by simp only [go_sem]) (.inl (by simp only [go_sem])) ?_
  simp only [go_sem]
  refine CallY.mk cv (by simp only [go_sem]) (by simp only [go_sem]) (.inr (by simp only [go_sem])) ?_
  simp only [go_sem]
 ·have hg : confG m c = false := by unfold confG; rw [decide_eq_false h0, Bool.false_and]
  have hn := checkF_ne h0
  rw [hg]
  simp only [go_sem, vss]
  refine DrawK.walk 10 mixed (by kernel_rfl) ?_
  simp only [go_sem]
  refine CallY.mk cc (by simp only [go_sem, vss]) (by simp only [go_sem]) (.inl (by simp only [go_sem])) ?_
  simp only [go_sem, hn]
def zeroV : CV := .mk 0 []
def kidZ (n : Int) : AV := .ag [vi n, .sl 0 2 []]
attribute [go_sem] kidZ
def ownV (t : Nat) (c : CV) : AV := .ag [vi c.n, .sl t 2 (c.kids.map vV)]
attribute [go_sem] ownV
theorem ownV_zero (c : CV) : ownV 0 c = vV c := by rw [vV_eq]; rfl
theorem Con.froz {P : Program} {f : FuncId} {args : List AV} {c : CV} (h : Con P f args [] fun r _ => r = ownV 2 c) : Con P f args [] fun r _ => r = ownV 0 c :=
 (Con.freezeR (fun _ => true) h).weak fun r b ⟨r0, h0, h1⟩ => by
  subst h0; subst h1
  exact ⟨_, rfl, leV_refl _⟩
inductive CV.Slim : CV -> Prop
 | mk (n : Int) (k : List CV) : k.length <= 1000000 -> (∀ x ∈ k, CV.Slim x) -> CV.Slim (.mk n k)
theorem CV.Slim.len {a : CV} (h : a.Slim) : a.kids.length <= 1000000 := by cases h; assumption
theorem CV.Slim.kid {a : CV} (h : a.Slim) {x : CV} (hx : x ∈ a.kids) : x.Slim := by cases h with | mk n k _ h2 => exact h2 x hx
theorem CV.Slim.leaf (n : Int) : (CV.mk n []).Slim := .mk n [] (by simp) (fun x hx => by cases hx)
theorem con_rcopyV (c : CV) (hc : c.Slim) : Con Tryz.prog 93 [vV c] [] fun r _ => r = ownV 2 c := by
 have key : ∀ (N : Nat) (c : CV), SizeOf.sizeOf c <= N -> c.Slim -> Con Tryz.prog 93 [vV c] [] fun r _ => r = ownV 2 c := by
  intro N
  induction N with
  | zero => intro v hs; cases v; rw [CV.mk.sizeOf_spec] at hs; omega
  | succ N ih =>
   intro v hs hv
   have hlen := hv.len
   rw [vV_eq]
   refine Con.intro Tryz.func93 rfl Tryz.ntmps93 Tryz.results93 (by kernel_rfl) (by simp) 0 (by simp) ?_
   simp only [go_sem]
   refine LoopK.intro (fun i : Nat => ⟨27, [(1, .pb 0 0), (2, .pb 1 0), (3, .pb 2 0), (4, vi i)], [[vi v.n, .sl 0 2 (v.kids.map vV)], [vi 0, .nil], [vi v.n, .sl 1600 2 ((v.kids.take i).map vV)]]⟩)
    (fun i => v.kids.length - i) (fun i => i <= v.kids.length) 0 (by omega) ?_ ?_
   ·simp only [go_sem, List.take_zero, List.map_nil]
    all_goals exact ⟨leV_refl _, leV_nil _ _, trivial⟩
   rintro i hi
   by_cases h : i < v.kids.length
   ·have hg := getvV h
    have hw : IntKind.i64.wrap (i + 1) = i + 1 := wrap_in (by omega) (by omega)
    have hmem : v.kids[i]! ∈ v.kids := mem_bangI h
    have hsz := kid_size hmem
    have e : (v.kids.take (i + 1)).map vV = (v.kids.take i).map vV ++ [.ag [vi v.kids[i]!.n, .sl 0 2 (v.kids[i]!.kids.map vV)]] := by
     rw [<- vV_eq, List.take_add_one, List.getElem?_eq_getElem h, getElem!_pos v.kids i h, List.map_append]; rfl
    simp only [go_sem, h]
    refine DrawK.walk 9 mixed (by kernel_rfl) ?_
    simp only [go_sem, h, hg]
    refine CallY.mk (Con.froz (ih v.kids[i]! (by omega) (hv.kid hmem))) (by simp only [go_sem, vV_eq]) (by simp only [go_sem]) (.inl (by simp only [go_sem])) ?_
    simp only [go_sem, hw]
    refine ⟨by simp only [roomFor, List.length_take]; omega, ?_⟩
    refine roundK.intro (i + 1) (by omega) (by omega) ?_
    simp only [go_sem, e]
   ·have e : v.kids.take i = v.kids := List.take_of_length_le (by omega)
    simp only [go_sem, h, e]
 exact key _ c (Nat.le_refl _) hc
def vrow (l : List CV) : AV := .sl 0 2 (l.map vV)
theorem getRowV {ls : List (List CV)} {i : Nat} (h : i < ls.length) : (ls.map vrow)[i]? = some (.sl 0 2 (ls[i]!.map vV)) := by
 rw [List.getElem?_map, List.getElem?_eq_getElem h, getElem!_pos ls i h, Option.map_some]; rfl
theorem con_growVal (n : Nat) (h1 : 1 <= n) (h2 : n <= 1000000) : Con Tryz.prog 182 [.nil, vi n] [] fun r _ => r = .sl 2 2 [] := by
 refine Con.intro Tryz.func182 rfl Tryz.ntmps182 Tryz.results182 (by kernel_rfl) (by simp) 0 (by simp) ?_
 have a1 : ¬ ((n : Int) < 0) := by omega
 have a2 : (0 : Int) < (n : Int) := by omega
 have hw : IntKind.i64.wrap ((n : Int) - 0) = n := by rw [wrap_in (by omega) (by omega)]; omega
 have hz : IntKind.i64.wrap 0 = 0 := wrap_in (by omega) (by omega)
 simp only [go_sem, a1, a2, hz, hw]
 omega
theorem con_concatVal (ls : List (List CV)) (h1 : 1 <= ls.flatten.length) (h2 : ls.flatten.length <= 1000000) (hl : ls.length <= 1000000) : Con Tryz.prog 146 [.sl 0 1 (ls.map vrow)] [] fun r _ => r = .sl 2 2 (ls.flatten.map vV) := by
 refine Con.intro Tryz.func146 rfl Tryz.ntmps146 Tryz.results146 (by kernel_rfl) (by simp) 0 (by simp) ?_
 simp only [go_sem]
 refine LoopK.intro (fun i : Nat => ⟨36, [(0, .sl 0 1 (ls.map vrow)), (2, .nil), (3, vi (sumL ls i)), (9, .sl 0 1 (ls.map vrow)), (10, vi ls.length), (11, vi i)], []⟩)
  (fun i => ls.length - i) (fun i => i <= ls.length) 0 (by omega) ?_ ?_
 ·simp only [go_sem, sumL_zero]
  all_goals exact leV_refl _
 rintro i hi
 have hm := sumL_mono (ls := ls) (i := i)
 by_cases h : i < ls.length
 ·have hg := getRowV h
  have hw : IntKind.i64.wrap (i + 1) = i + 1 := wrap_in (by omega) (by omega)
  have hm2 := sumL_mono (ls := ls) (i := i + 1)
  have hs := sumL_succ h
  have hw2 : IntKind.i64.wrap ((sumL ls i : Int) + (ls[i]!.length : Int)) = (sumL ls (i + 1) : Int) := by rw [wrap_in (by omega) (by omega)]; omega
  have a1 : ¬ ((sumL ls (i + 1) : Int) < 0) := by omega
  simp only [go_sem, h, hg, hw, hw2, a1]
  refine roundK.intro (i + 1) (by omega) (by omega) ?_
  simp only [go_sem]
 ·obtain rfl : i = ls.length := by omega
  have e : sumL ls ls.length = ls.flatten.length := by unfold sumL; rw [List.take_length, <- List.length_flatten]
  simp only [go_sem, h, e]
  refine CallU.free (con_growVal ls.flatten.length h1 h2) (by simp only [go_sem]) (by simp only [go_sem]) ?_
  rintro r bx rfl
  simp only [go_sem]
  refine LoopK.intro (fun i : Nat => ⟨36, [(0, .sl 0 1 (ls.map vrow)), (2, .nil), (6, .sl 1602 2 (((ls.take i).flatten).map vV)), (25, .sl 0 1 (ls.map vrow)), (26, vi ls.length), (27, vi i)], []⟩)
   (fun i => ls.length - i) (fun i => i <= ls.length) 0 (by omega) ?_ ?_
  ·simp only [go_sem, List.take_zero, List.flatten_nil, List.map_nil]
   all_goals exact leV_refl _
  rintro i hi
  by_cases h : i < ls.length
  ·have hg := getRowV h
   have hw : IntKind.i64.wrap (i + 1) = i + 1 := wrap_in (by omega) (by omega)
   have hm2 := sumL_mono (ls := ls) (i := i + 1)
   have hs := sumL_succ h
   have hf := flat_succ h
   have el : (ls.take i).flatten.length = sumL ls i := by unfold sumL; rw [List.length_flatten]
   simp only [go_sem, h, hg, hw]
   refine ⟨by simp only [roomFor, el]; omega, ?_⟩
   refine roundK.intro (i + 1) (by omega) (by omega) ?_
   simp only [go_sem, hf, List.map_append]
  ·obtain rfl : i = ls.length := by omega
   simp only [go_sem, h, List.take_length]
theorem con_oCopies (l : List CV) (hl : l.length <= 1000000) (hk : ∀ x ∈ l, Con Tryz.prog 183 [vV x] [] fun r _ => r = ownV 2 x) : Con Tryz.prog 147 [vrow l] [] fun r _ => r = .sl 2 2 (l.map vV) := by
 unfold vrow
 refine Con.intro Tryz.func147 rfl Tryz.ntmps147 Tryz.results147 (by kernel_rfl) (by simp) 0 (by simp) ?_
 simp only [go_sem]
 refine LoopK.intro (fun i : Nat => ⟨19, [(3, .sl 1088 2 ((l.take i).map vV)), (6, .sl 0 2 (l.map vV)), (7, vi l.length), (8, vi i)], Rk 2 i⟩)
  (fun i => l.length - i) (fun i => i <= l.length) 0 (by omega) ?_ ?_
 ·simp only [go_sem, List.take_zero, List.map_nil]
  all_goals exact leB_self []
 rintro i hi
 have hB := Rk_len 2 i
 have n0 := fun L : List (List AV) => app_at0 (L := L) hB
 have s0 := fun (L : List (List AV)) z => app_set0 (L := L) (z := z) hB
 by_cases h : i < l.length
 ·have hg := getvV h
  have hw : IntKind.i64.wrap (i + 1) = i + 1 := wrap_in (by omega) (by omega)
  have hc := Con.froz (hk _ (mem_bangI h))
  rw [vV_eq] at hc
  have e : (l.take (i + 1)).map vV = (l.take i).map vV ++ [.ag [vi l[i]!.n, .sl 0 2 (l[i]!.kids.map vV)]] := by
   rw [<- vV_eq, List.take_add_one, List.getElem?_eq_getElem h, getElem!_pos l i h, List.map_append]; rfl
  simp only [go_sem, h, hg, hB, n0, s0]
  refine CallU.free hc (by simp only [go_sem]) (by simp only [go_sem]) ?_
  rintro r bx rfl
  simp only [go_sem, hw]
  refine ⟨by simp only [roomFor, List.length_take]; omega, ?_⟩
  refine roundK.intro (i + 1) (by omega) (by omega) ?_
  simp only [go_sem, e, Rk_succ]
  all_goals exact leB_RkA ⟨leC_any _ 2 rfl, trivial⟩
 ·have e : l.take i = l := List.take_of_length_le (by omega)
  simp only [go_sem, h, e]
theorem con_oCopy : ∀ (N : Nat) (v : CV), SizeOf.sizeOf v <= N -> v.Slim -> Con Tryz.prog 183 [vV v] [] fun r _ => r = ownV 2 v := by
 intro N
 induction N with
 | zero => intro v hs; cases v; rw [CV.mk.sizeOf_spec] at hs; omega
 | succ N ih =>
  intro v hs hv
  have hc := con_oCopies v.kids hv.len fun x hx => ih x (by have := kid_size hx; omega) (hv.kid hx)
  unfold vrow at hc
  rw [vV_eq]
  refine Con.intro Tryz.func183 rfl Tryz.ntmps183 Tryz.results183 (by kernel_rfl) (by simp) 0 (by simp) ?_
  simp only [go_sem]
  refine DrawK.walk 6 mixed (by kernel_rfl) ?_
  simp only [go_sem]
  refine CallY.mk hc (by simp only [go_sem]) (by simp only [go_sem]) (.inl (by simp only [go_sem])) ?_
  simp only [go_sem]
theorem con_oCopiesG (l : List CV) (hl : l.length <= 1000000) (hs : ∀ x ∈ l, x.Slim) : Con Tryz.prog 147 [vrow l] [] fun r _ => r = .sl 2 2 (l.map vV) :=
 con_oCopies l hl fun x hx => con_oCopy _ x (Nat.le_refl _) (hs x hx)
def withC (s : Int) (l : List CV) : CV := .mk 0 (.mk s [] :: l)
theorem con_mWith (s : Int) (l : List CV) (hl : l.length <= 1000) (hs : ∀ x ∈ l, x.Slim) : Con Tryz.prog 92 [vi s, vrow l] [] fun r _ => r = ownV 2 (withC s l) := by
 have hc := con_oCopiesG l (by omega) hs
 have hcat := con_concatVal [[.mk s []], l] (by simp) (by simp; omega) (by simp)
 have e0 : [[CV.mk s []], l].flatten = .mk s [] :: l := by simp
 rw [e0] at hcat
 unfold vrow at hc ⊢
 refine Con.intro Tryz.func92 rfl Tryz.ntmps92 Tryz.results92 (by kernel_rfl) (by simp) 0 (by simp) ?_
 simp only [go_sem]
 refine CallU.free hc (by simp only [go_sem]) (by simp only [go_sem]) ?_
 rintro r bx rfl
 simp only [go_sem]
 have hle : leV (.sl 0 1 [.sl 0 2 [kidN s], vrow l]) (.sl 0 1 ([[CV.mk s []], l].map vrow)) := by
  refine leV_slE rfl (fun y hy => by
   obtain ⟨z, _, rfl⟩ := List.mem_map.1 hy
   rfl) ?_
  refine PW.cons ?_ (PW.cons (Sub.refl _) (PW.nil _))
  exact Sub.slE rfl (fun y hy => by
   obtain ⟨z, _, rfl⟩ := List.mem_map.1 hy
   rw [vV_eq]; rfl) (by
    show PW Sub (flat ([s].map kidN)) (flat (([s].map fun n => CV.mk n []).map vV))
    exact kids_pw [s])
 refine CallU.freeze (hcat.leA (args' := [.sl 0 1 [.sl 0 2 [kidN s], vrow l]]) ⟨hle, trivial⟩) (by simp only [go_sem]) (by simp only [go_sem, vrow]) ?_
 rintro r bx rfl
 simp only [go_sem, List.map_cons, vV_eq]
 show _ = AV.ag [vi 0, .sl 2 2 (vV (CV.mk s []) :: l.map vV)]
 rw [vV_eq (CV.mk s [])]
 rfl
end Go.AM
namespace Go.AM
theorem mod_set {α : Type} {f : α -> α} : ∀ {L : List α} {i : Nat} {a : α}, L[i]? = some a -> L.modify i f = L.set i (f a)
 | [], _, _, h => by simp at h
 | x :: L, 0, a, h => by
  have : x = a := by simpa using h
  subst this; rfl
 | x :: L, i + 1, a, h => by
  have := mod_set (f := f) (L := L) (i := i) (a := a) (by simpa using h)
  rw [List.modify_succ_cons, this]; rfl
end Go.AM
