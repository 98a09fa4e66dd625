/- AmQ AmS Ty AmU AmT Am2 -/
import Derived.Test.YtebcmlhgfmkpnaaGreatg6
import Derived.Orders
import Derived.Test.YtebcmlhgfmkpnaaGreatProg
import Derived.ProofKit
import Derived.Deep.Slices
import Derived.OpenShut
namespace Go.AM
open Go.RowKit
section
variable {P : Program}
def edges (o : Oper) : List Nat := (o.after.toList.filter (Region.binds .any)).map (·.on)
def reach (ops : Array Oper) : Nat -> Nat -> Nat -> Bool
 | 0, _, _ => false
 | f + 1, i, j => match ops[i]? with
  | none => false
  | some o => (edges o).any (fun k => k == j) || (edges o).any (fun k => reach ops f k j)
def slotsOf (o : Oper) : List Nat := o.op.operands.toList.filterMap fun | .tmp t => some t | _ => none
def guardS (ops : Array Oper) (o : Oper) : List Nat := match o.guard with
 | none => []
 | some (j, _) => match guardSlot ops j with
  | none => []
  | some g => [g]
def slotsG (ops : Array Oper) (o : Oper) : List Nat := guardS ops o ++ slotsOf o
def headOkG (ops : Array Oper) (m i : Nat) (o : Oper) : Bool :=
 (edges o).all (fun k => decide (k < i)) &&
 match o.dst with
 | none => false
 | some d => !(slotsG ops o).contains d && (List.range m).all fun j => j == i || match ops[j]? with
   | none => false
   | some p => match p.dst with
    | none => false
    | some s => s != d && (!(slotsG ops o).contains s || (if j < i then reach ops ops.size i j else reach ops ops.size j i))
def tailOk (ops : Array Oper) (i : Nat) (o : Oper) : Bool :=
 (edges o).all (fun k => decide (k < i)) && (List.range i).all fun j => reach ops ops.size i j
def drawOk (ops : Array Oper) (m : Nat) : Bool :=
 decide (m <= ops.size) && (List.range ops.size).all fun i => match ops[i]? with
  | none => false
  | some o => if i < m then headOkG ops m i o else tailOk ops i o
def Closed (ops : Array Oper) (L : Nat -> Bool) : Prop := ∀ i o, ops[i]? = some o -> L i = true -> ∀ k ∈ edges o, L k = true
theorem reach_listed {ops : Array Oper} {L : Nat -> Bool} (hc : Closed ops L) : ∀ (f i j : Nat) o, ops[i]? = some o -> (∀ k ∈ edges o, L k = true) -> reach ops f i j = true -> L j = true
 | 0, _, _, _, _, _, h => by simp [reach] at h
 | f + 1, i, j, o, ho, hl, h => by
  simp only [reach, ho, Bool.or_eq_true, List.any_eq_true, beq_iff_eq] at h
  rcases h with ⟨k, hk, rfl⟩ | ⟨k, hk, hr⟩
  ·exact hl k hk
  ·cases hok : ops[k]? with
   | none => cases f <;> simp [reach, hok] at hr
   | some ok => exact reach_listed hc f k j ok hok (fun k' hk' => hc k ok hok (hl k hk) k' hk') hr
def creates (op : Op) : Bool :=
 match op with
 | .call { callee := .value _, .. } => true
 | op => needsFresh op
def StepOk (P : Program) (o : Oper) (d : Nat) (ρ : Operand -> AV) (bx : List (List AV)) (y : AV) : Prop :=
 ∀ (gh : Gh) (G : Nat -> Status) (a : Act) (w : World), Good G w -> BRel gh G w bx -> (creates o.op = true -> Fresh d G) -> (∀ x ∈ o.op.operands, VRel G w (ρ x) (a.eval x)) ->
  ∀ (K' : Act -> World -> Prop) (Q : Exit -> Act -> World -> Prop), (∀ v w' G', VRel G' w' y v -> Ext G w G' w' -> Good G' w' -> NewTags d G G' -> K' (a.put o.dst v) w') -> o.wp P a w K' Q
def CallY (P : Program) (f : FuncId) (args : List AV) (d : Nat) (σ : St) (K : St -> Prop) : Prop :=
 ∃ r, Con P f (args.map AV.view) [] (fun r' _ => r' = r) /\ r.allLeaf lt64 = true /\ (tagss args = [] \/ r.allLeaf flatLeaf = true) /\ K (σ.put (some d) (r.shift (64 * (d + 1))))
def headOp (P : Program) (o : Oper) (σ : St) (K : St -> Prop) : Prop :=
 match o.dst with
 | none => False
 | some d => d < σ.n /\ match o.op with
  | .call { callee := .value f, args, argTypes := _ } => match σ.ev f with
   | .fn fid caps => CallY P fid (args.toList.map σ.ev ++ caps) d σ K
   | _ => False
  | op => evOp P d σ.ev σ.boxes o.type op fun r => K (σ.put (some d) r)
def knownB (want : Bool) : AV -> Option Bool
 | .sc (.bool c) => some c
 | .sc (.tuple _) => some (!want)
 | _ => none
def headG (P : Program) (ops : Array Oper) (o : Oper) (σ : St) (K : St -> Prop) : Prop :=
 match o.guard with
 | none => headOp P o σ K
 | some (j, want) => ∃ g c, guardSlot ops j = some g /\ knownB want (σ.get g) = some c /\ ((c == want) = true -> headOp P o σ K) /\ ((c == want) = false -> ∃ d, o.dst = some d /\ d < σ.n /\ K (σ.put (some d) (.sc undef)))
def headA (P : Program) (ops : Array Oper) : List Oper -> St -> (St -> Prop) -> Prop
 | [], σ, K => K σ
 | o :: r, σ, K => headG P ops o σ fun σ' => headA P ops r σ' K
theorem back_ext {d : Nat} {G G' : Nat -> Status} {w w' : World} (h : Good G w) (hf : Fresh d G) (hG : Good G' w') (e1 : w'.os = w.os) (e2 : w'.tape = w.tape) (e3 : w'.output = w.output) (e4 : w.heap.size <= w'.heap.size) (e6 : ∀ b, b < w.heap.size -> w'.heap[b]? = w.heap[b]?) :
  Ext G w (backG d w.heap.size G G') w' /\ Good (backG d w.heap.size G G') w' /\ NewTags d G (backG d w.heap.size G G') := by
 have htag : ∀ b t, backG d w.heap.size G G' b = .tag t -> (b < w.heap.size /\ G b = .tag t) \/ (¬ b < w.heap.size /\ root t / 64 = d + 1 /\ G' b = .tag (t - 64 * (d + 1))) := by
  intro b t hb
  unfold backG at hb
  split at hb
  ·exact .inl ⟨by assumption, hb⟩
  ·rename_i hn
   split at hb <;> try (cases hb; done)
   rename_i t' ht'
   split at hb
   ·cases hb; exact .inr ⟨hn, by have := hf.1; unfold root at *; omega, by rw [ht']; congr 1; omega⟩
   ·cases hb
 have hbox : ∀ b i, backG d w.heap.size G G' b = .box i -> G b = .box i := by
  intro b i hb
  unfold backG at hb
  split at hb
  ·exact hb
  ·split at hb <;> first | (cases hb; done) | (split at hb <;> cases hb)
 refine ⟨⟨e1, e2, e3, e4, fun b hb => by simp [backG, hb], e6⟩, ⟨fun b hb => ?_, fun b b' t h1 h2 => ?_, fun b b' i h1 h2 => h.boxes b b' i (hbox b i h1) (hbox b' i h2)⟩, ⟨fun b t hb => ?_, hbox⟩⟩
 ·unfold backG at hb
  split at hb
  ·omega
  ·exact hG.lt b fun h' => hb (by simp [h'])
 ·rcases htag b t h1 with ⟨_, h1⟩ | ⟨_, h1, g1⟩ <;> rcases htag b' t h2 with ⟨_, h2⟩ | ⟨_, h2, g2⟩
  ·exact h.tags b b' t h1 h2
  ·exact absurd h2 (hf.2 b t h1)
  ·exact absurd h1 (hf.2 b' t h2)
  ·exact hG.tags b b' _ g1 g2
 ·rcases htag b t hb with ⟨_, h⟩ | ⟨_, h, _⟩
  ·exact .inl h
  ·exact .inr h
theorem headOp_sound {o : Oper} {σ : St} {K : St -> Prop} (h : headOp P o σ K) : ∃ d y, o.dst = some d /\ d < σ.n /\ K (σ.put (some d) y) /\ StepOk P o d σ.ev σ.boxes y := by
 unfold headOp at h
 split at h
 ·exact h.elim
 ·rename_i d hd
  obtain ⟨hdn, h⟩ := h
  split at h
  ·rename_i f args As ho
   split at h
   ·rename_i fid caps hf
    obtain ⟨r, ⟨⟨fn, hfn, hname, hbody⟩, hcon⟩, hlt, hts, hk⟩ := h
    refine ⟨d, _, hd, hdn, hk, fun gh G a w hg hb hfr hv K' Q hK => ?_⟩
    have hfr := hfr (by simp [creates, ho])
    have hff := hv f (by simp [ho, Op.operands, Call.operands])
    rw [hf] at hff
    obtain ⟨vs, hfe, hcaps⟩ := hff.fn_inv
    have hgv := hg.view (ts := tagss (args.toList.map σ.ev ++ caps))
    have hva0 : PW (VRel G w) (args.toList.map σ.ev ++ caps) (args.map a.eval ++ vs).toList := by
     rw [Array.toList_append, Array.toList_map]
     refine PW.append ⟨by simp, fun j x u hx hu => ?_⟩ (hcaps.mono fun x y _ hr => .froz hr)
     simp only [List.getElem?_map] at hx hu
     cases hj : args.toList[j]? with
     | none => simp [hj] at hx
     | some c =>
      simp [hj] at hx hu; subst hx; subst hu
      have hc : c ∈ args.toList := List.mem_of_getElem? hj
      exact hv c (by simp [ho, Op.operands, Call.operands]; exact .inr (by simpa using hc))
    have hva : PW (VRel (viewG (tagss (args.toList.map σ.ev ++ caps)) G) w) ((args.toList.map σ.ev ++ caps).map AV.view) (args.map a.eval ++ vs).toList := by
     refine ⟨by simpa using hva0.1, fun j x u hx hu => ?_⟩
     rw [List.getElem?_map] at hx
     cases hj : (args.toList.map σ.ev ++ caps)[j]? with
     | none => simp [hj] at hx
     | some y =>
      simp [hj] at hx; subst hx
      exact (hva0.2 j y u hj hu).view (tags_in _ y (tagss_mem (List.mem_of_getElem? hj)))
    have hrun : (execOp a.eval o).run P w = .ok (.enter fid (args.map a.eval ++ vs)) w := by
     have hname' : ¬ fn.name = "runtime.NumGoroutine" := by simpa using hname
     have hbody' : ¬ fn.body = none := by intro h; rw [h] at hbody; simp at hbody
     simp [execOp, ho, resolve, hfe, Deferred.ofValue, invoke, callFunc, hfn, hname', hbody']
    unfold Oper.wp
    rw [hrun, Oper.upon_enter]
    refine (hcon _ w _ hgv.1 hgv.2.1 (fun b i hb => absurd hb (hgv.2.2 b i)) ⟨fun i vs hv => by simp [noGh] at hv, fun i cs hi => by simp at hi⟩ hva).mono ?_
    rintro e w' ⟨v, r', bx', G', rfl, rfl, hr, hG', _, _, e1, e2, e3, e4, e5, e6⟩
    have e6' : ∀ b, b < w.heap.size -> w'.heap[b]? = w.heap[b]? := fun b hb => e6 b hb (fun i => hgv.2.2 b i)
    obtain ⟨k1, k2, k3⟩ := back_ext (d := d) hg hfr hG' e1 e2 e3 e4 e6'
    have hback := hr.back (d := d) (G := G) (Gc := viewG (tagss (args.toList.map σ.ev ++ caps)) G) (w := w) hlt hfr.1 e5 hgv.2.1 (by
     rcases hts with hts | hts
     ·refine .inl fun b _ hb => ?_
      unfold Stable viewG at *
      split at hb
      ·assumption
      ·rw [hts] at hb; simp at hb
      ·cases hb
     ·exact .inr hts)
    exact hK v w' _ hback k1 k2 k3
   ·exact h.elim
  ·rename_i hnc
   obtain ⟨r, hk, hr⟩ := evOp_sound h
   refine ⟨d, r, hd, hdn, hk, fun gh G a w hg hb hfr hv K' Q hK => ?_⟩
   obtain ⟨v, w', G', g1, g2, g3, g4, g5⟩ := hr o gh G w a.eval rfl hg (fun h => hfr (by unfold creates; split; rfl; exact h)) hb hv
   unfold Oper.wp
   rw [g1, Oper.upon_value]
   exact hK v w' G' g2 g3 g4 g5
def StepG (P : Program) (ops : Array Oper) (o : Oper) (d : Nat) (σ : St) (bx : List (List AV)) (y : AV) : Prop :=
 (o.guard = none /\ StepOk P o d σ.ev bx y) \/ (∃ j want g c, o.guard = some (j, want) /\ guardSlot ops j = some g /\ σ.get g = .sc (.bool c) /\ ((c = want /\ StepOk P o d σ.ev bx y) \/ (c ≠ want /\ y = .sc undef))) \/ ∃ j want g vs, o.guard = some (j, want) /\ guardSlot ops j = some g /\ σ.get g = .sc (.tuple vs) /\ y = .sc undef
theorem headG_sound {ops : Array Oper} {o : Oper} {σ : St} {K : St -> Prop} (h : headG P ops o σ K) : ∃ d y, o.dst = some d /\ d < σ.n /\ K (σ.put (some d) y) /\ StepG P ops o d σ σ.boxes y := by
 unfold headG at h
 split at h
 ·rename_i hg
  obtain ⟨d, y, h1, h2, h3, h4⟩ := headOp_sound h
  exact ⟨d, y, h1, h2, h3, .inl ⟨hg, h4⟩⟩
 ·rename_i j want hg
  obtain ⟨g, c, e1, e2, e3, e4⟩ := h
  have e2' : σ.get g = .sc (.bool c) \/ ((∃ vs, σ.get g = .sc (.tuple vs)) /\ c = !want) := by
   revert e2; unfold knownB; split
   ·rename_i h; intro e; cases e; exact .inl h
   ·rename_i h; intro e; cases e; exact .inr ⟨⟨_, h⟩, rfl⟩
   ·intro e; cases e
  rcases e2' with e2' | ⟨⟨vs, e2'⟩, rfl⟩
  ·by_cases hc : c = want
   ·obtain ⟨d, y, h1, h2, h3, h4⟩ := headOp_sound (e3 (by simpa using hc))
    exact ⟨d, y, h1, h2, h3, .inr (.inl ⟨j, want, g, c, hg, e1, e2', .inl ⟨hc, h4⟩⟩)⟩
   ·obtain ⟨d, h1, h2, h3⟩ := e4 (by simpa using hc)
    exact ⟨d, _, h1, h2, h3, .inr (.inl ⟨j, want, g, c, hg, e1, e2', .inr ⟨hc, rfl⟩⟩)⟩
  ·obtain ⟨d, h1, h2, h3⟩ := e4 (by cases want <;> rfl)
   exact ⟨d, _, h1, h2, h3, .inr (.inr ⟨j, want, g, vs, hg, e1, e2', rfl⟩)⟩
def puts (σ : St) : List (Nat × AV) -> St
 | [] => σ
 | p :: r => puts (σ.put (some p.1) p.2) r
theorem headA_vals {ops : Array Oper} : ∀ (l : List Oper) (σ : St) (K : St -> Prop), headA P ops l σ K -> ∃ vs : List (Nat × AV), vs.length = l.length /\ K (puts σ vs) /\
  ∀ i o, l[i]? = some o -> ∃ d y, vs[i]? = some (d, y) /\ o.dst = some d /\ d < σ.n /\ StepG P ops o d (puts σ (vs.take i)) σ.boxes y
 | [], σ, K, h => ⟨[], rfl, h, fun i o hi => by simp at hi⟩
 | o :: l, σ, K, h => by
  obtain ⟨d, y, h1, h2, h3, h4⟩ := headG_sound h
  obtain ⟨vs, g1, g2, g3⟩ := headA_vals l _ K h3
  refine ⟨(d, y) :: vs, by simp [g1], g2, fun i o' hi => ?_⟩
  cases i with
  | zero => simp at hi; subst hi; exact ⟨d, y, rfl, h1, h2, h4⟩
  | succ i =>
   obtain ⟨d', y', k1, k2, k3, k4⟩ := g3 i o' (by simpa using hi)
   rw [put_n] at k3; rw [put_boxes] at k4
   exact ⟨d', y', by simpa using k1, k2, k3, k4⟩
structure At (vs : List (Nat × AV)) (L : Nat -> Bool) (σ τ : St) : Prop where
 n : τ.n = σ.n
 boxes : τ.boxes = σ.boxes
 dst : ∀ (i d : Nat) (y : AV), vs[i]? = some (d, y) -> τ.get d = if L i = true then y else σ.get d
 rest : ∀ s : Nat, (∀ (i d : Nat) (y : AV), vs[i]? = some (d, y) -> d ≠ s) -> τ.get s = σ.get s
def Apart (vs : List (Nat × AV)) : Prop := ∀ (i j d : Nat) (y : AV) (d' : Nat) (y' : AV), vs[i]? = some (d, y) -> vs[j]? = some (d', y') -> i ≠ j -> d ≠ d'
theorem get_put {σ : St} {d s : Nat} {x : AV} : (σ.put (some d) x).get s = if d = s then x else σ.get s := by simp only [St.put, St.get, lookT_put]
theorem puts_at : ∀ (k : Nat) (vs : List (Nat × AV)) (σ : St), Apart vs -> At vs (fun i => decide (i < k)) σ (puts σ (vs.take k))
 | 0, vs, σ, _ => ⟨rfl, rfl, fun i d y _ => by simp [puts], fun s _ => by simp [puts]⟩
 | k + 1, [], σ, _ => ⟨rfl, rfl, fun i d y h => by simp at h, fun s _ => by simp [puts]⟩
 | k + 1, p :: vs, σ, ha => by
  have ha' : Apart vs := fun i j d y d' y' h1 h2 hij => ha (i + 1) (j + 1) d y d' y' (by simpa using h1) (by simpa using h2) (by omega)
  have ih := puts_at k vs (σ.put (some p.1) p.2) ha'
  simp only [List.take_succ_cons, puts]
  refine ⟨by rw [ih.n, put_n], by rw [ih.boxes, put_boxes], fun i d y h => ?_, fun s h => ?_⟩
  ·cases i with
   | zero =>
    simp at h; subst h
    rw [ih.rest d (fun i d' y' hi => (ha 0 (i + 1) d y d' y' rfl (by simpa using hi) (by omega)).symm), get_put]
    simp
   | succ i =>
    have h' : vs[i]? = some (d, y) := by simpa using h
    rw [ih.dst i d y h', get_put]
    have hne : p.1 ≠ d := ha 0 (i + 1) p.1 p.2 d y rfl h (by omega)
    simp [hne]
  ·rw [ih.rest s (fun i d y hi => h (i + 1) d y (by simpa using hi)), get_put]
   rw [if_neg (h 0 p.1 p.2 rfl)]
theorem At.step {vs : List (Nat × AV)} {L L' : Nat -> Bool} {σ τ : St} {i d : Nat} {y : AV} (h : At vs L σ τ) (ha : Apart vs) (hi : vs[i]? = some (d, y)) (hL : ∀ j, j ≠ i -> L' j = L j) (hLi : L' i = true) : At vs L' σ (τ.put (some d) y) := by
 refine ⟨by rw [put_n, h.n], by rw [put_boxes, h.boxes], fun j d' y' hj => ?_, fun s hs => ?_⟩
 ·rw [get_put]
  by_cases hij : j = i
  ·subst hij; rw [hi] at hj; cases hj; simp [hLi]
  ·rw [if_neg (ha i j d y d' y' hi hj (Ne.symm hij)), h.dst j d' y' hj, hL j hij]
 ·rw [get_put, if_neg (hs i d y hi), h.rest s hs]
theorem SRel.slotsEq {G0 w0 σ τ G a w} (h : SRel G0 w0 σ G a w) (hn : τ.n = σ.n) (hb : τ.boxes = σ.boxes) (hs : ∀ s, τ.get s = σ.get s) : SRel G0 w0 τ G a w :=
 { h with
  slots := fun s => by rw [hs s]; exact h.slots s
  boxes := by rw [hb]; exact h.boxes
  blt := by rw [hb]; exact h.blt
  size := by rw [hn]; exact h.size }
theorem SRel.drawn {G0 w0 σ G a w} (h : SRel G0 w0 σ G a w) (n : Nat) : SRel G0 w0 σ G a { w with drawn := n } := by
 have hm : ∀ {x v}, VRel G w x v -> VRel G { w with drawn := n } x v := fun hr => hr.mono (fun _ _ => rfl) (fun _ _ _ => rfl)
 exact { h with
  good := ⟨h.good.lt, h.good.tags, h.good.boxes⟩
  slots := fun s => hm (h.slots s)
  boxes := ⟨h.boxes.low, fun i cs hi => (h.boxes.cell i cs hi).same (fun x v hr => hm hr) (fun b h1 => ⟨h1, rfl⟩) fun h0 => h0⟩
  hsize := h.hsize
  keep := h.keep }
def creators (ops : Array Oper) (m : Nat) : List Nat := (ops.toList.take m).filterMap fun o => if creates o.op = true then o.dst else none
def freeAll (σ : St) : List Nat -> Bool
 | [] => true
 | d :: r => σ.free d && freeAll σ r
theorem freeAll_mem {σ : St} : ∀ {l : List Nat}, freeAll σ l = true -> ∀ d ∈ l, σ.free d = true
 | x :: r, h, d, hd => by
  simp only [freeAll, Bool.and_eq_true] at h
  rcases List.mem_cons.1 hd with rfl | hd
  ·exact h.1
  ·exact freeAll_mem h.2 d hd
theorem killR_fresh {d d' : Nat} {G : Nat -> Status} (h : Fresh d' G) : Fresh d' (killR d G) := ⟨h.1, fun b t hb => h.2 b t (killR_tag hb).1⟩
theorem SRel.freshAll {G0 w0 σ a w} (h0 : True) : ∀ (l : List Nat) (G : Nat -> Status), SRel G0 w0 σ G a w -> freeAll σ l = true -> ∃ G', SRel G0 w0 σ G' a w /\ (∀ d ∈ l, Fresh d G') /\ ∀ d, Fresh d G -> Fresh d G'
 | [], G, h, _ => ⟨G, h, fun d hd => by simp at hd, fun _ h => h⟩
 | d :: r, G, h, hf => by
  simp only [freeAll, Bool.and_eq_true] at hf
  obtain ⟨k1, k2⟩ := h.fresh hf.1 h0
  obtain ⟨G', g1, g2, g3⟩ := SRel.freshAll h0 r _ k1 hf.2
  refine ⟨G', g1, fun d' hd' => ?_, fun d' hd' => g3 d' (killR_fresh hd')⟩
  rcases List.mem_cons.1 hd' with rfl | hd'
  ·exact g3 _ k2
  ·exact g2 d' hd'
theorem NewTags.fresh {d d' : Nat} {G G' : Nat -> Status} (h : NewTags d G G') (hne : d ≠ d') (hf : Fresh d' G) : Fresh d' G' := by
 refine ⟨hf.1, fun b t hb => ?_⟩
 rcases h.tags b t hb with h | h
 ·exact hf.2 b t h
 ·omega
section
variable {ops : Array Oper} {m : Nat} {vs : List (Nat × AV)} {σ : St} {K : St -> Prop} {G0 : Orig} {w0 : World} {Q : Exit -> Act -> World -> Prop}
theorem binds_edges {o : Oper} {L : Nat -> Bool} : (∀ e ∈ o.after, Region.binds .any e = true -> L e.on = true) ↔ ∀ k ∈ edges o, L k = true := by
 unfold edges
 constructor
 ·intro h k hk
  obtain ⟨e, he, rfl⟩ := List.mem_map.1 hk
  have := List.mem_filter.1 he
  exact h e (by simpa using this.1) this.2
 ·intro h e he hb
  exact h e.on (List.mem_map.2 ⟨e, List.mem_filter.2 ⟨by simpa using he, hb⟩, rfl⟩)
theorem ready_iff {i : Nat} {listed : Array Bool} (hs : listed.size = ops.size) : i ∈ Region.ready .any ops listed ↔
  ∃ o, ops[i]? = some o /\ listed.getD i false = false /\ ∀ k ∈ edges o, listed.getD k false = true := by
 rw [mem_ready]
 constructor
 ·rintro ⟨h1, o, ho, h2⟩
  refine ⟨o, ho, ?_, binds_edges.1 h2⟩
  have hlt : i < listed.size := by rw [hs]; exact (Array.getElem?_eq_some_iff.1 ho).1
  simpa [hlt] using h1
 ·rintro ⟨o, ho, h1, h2⟩
  refine ⟨?_, o, ho, binds_edges.2 h2⟩
  have hlt : i < listed.size := by rw [hs]; exact (Array.getElem?_eq_some_iff.1 ho).1
  simpa [hlt] using h1
theorem set_getD {i j : Nat} {listed : Array Bool} (hi : i < listed.size) : (listed.setIfInBounds i true).getD j false = if i = j then true else listed.getD j false := by
 by_cases h : i = j
 ·subst h; simp [hi]
 ·simp [h, Array.getElem?_setIfInBounds_ne h]
structure Left (ops : Array Oper) (listed : Array Bool) (U : List Nat) : Prop where
 size : listed.size = ops.size
 nodup : U.Nodup
 mem : ∀ i, i ∈ U ↔ i < ops.size /\ listed.getD i false = false
theorem Left.step {listed : Array Bool} {U : List Nat} {i : Nat} (h : Left ops listed U) (hi : i ∈ U) : Left ops (listed.setIfInBounds i true) (U.erase i) /\ (U.erase i).length + 1 = U.length := by
 have hlt := ((h.mem i).1 hi).1
 refine ⟨⟨by simpa using h.size, h.nodup.erase i, fun j => ?_⟩, ?_⟩
 ·rw [h.nodup.mem_erase_iff, h.mem j, set_getD (by rw [h.size]; exact hlt)]
  constructor
  ·rintro ⟨h1, h2, h3⟩; exact ⟨h2, by rw [if_neg (Ne.symm h1)]; exact h3⟩
  ·rintro ⟨h1, h2⟩
   by_cases hij : i = j
   ·rw [if_pos hij] at h2; cases h2
   ·rw [if_neg hij] at h2; exact ⟨Ne.symm hij, h1, h2⟩
 ·rw [List.length_erase_of_mem hi]
  have : 0 < U.length := List.length_pos_of_mem hi
  omega
theorem Closed.step {listed : Array Bool} {i : Nat} {o : Oper} (hc : Closed ops (fun k => listed.getD k false)) (hlt : i < listed.size) (ho : ops[i]? = some o) (hl : ∀ k ∈ edges o, listed.getD k false = true) :
  Closed ops (fun k => (listed.setIfInBounds i true).getD k false) := by
 intro j oj hoj hj k hk
 simp only [set_getD hlt] at hj ⊢
 by_cases hik : i = k
 ·rw [if_pos hik]
 ·rw [if_neg hik]
  by_cases hij : i = j
  ·subst hij; rw [ho] at hoj; cases hoj; exact hl k hk
  ·rw [if_neg hij] at hj; exact hc j oj hoj hj k hk
theorem some_ready {listed : Array Bool} {U : List Nat} (h : Left ops listed U) (hlt : ∀ i o, ops[i]? = some o -> ∀ k ∈ edges o, k < i) (hne : U ≠ []) : Region.ready .any ops listed ≠ [] := by
 obtain ⟨u, hu⟩ := List.exists_mem_of_ne_nil U hne
 have key : ∀ n, ∀ u ∈ U, u <= n -> ∃ i, i ∈ Region.ready .any ops listed := by
  intro n
  induction n with
  | zero =>
   intro u hu hn
   have := (h.mem u).1 hu
   obtain ⟨o, ho⟩ : ∃ o, ops[u]? = some o := ⟨ops[u], by simp [this.1]⟩
   exact ⟨u, (ready_iff h.size).2 ⟨o, ho, this.2, fun k hk => by have := hlt u o ho k hk; omega⟩⟩
  | succ n ih =>
   intro u hu hn
   have hm := (h.mem u).1 hu
   obtain ⟨o, ho⟩ : ∃ o, ops[u]? = some o := ⟨ops[u], by simp [hm.1]⟩
   by_cases hall : ∀ k ∈ edges o, listed.getD k false = true
   ·exact ⟨u, (ready_iff h.size).2 ⟨o, ho, hm.2, hall⟩⟩
   ·have : ∃ k, k ∈ edges o /\ listed.getD k false = false := by
     apply Classical.byContradiction
     intro hcon
     exact hall fun k hk => by
      cases hb : listed.getD k false
      ·exact absurd ⟨k, hk, hb⟩ hcon
      ·rfl
    obtain ⟨k, hk, hkf⟩ := this
    have hku := hlt u o ho k hk
    exact ih k ((h.mem k).2 ⟨by omega, hkf⟩) (by omega)
 obtain ⟨i, hi⟩ := key u u hu (Nat.le_refl u)
 exact fun h => by rw [h] at hi; simp at hi
structure Plan (ops : Array Oper) (m : Nat) : Prop where
 le : m <= ops.size
 lt : ∀ i o, ops[i]? = some o -> ∀ k ∈ edges o, k < i
 head : ∀ i o, ops[i]? = some o -> i < m -> ∃ d, o.dst = some d /\ d ∉ slotsG ops o /\ ∀ j p s, j < m -> j ≠ i -> ops[j]? = some p -> p.dst = some s -> s ≠ d /\ (s ∈ slotsG ops o -> if j < i then reach ops ops.size i j = true else reach ops ops.size j i = true)
 tail : ∀ i o, ops[i]? = some o -> m <= i -> ∀ j, j < i -> reach ops ops.size i j = true
theorem drawOk_plan (h : drawOk ops m = true) : Plan ops m := by
 simp only [drawOk, Bool.and_eq_true, decide_eq_true_eq, List.all_eq_true, List.mem_range] at h
 obtain ⟨h1, h2⟩ := h
 have hof : ∀ i o, ops[i]? = some o -> (if i < m then headOkG ops m i o else tailOk ops i o) = true := fun i o ho => by
  have := h2 i (Array.getElem?_eq_some_iff.1 ho).1
  rw [ho] at this; simpa using this
 refine ⟨h1, fun i o ho k hk => ?_, fun i o ho hi => ?_, fun i o ho hi j hj => ?_⟩
 ·have := hof i o ho
  split at this
  ·simp only [headOkG, Bool.and_eq_true, List.all_eq_true, decide_eq_true_eq] at this
   exact this.1 k hk
  ·simp only [tailOk, Bool.and_eq_true, List.all_eq_true, decide_eq_true_eq] at this
   exact this.1 k hk
 ·have := hof i o ho
  rw [if_pos hi] at this
  simp only [headOkG, Bool.and_eq_true] at this
  obtain ⟨_, g3⟩ := this
  split at g3
  ·cases g3
  ·rename_i d hd
   simp only [Bool.and_eq_true, List.all_eq_true, List.mem_range, Bool.not_eq_true', Bool.or_eq_true, beq_iff_eq] at g3
   refine ⟨d, hd, by simpa using g3.1, fun j p s hj hji hp hs => ?_⟩
   have := (g3.2 j hj).resolve_left hji
   simp only [hp, hs, Bool.and_eq_true, bne_iff_ne, ne_eq, Bool.or_eq_true, Bool.not_eq_true'] at this
   refine ⟨this.1, fun hm => ?_⟩
   have h' := this.2.resolve_left (by simpa using hm)
   split at h'
   ·rename_i hlt; rw [if_pos hlt]; exact h'
   ·rename_i hlt; rw [if_neg hlt]; exact h'
 ·have := hof i o ho
  rw [if_neg (by omega)] at this
  simp only [tailOk, Bool.and_eq_true, List.all_eq_true, List.mem_range] at this
  exact this.2 j hj
theorem tail_run (hp : Plan ops m) (h0 : True) (hQ : ∀ σ' G' a' w', K σ' -> SRel G0 w0 σ' G' a' w' -> Q .normal a' w') :
  ∀ (fuel k : Nat) (listed : Array Bool) (U : List Nat) (σ : St) (G : Nat -> Status) (a : Act) (w : World), Left ops listed U -> U.length = fuel -> m <= k -> (∀ i, i < ops.size -> (listed.getD i false = true ↔ i < k)) -> k <= ops.size ->
   Closed ops (fun k => listed.getD k false) -> opsA P ops (ops.toList.drop k) σ K -> SRel G0 w0 σ G a w -> wpAny P .any ops Q fuel listed a w := by
 intro fuel
 induction fuel with
 | zero =>
  intro k listed U σ G a w hl hU hmk hk hks hc hw h
  have hUn : U = [] := List.eq_nil_of_length_eq_zero hU
  subst hUn
  have hkk : k = ops.size := by
   apply Classical.byContradiction
   intro hne
   have hlt : k < ops.size := by omega
   have : listed.getD k false = false := by
    cases hb : listed.getD k false
    ·rfl
    ·have := (hk k hlt).1 hb; omega
   have := (hl.mem k).2 ⟨hlt, this⟩
   simp at this
  subst hkk
  refine ⟨?_, ?_⟩
  ·apply List.eq_nil_iff_forall_not_mem.2
   intro i hi
   obtain ⟨o, ho, h1, _⟩ := (ready_iff hl.size).1 hi
   have := (hl.mem i).2 ⟨(Array.getElem?_eq_some_iff.1 ho).1, h1⟩
   simp at this
  ·have hd : ops.toList.drop ops.size = [] := by simp
   rw [hd] at hw
   exact hQ σ G a w hw h
 | succ fuel ih =>
  intro k listed U σ G a w hl hU hmk hk hks hc hw h
  have hUn : U ≠ [] := by intro h; rw [h] at hU; simp at hU
  refine ⟨fun hr => absurd hr (some_ready hl hp.lt hUn), fun i hi => ?_⟩
  obtain ⟨o, ho, h1, h2⟩ := (ready_iff hl.size).1 hi
  have hlt := (Array.getElem?_eq_some_iff.1 ho).1
  have hki : ¬ i < k := fun h => by have := (hk i hlt).2 h; rw [h1] at this; cases this
  have hik : i = k := by
   apply Classical.byContradiction
   intro hne
   have hlk : k < i := by omega
   have := reach_listed hc ops.size i k o ho h2 (hp.tail i o ho (by omega) k hlk)
   have := (hk k (by omega)).1 this
   omega
  subst hik
  have hdrop : ops.toList.drop i = o :: ops.toList.drop (i + 1) := by
   have hlt' : i < ops.toList.length := by simpa using hlt
   rw [List.drop_eq_getElem_cons hlt']
   have : ops.toList[i] = o := by
    have := Array.getElem?_eq_some_iff.1 ho
    simpa using this.2
   rw [this]
  rw [hdrop] at hw
  have hmem : i ∈ U := (hl.mem i).2 ⟨hlt, h1⟩
  obtain ⟨l1, l2⟩ := hl.step hmem
  have hsz : i < listed.size := by rw [hl.size]; exact hlt
  have hk' : ∀ j, j < ops.size -> ((listed.setIfInBounds i true).getD j false = true ↔ j < i + 1) := fun j hj => by
   rw [set_getD hsz]
   by_cases hij : i = j
   ·subst hij; simp
   ·rw [if_neg hij, hk j hj]; omega
  have hcont : ∀ {σ' G' a' w'}, opsA P ops (ops.toList.drop (i + 1)) σ' K -> SRel G0 w0 σ' G' a' w' -> wpAny P .any ops Q fuel (listed.setIfInBounds i true) a' w' := fun hk2 hs2 =>
   ih (i + 1) _ _ _ _ _ _ l1 (by omega) (by omega) hk' (by omega) (hc.step hsz ho h2) hk2 hs2
  simp only [opsA] at hw
  simp only [Go.wpOp, ho]
  have run : ∀ {σ}, AM.wpOp P o σ (fun σ' => opsA P ops (ops.toList.drop (i + 1)) σ' K) -> SRel G0 w0 σ G a w -> o.wp P a w (wpAny P .any ops Q fuel (listed.setIfInBounds i true)) Q := fun hw h =>
   wpOp_sound hw h h0 _ _ fun σ' G' a' w' hk hs => hcont hk hs
  cases hg : o.guard with
  | none =>
   simp only [hg] at hw
   rw [if_pos (by simp [Region.wanted, hg])]
   exact .inl (run hw h)
  | some p =>
   obtain ⟨j, want⟩ := p
   simp only [hg] at hw
   cases hgs : guardSlot ops j with
   | none => simp [hgs] at hw
   | some g =>
    simp only [hgs] at hw
    split at hw
    ·rename_i b hb
     have hv := h.slots g
     rw [hb] at hv
     have hy := yielded_bool hgs hv.sc_inv
     by_cases hbw : b = want
     ·subst hbw
      rw [if_pos (by simp [Region.wanted, hg, hy])]
      exact .inl (run (hw.1 rfl) (h.same hb))
     ·rw [if_neg (by simp [Region.wanted, hg, hy, hbw])]
      have hbn : b = !want := by cases b <;> cases want <;> simp_all
      obtain ⟨hdst, hw⟩ := hw.2 hbn
      have hs := (h.same (g := g) (x := .sc (.bool (!want))) (by rw [hb, hbn])).add (.refl G w) h.good (fun _ _ h => h) (d := o.dst) (x := .sc undef) (v := undef) (by rw [put_n]; exact hdst) (.froz (.sc _))
      exact hcont hw hs
    ·rename_i vs hb
     have hv := h.slots g
     rw [hb] at hv
     have hy := yielded_none hgs hv.sc_inv
     rw [if_neg (by simp [Region.wanted, hg, hy])]
     obtain ⟨hdst, hw⟩ := hw
     have hs := h.add (.refl G w) h.good (fun _ _ h => h) (d := o.dst) (x := .sc undef) (v := undef) hdst (.froz (.sc _))
     exact hcont hw hs
    ·exact hw.elim
theorem head_run (hp : Plan ops m) (h0 : True) (hQ : ∀ σ' G' a' w', K σ' -> SRel G0 w0 σ' G' a' w' -> Q .normal a' w') (hvl : vs.length = m) (hap : Apart vs)
  (hK : opsA P ops (ops.toList.drop m) (puts σ vs) K)
  (hst : ∀ i o, i < m -> ops[i]? = some o -> ∃ d y, vs[i]? = some (d, y) /\ o.dst = some d /\ d < σ.n /\ StepG P ops o d (puts σ (vs.take i)) σ.boxes y) :
  ∀ (fuel : Nat) (listed : Array Bool) (U : List Nat) (τ : St) (G : Nat -> Status) (a : Act) (w : World), Left ops listed U -> U.length = fuel -> (∀ i, m <= i -> listed.getD i false = false) ->
   Closed ops (fun k => listed.getD k false) -> At vs (fun i => listed.getD i false) σ τ -> SRel G0 w0 τ G a w ->
   (∀ i o d, ops[i]? = some o -> i < m -> o.dst = some d -> creates o.op = true -> listed.getD i false = false -> Fresh d G) -> wpAny P .any ops Q fuel listed a w := by
 intro fuel
 induction fuel with
 | zero =>
  intro listed U τ G a w hl hU hm hc hat h hfr
  have hUn : U = [] := List.eq_nil_of_length_eq_zero hU
  subst hUn
  have hall : ∀ i, i < ops.size -> listed.getD i false = true := fun i hi => by
   cases hb : listed.getD i false
   ·have := (hl.mem i).2 ⟨hi, hb⟩; simp at this
   ·rfl
  have hms : m = ops.size := by
   apply Classical.byContradiction
   intro hne
   have := hp.le
   have h1 := hall m (by omega)
   rw [hm m (Nat.le_refl m)] at h1; cases h1
  have heq : SRel G0 w0 (puts σ vs) G a w := by
   have hpa := puts_at m vs σ hap
   rw [List.take_of_length_le (by omega)] at hpa
   refine h.slotsEq (by rw [hpa.n, hat.n]) (by rw [hpa.boxes, hat.boxes]) fun s => ?_
   by_cases hs : ∀ (i d : Nat) (y : AV), vs[i]? = some (d, y) -> d ≠ s
   ·rw [hpa.rest s hs, hat.rest s hs]
   ·have : ∃ (i : Nat) (y : AV), vs[i]? = some (s, y) := by
     apply Classical.byContradiction
     intro hcon
     exact hs fun i d y hi hds => hcon ⟨i, y, by rw [<- hds]; exact hi⟩
    obtain ⟨i, y, hi⟩ := this
    have hil : i < m := by rw [<- hvl]; exact (List.getElem?_eq_some_iff.1 hi).1
    rw [hpa.dst i s y hi, hat.dst i s y hi]
    simp [hil, hall i (by omega)]
  exact tail_run (P := P) hp h0 hQ 0 m listed [] (puts σ vs) G a w hl rfl (Nat.le_refl m) (fun i hi => by simp [hall i hi]; omega) hp.le hc hK heq
 | succ fuel ih =>
  intro listed U τ G a w hl hU hm hc hat h hfr
  have hUn : U ≠ [] := by intro h; rw [h] at hU; simp at hU
  by_cases hdone : ∀ i, i < m -> listed.getD i false = true
  ·have heq : SRel G0 w0 (puts σ vs) G a w := by
    have hpa := puts_at m vs σ hap
    rw [List.take_of_length_le (by omega)] at hpa
    refine h.slotsEq (by rw [hpa.n, hat.n]) (by rw [hpa.boxes, hat.boxes]) fun s => ?_
    by_cases hs : ∀ (i d : Nat) (y : AV), vs[i]? = some (d, y) -> d ≠ s
    ·rw [hpa.rest s hs, hat.rest s hs]
    ·have : ∃ (i : Nat) (y : AV), vs[i]? = some (s, y) := by
      apply Classical.byContradiction
      intro hcon
      exact hs fun i d y hi hds => hcon ⟨i, y, by rw [<- hds]; exact hi⟩
     obtain ⟨i, y, hi⟩ := this
     have hil : i < m := by rw [<- hvl]; exact (List.getElem?_eq_some_iff.1 hi).1
     rw [hpa.dst i s y hi, hat.dst i s y hi]
     simp [hil, hdone i hil]
   refine tail_run (P := P) hp h0 hQ (fuel + 1) m listed U (puts σ vs) G a w hl hU (Nat.le_refl m) (fun i hi => ⟨fun hb => ?_, fun hlt => hdone i hlt⟩) hp.le hc hK heq
   apply Classical.byContradiction
   intro hge
   rw [hm i (by omega)] at hb; cases hb
  ·refine ⟨fun hr => absurd hr (some_ready hl hp.lt hUn), fun i hi => ?_⟩
   obtain ⟨o, ho, h1, h2⟩ := (ready_iff hl.size).1 hi
   have hlt := (Array.getElem?_eq_some_iff.1 ho).1
   have him : i < m := by
    apply Classical.byContradiction
    intro hge
    exact hdone fun j hj => reach_listed hc ops.size i j o ho h2 (hp.tail i o ho (by omega) j (by omega))
   obtain ⟨d, y, hv, hd, hdn, hstep⟩ := hst i o him ho
   obtain ⟨d', hd', hself, hpair⟩ := hp.head i o ho him
   rw [hd] at hd'; cases hd'
   have hmem : i ∈ U := (hl.mem i).2 ⟨hlt, h1⟩
   obtain ⟨l1, l2⟩ := hl.step hmem
   have hsz : i < listed.size := by rw [hl.size]; exact hlt
   have hsame : ∀ s ∈ slotsG ops o, (puts σ (vs.take i)).get s = τ.get s := by
    intro s hsm
    have hpa := puts_at i vs σ hap
    by_cases hs : ∀ (i d : Nat) (y : AV), vs[i]? = some (d, y) -> d ≠ s
    ·rw [hpa.rest s hs, hat.rest s hs]
    ·have : ∃ (j : Nat) (y : AV), vs[j]? = some (s, y) := by
      apply Classical.byContradiction
      intro hcon
      exact hs fun i d y hi hds => hcon ⟨i, y, by rw [<- hds]; exact hi⟩
     obtain ⟨j, y', hj⟩ := this
     have hjl : j < m := by rw [<- hvl]; exact (List.getElem?_eq_some_iff.1 hj).1
     obtain ⟨p, hpj⟩ : ∃ p, ops[j]? = some p := ⟨ops[j]'(by have := hp.le; omega), by have := hp.le; simp [show j < ops.size by omega]⟩
     obtain ⟨d'', y'', hv'', hds'', _⟩ := hst j p hjl hpj
     rw [hj] at hv''; cases hv''
     have hji : j ≠ i := fun hji => by subst hji; rw [hv] at hj; cases hj; exact hself hsm
     have hre := (hpair j p s hjl hji hpj hds'').2 hsm
     rw [hpa.dst j s y' hj, hat.dst j s y' hj]
     by_cases hjlt : j < i
     ·rw [if_pos hjlt] at hre
      have := reach_listed hc ops.size i j o ho h2 hre
      simp [hjlt, this]
     ·rw [if_neg hjlt] at hre
      have hjf : listed.getD j false = false := by
       cases hb : listed.getD j false
       ·rfl
       ·have := reach_listed hc ops.size j i p hpj (fun k hk => hc j p hpj hb k hk) hre
        rw [h1] at this; cases this
      simp [hjlt, hjf]
   have hops : ∀ x ∈ o.op.operands, VRel G w ((puts σ (vs.take i)).ev x) (a.eval x) := by
    intro x hx
    have hrel := h.ev x
    suffices (puts σ (vs.take i)).ev x = τ.ev x by rw [this]; exact hrel
    cases x with
    | tmp s =>
     simp only [St.ev]
     refine hsame s (List.mem_append.2 (.inr ?_))
     unfold slotsOf
     exact List.mem_filterMap.2 ⟨.tmp s, by simpa using hx, rfl⟩
    | const v => rfl
    | func f => rfl
    | global g => rfl
   have hgo : ∀ {G' a' w'} (hs' : SRel G0 w0 (τ.put (some d) y) G' a' w') (g4 : NewTags d G G'), wpAny P .any ops Q fuel (listed.setIfInBounds i true) a' w' := by
    intro G' a' w' hs' g4
    refine ih _ _ _ G' _ _ l1 (by omega) (fun j hj => ?_) (hc.step hsz ho h2) (hat.step hap hv (fun j hj => ?_) ?_) hs' (fun j oj dj hoj hjm hdj hcr hjf => ?_)
    ·rw [set_getD hsz, if_neg (by omega)]; exact hm j hj
    ·simp only [set_getD hsz]; rw [if_neg (Ne.symm hj)]
    ·simp only [set_getD hsz]; simp
    ·rw [set_getD hsz] at hjf
     by_cases hij : i = j
     ·rw [if_pos hij] at hjf; cases hjf
     ·rw [if_neg hij] at hjf
      have hne := (hpair j oj dj hjm (Ne.symm hij) hoj hdj).1
      exact g4.fresh (Ne.symm hne) (hfr j oj dj hoj hjm hdj hcr hjf)
   have hrun : StepOk P o d (puts σ (vs.take i)).ev σ.boxes y -> o.wp P a w (wpAny P .any ops Q fuel (listed.setIfInBounds i true)) Q := fun hstep =>
    hstep _ G a w h.good (by rw [<- hat.boxes]; exact h.boxes) (fun hcr => hfr i o d ho him hd hcr h1) hops _ _ fun v w' G' g1 g2 g3 g4 =>
     hgo (by rw [hd]; exact h.add g2 g3 g4.boxes (by simp [dstOk, hat.n, hdn]) g1) g4
   simp only [Go.wpOp, ho]
   rcases hstep with ⟨hg, hstep⟩ | ⟨j, want, g, c, hg, hgs, hgv, hc2⟩ | ⟨j, want, g, vs', hg, hgs, hgv, rfl⟩
   ·rw [if_pos (by simp [Region.wanted, hg])]
    exact .inl (hrun hstep)
   ·have hgm : g ∈ slotsG ops o := by simp [slotsG, guardS, hg, hgs]
    have hv2 := h.slots g
    rw [<- hsame g hgm, hgv] at hv2
    have hy := yielded_bool hgs hv2.sc_inv
    rcases hc2 with ⟨rfl, hstep⟩ | ⟨hne, rfl⟩
    ·rw [if_pos (by simp [Region.wanted, hg, hy])]
     exact .inl (hrun hstep)
    ·rw [if_neg (by simp [Region.wanted, hg, hy, hne])]
     have hs' := h.add (.refl G w) h.good (fun _ _ h => h) (d := o.dst) (x := .sc undef) (v := undef) (by rw [hd]; simp [dstOk, hat.n, hdn]) (.froz (.sc _))
     refine hgo (G' := G) (by rw [hd] at hs' ⊢; exact hs') ⟨fun b t hb => .inl hb, fun b i hb => hb⟩
   ·have hgm : g ∈ slotsG ops o := by simp [slotsG, guardS, hg, hgs]
    have hv2 := h.slots g
    rw [<- hsame g hgm, hgv] at hv2
    have hy := yielded_none hgs hv2.sc_inv
    rw [if_neg (by simp [Region.wanted, hg, hy])]
    have hs' := h.add (.refl G w) h.good (fun _ _ h => h) (d := o.dst) (x := .sc undef) (v := undef) (by rw [hd]; simp [dstOk, hat.n, hdn]) (.froz (.sc _))
    exact hgo (G' := G) (by rw [hd] at hs' ⊢; exact hs') ⟨fun b t hb => .inl hb, fun b i hb => hb⟩
theorem DrawK.intro (m : Nat) (hm : P.follows .mixedOrders = true) (hok : drawOk ops m = true) (hfree : freeAll σ (creators ops m) = true) (h : headA P ops (ops.toList.take m) σ fun σ' => opsA P ops (ops.toList.drop m) σ' K) : DrawK P ops σ K := by
 intro G0 w0 G a w id Q h0 hs hQ
 have hp := drawOk_plan hok
 obtain ⟨vs, hvl, hK, hst⟩ := headA_vals _ _ _ h
 have hlen : (ops.toList.take m).length = m := by have := hp.le; simp; omega
 have hst' : ∀ i o, i < m -> ops[i]? = some o -> ∃ d y, vs[i]? = some (d, y) /\ o.dst = some d /\ d < σ.n /\ StepG P ops o d (puts σ (vs.take i)) σ.boxes y := fun i o hi ho => by
  refine hst i o ?_
  rw [List.getElem?_take, if_pos hi]
  simpa using ho
 have hap : Apart vs := by
  intro i j d y d' y' h1 h2 hij
  have hil : i < m := by have := (List.getElem?_eq_some_iff.1 h1).1; omega
  have hjl : j < m := by have := (List.getElem?_eq_some_iff.1 h2).1; omega
  have hle := hp.le
  obtain ⟨oi, hoi⟩ : ∃ p, ops[i]? = some p := ⟨ops[i]'(by omega), by simp [show i < ops.size by omega]⟩
  obtain ⟨oj, hoj⟩ : ∃ p, ops[j]? = some p := ⟨ops[j]'(by omega), by simp [show j < ops.size by omega]⟩
  obtain ⟨_, _, k1, k2, _⟩ := hst' i oi hil hoi
  obtain ⟨_, _, k3, k4, _⟩ := hst' j oj hjl hoj
  rw [h1] at k1; cases k1
  rw [h2] at k3; cases k3
  obtain ⟨d1, e1, _, e2⟩ := hp.head j oj hoj hjl
  rw [k4] at e1; cases e1
  exact (e2 i oi d hil hij hoi k2).1
 refine wp_region_any hm ?_
 obtain ⟨G', g1, g2, _⟩ := (hs.drawn (w.drawn + 1)).freshAll h0 (creators ops m) G hfree
 have hgd : ∀ i, (Array.replicate ops.size false).getD i false = false := fun i => by
  by_cases hi : i < ops.size <;> simp [hi]
 refine head_run (P := P) hp h0 hQ (by omega) hap hK hst' ops.size (Array.replicate ops.size false) (List.range ops.size) σ G' a _ ⟨by simp, List.nodup_range, fun i => ?_⟩ (by simp) (fun i _ => hgd i) (fun i o _ hi => absurd (show (Array.replicate ops.size false).getD i false = true from hi) (by rw [hgd]; simp)) ⟨rfl, rfl, fun i d y _ => by simp only [hgd]; simp, fun _ _ => rfl⟩ g1 (fun i o d ho hi hd hcr _ => ?_)
 ·rw [List.mem_range, hgd]; simp
 ·refine g2 d ?_
  unfold creators
  refine List.mem_filterMap.2 ⟨o, ?_, by rw [if_pos hcr]; exact hd⟩
  refine List.mem_of_getElem? (i := i) ?_
  rw [List.getElem?_take, if_pos hi]; simpa using ho
end
end
section
variable {P : Program} {n : Nat} {t : List (Nat × AV)} {b : List (List AV)}
variable {d : Nat} {T : TypeId} {pos : String} {af : Array Edge} {g : Option (Nat × Bool)} {K : St -> Prop}
@[congr] theorem headOp_congr {o : Oper} {K : St -> Prop} {σ σ' : St} (h : mkd σ = σ') : headOp P o σ K = headOp P o σ' K := by subst_vars; rfl
@[congr] theorem CallY_congr {f : FuncId} {args args' : List AV} {d : Nat} {K : St -> Prop} {σ σ' : St} (h1 : mkd args = args') (h : σ = σ') : CallY P f args d σ K = CallY P f args' d σ' K := by subst_vars; rfl
@[go_sem] theorem knownB_bool {c want : Bool} : knownB want (.sc (.bool c)) = some c := rfl
@[go_sem] theorem knownB_undef {want : Bool} : knownB want (.sc undef) = some (!want) := rfl
@[go_sem] theorem headOp_move {x : Operand} : headOp P ⟨some d, .move x, T, pos, af, g⟩ ⟨n, t, b⟩ K = andK (d < n) (K (St.put ⟨n, t, b⟩ (some d) (typed P d T (St.ev ⟨n, t, b⟩ x)))) := rfl
@[go_sem] theorem headOp_assign {x : Operand} : headOp P ⟨some d, .assign x, T, pos, af, g⟩ ⟨n, t, b⟩ K = andK (d < n) (K (St.put ⟨n, t, b⟩ (some d) (typed P d T (St.ev ⟨n, t, b⟩ x)))) := rfl
@[go_sem] theorem headOp_pick {c x y : Operand} : headOp P ⟨some d, .pick c x y, T, pos, af, g⟩ ⟨n, t, b⟩ K = andK (d < n) (onBool (St.ev ⟨n, t, b⟩ c) fun v => both v (K (St.put ⟨n, t, b⟩ (some d) (St.ev ⟨n, t, b⟩ x))) (K (St.put ⟨n, t, b⟩ (some d) (St.ev ⟨n, t, b⟩ y)))) := by
 simp only [headOp, evOp, andK, onBool, both]
 cases St.ev ⟨n, t, b⟩ c <;> simp
 rename_i v; cases v <;> simp
 rename_i v; intro _; cases v <;> simp
@[go_sem] theorem headOp_load {T' : TypeId} {x : Operand} : headOp P ⟨some d, .load T' x, T, pos, af, g⟩ ⟨n, t, b⟩ K = andK (d < n) (evLoad P b T' (St.ev ⟨n, t, b⟩ x) fun r => K (St.put ⟨n, t, b⟩ (some d) r)) := by simp [headOp, evOp, andK]
@[go_sem] theorem headOp_nilCheck {x : Operand} : headOp P ⟨some d, .nilCheck x, T, pos, af, g⟩ ⟨n, t, b⟩ K = andK (d < n) (andK ((isPtr (St.ev ⟨n, t, b⟩ x) || isFn (St.ev ⟨n, t, b⟩ x)) = true) (K (St.put ⟨n, t, b⟩ (some d) (St.ev ⟨n, t, b⟩ x)))) := by simp [headOp, evOp, andK]
@[go_sem] theorem headOp_binOp {op : BinOp} {T' T'' : TypeId} {x y : Operand} : headOp P ⟨some d, .binOp op T' x y T'', T, pos, af, g⟩ ⟨n, t, b⟩ K = andK (d < n) (evBinOp P op T' (St.ev ⟨n, t, b⟩ x) (St.ev ⟨n, t, b⟩ y) fun r => K (St.put ⟨n, t, b⟩ (some d) r)) := by simp [headOp, evOp, andK]
@[go_sem] theorem headOp_unOp {op : UnOp} {T' : TypeId} {x : Operand} : headOp P ⟨some d, .unOp op T' x, T, pos, af, g⟩ ⟨n, t, b⟩ K = andK (d < n) (evUn op (St.ev ⟨n, t, b⟩ x) fun r => K (St.put ⟨n, t, b⟩ (some d) r)) := by simp [headOp, evOp, andK]
@[go_sem] theorem headOp_convert {T' T'' : TypeId} {x : Operand} : headOp P ⟨some d, .convert T' T'' x, T, pos, af, g⟩ ⟨n, t, b⟩ K = andK (d < n) (evConv P T' T'' (St.ev ⟨n, t, b⟩ x) fun r => K (St.put ⟨n, t, b⟩ (some d) r)) := by simp [headOp, evOp, andK]
@[go_sem] theorem headOp_slice {T' : TypeId} {x : Operand} {lo hi mx : Option Operand} : headOp P ⟨some d, .slice T' x lo hi mx, T, pos, af, g⟩ ⟨n, t, b⟩ K = andK (d < n) (evSlice P T' (St.ev ⟨n, t, b⟩ x) (lo.map (St.ev ⟨n, t, b⟩)) (hi.map (St.ev ⟨n, t, b⟩)) (mx.map (St.ev ⟨n, t, b⟩)) fun r => K (St.put ⟨n, t, b⟩ (some d) r)) := by simp [headOp, evOp, andK]
@[go_sem] theorem headOp_fieldAddr {T' : TypeId} {x : Operand} {f : Nat} : headOp P ⟨some d, .fieldAddr T' x f, T, pos, af, g⟩ ⟨n, t, b⟩ K = andK (d < n) (evFieldAddr P T' (St.ev ⟨n, t, b⟩ x) f fun r => K (St.put ⟨n, t, b⟩ (some d) r)) := by simp [headOp, evOp, andK]
@[go_sem] theorem headOp_indexAddr {T' : TypeId} {x i : Operand} : headOp P ⟨some d, .indexAddr T' x i, T, pos, af, g⟩ ⟨n, t, b⟩ K = andK (d < n) (evIndexAddr P T' (St.ev ⟨n, t, b⟩ x) (St.ev ⟨n, t, b⟩ i) fun r => K (St.put ⟨n, t, b⟩ (some d) r)) := by simp [headOp, evOp, andK]
@[go_sem] theorem headOp_build {T' : TypeId} {ps : List (Nat × Operand)} : headOp P ⟨some d, .build T' ps.toArray, T, pos, af, g⟩ ⟨n, t, b⟩ K = andK (d < n) (evBuild P T' (evParts ⟨n, t, b⟩ ps) fun r => K (St.put ⟨n, t, b⟩ (some d) r)) := by simp [headOp, evOp, andK, evParts_eq]
@[go_sem] theorem headOp_buildSlice {T' : TypeId} {len : Nat} {ps : List (Nat × Operand)} : headOp P ⟨some d, .buildSlice T' len ps.toArray, T, pos, af, g⟩ ⟨n, t, b⟩ K = andK (d < n) (evBuildSlice P d T' len (evParts ⟨n, t, b⟩ ps) fun r => K (St.put ⟨n, t, b⟩ (some d) r)) := by simp [headOp, evOp, andK, evParts_eq]
@[go_sem] theorem headOp_alloc {T' : TypeId} : headOp P ⟨some d, .alloc T', T, pos, af, g⟩ ⟨n, t, b⟩ K = andK (d < n) (caseO (tinfo P T') fun q => caseO q.2.2 fun z => andK (zeroOk q.1 z = true) (K (St.put ⟨n, t, b⟩ (some d) (.pe (64 * (d + 1)) q.1 [ofConst z] 0 0)))) := by
 simp [headOp, evOp, evAllocE, andK, caseO]
@[go_sem] theorem headOp_lookup {T' : TypeId} {x y : Operand} : headOp P ⟨some d, .lookup T' x y false, T, pos, af, g⟩ ⟨n, t, b⟩ K = andK (d < n) (evLookup P T' (St.ev ⟨n, t, b⟩ x) (St.ev ⟨n, t, b⟩ y) fun r => K (St.put ⟨n, t, b⟩ (some d) r)) := by simp [headOp, evOp, andK]
@[go_sem] theorem headOp_len {x : Operand} {T' : TypeId} : headOp P ⟨some d, .call ⟨.builtin .len, [x].toArray, [T'].toArray⟩, T, pos, af, g⟩ ⟨n, t, b⟩ K = andK (d < n) (evLenM P T' (St.ev ⟨n, t, b⟩ x) fun r => K (St.put ⟨n, t, b⟩ (some d) r)) := by simp [headOp, evOp, andK]
@[go_sem] theorem headOp_call {f : FuncId} {args : List Operand} {As : Array TypeId} : headOp P ⟨some d, .call ⟨.value (.func f), args.toArray, As⟩, T, pos, af, g⟩ ⟨n, t, b⟩ K = andK (d < n) (CallY P f (evAll ⟨n, t, b⟩ args) d ⟨n, t, b⟩ K) := by simp [headOp, andK, St.ev, evAll_eq]
def crs : List Oper -> List Nat
 | [] => []
 | o :: r => if creates o.op = true then (match o.dst with | some d => d :: crs r | none => crs r) else crs r
theorem crs_eq : ∀ l : List Oper, crs l = l.filterMap fun o => if creates o.op = true then o.dst else none
 | [] => rfl
 | o :: r => by
  rw [crs, crs_eq r, List.filterMap_cons]
  split
  ·cases o.dst <;> rfl
  ·rfl
attribute [go_sem] crs creates needsFresh
def headT (P : Program) (ops : Array Oper) : Nat -> List Oper -> St -> (St -> Prop) -> Prop
 | 0, l, σ, K => opsA P ops l σ K
 | _ + 1, [], σ, K => K σ
 | m + 1, o :: l, σ, K => headG P ops o σ fun σ' => headT P ops m l σ' K
theorem headT_eq {ops : Array Oper} {K : St -> Prop} : ∀ (m : Nat) (l : List Oper) (σ : St), headT P ops m l σ K = headA P ops (l.take m) σ fun σ' => opsA P ops (l.drop m) σ' K
 | 0, l, σ => by cases l <;> rfl
 | _ + 1, [], σ => rfl
 | m + 1, o :: l, σ => by
  show (headG P ops o σ fun σ' => headT P ops m l σ' K) = headG P ops o σ fun σ' => headA P ops (l.take m) σ' fun σ' => opsA P ops (l.drop m) σ' K
  have : (fun σ' => headT P ops m l σ' K) = fun σ' => headA P ops (l.take m) σ' fun σ' => opsA P ops (l.drop m) σ' K := funext fun σ' => headT_eq m l σ'
  rw [this]
@[congr] theorem headT_congr {ops : Array Oper} {m : Nat} {l : List Oper} {K : St -> Prop} {σ σ' : St} (h : mkd σ = σ') : headT P ops m l σ K = headT P ops m l σ' K := by subst_vars; rfl
@[go_sem] theorem headT_zero {ops : Array Oper} {l : List Oper} {K : St -> Prop} : headT P ops 0 l ⟨n, t, b⟩ K = opsA P ops l ⟨n, t, b⟩ K := rfl
@[go_sem] theorem headT_succ {ops : Array Oper} {m : Nat} {dst : Option Tmp} {op : Op} {l : List Oper} {K : St -> Prop} : headT P ops (m + 1) (⟨dst, op, T, pos, af, none⟩ :: l) ⟨n, t, b⟩ K = headOp P ⟨dst, op, T, pos, af, none⟩ ⟨n, t, b⟩ fun σ' => headT P ops m l σ' K := rfl
@[go_sem] theorem headT_guard {ops : Array Oper} {m : Nat} {op : Op} {l : List Oper} {K : St -> Prop} {j : Nat} {want : Bool} : headT P ops (m + 1) (⟨some d, op, T, pos, af, some (j, want)⟩ :: l) ⟨n, t, b⟩ K = caseO (guardSlot ops j) fun g => caseO (knownB want (lookT t g)) fun c =>
  both (c == want) (headOp P ⟨some d, op, T, pos, af, some (j, want)⟩ ⟨n, t, b⟩ fun σ' => headT P ops m l σ' K) (andK (d < n) (headT P ops m l (St.put ⟨n, t, b⟩ (some d) (.sc undef)) K)) := by
 simp only [headT, headG, caseO, both, andK, St.get]
 apply propext
 constructor
 ·rintro ⟨g, c, h1, h2, h3, h4⟩
  refine ⟨g, h1, c, h2, h3, fun hc => ?_⟩
  obtain ⟨d', hd, h5, h6⟩ := h4 hc
  cases hd
  exact ⟨h5, h6⟩
 ·rintro ⟨g, h1, c, h2, h3, h4⟩
  exact ⟨g, c, h1, h2, h3, fun hc => ⟨d, rfl, (h4 hc).1, (h4 hc).2⟩⟩
theorem DrawK.walk {l : List Oper} {σ : St} (m : Nat) (hm : P.follows .mixedOrders = true) (hok : drawOk l.toArray m = true)
  (h : andK (freeAll σ (crs (l.take m)) = true) (headT P l.toArray m l σ K)) : DrawK P l.toArray σ K :=
 DrawK.intro m hm hok (by rw [crs_eq] at h; exact h.1) (by rw [headT_eq] at h; exact h.2)
theorem CallU.free {f : FuncId} {args args' : List AV} {post : AV -> List (List AV) -> Prop} {σ : St} (hcon : Con P f args' [] post) (hc : σ.free d = true /\ d < σ.n /\ dedup (pbss args) = [] /\ tagss args = []) (ha : mapTops viewLeaf args = args')
  (hk : ∀ r bx, post r bx -> r.allLeaf lt64 = true /\ K (σ.put (some d) (r.shift (64 * (d + 1))))) : CallU P f args d σ K := by
 unfold CallU
 rw [hc.2.2.1]
 refine .inl ⟨hc.1, hc.2.1, ?_⟩
 have : args.map AV.view = args' := by rw [<- ha, mapTops_eq]; rfl
 rw [this]
 exact hcon.mono fun r bx h => ⟨(hk r bx h).1, .free hc.2.2.2 (hk r bx h).2⟩
theorem CallU.flat {f : FuncId} {args args' : List AV} {post : AV -> List (List AV) -> Prop} {σ : St} (hcon : Con P f args' [] post) (hc : σ.free d = true /\ d < σ.n /\ dedup (pbss args) = []) (ha : mapTops viewLeaf args = args')
  (hk : ∀ r bx, post r bx -> r.allLeaf lt64 = true /\ r.allLeaf flatLeaf = true /\ K (σ.put (some d) (r.shift (64 * (d + 1))))) : CallU P f args d σ K := by
 unfold CallU
 rw [hc.2.2]
 refine .inl ⟨hc.1, hc.2.1, ?_⟩
 have : args.map AV.view = args' := by rw [<- ha, mapTops_eq]; rfl
 rw [this]
 exact hcon.mono fun r bx h => ⟨(hk r bx h).1, .flat (hk r bx h).2.1 (hk r bx h).2.2⟩
theorem CallU.freeze {f : FuncId} {args args' : List AV} {post : AV -> List (List AV) -> Prop} {σ : St} (hcon : Con P f args' [] post) (hc : σ.free d = true /\ d < σ.n /\ dedup (pbss args) = []) (ha : mapTops viewLeaf args = args')
  (hk : ∀ r bx, post r bx -> r.allLeaf lt64 = true /\ K ((σ.map (freezeLeaf fun t => (tagss args).contains t)).put (some d) (r.shift (64 * (d + 1))))) : CallU P f args d σ K := by
 unfold CallU
 rw [hc.2.2]
 refine .inl ⟨hc.1, hc.2.1, ?_⟩
 have : args.map AV.view = args' := by rw [<- ha, mapTops_eq]; rfl
 rw [this]
 exact hcon.mono fun r bx h => ⟨(hk r bx h).1, .freeze (hk r bx h).2⟩
theorem CallU.boxes {f : FuncId} {args args' : List AV} {i : Nat} {is : List Nat} {bx0 bx : List (List AV)} {post : AV -> List (List AV) -> Prop} {σ : St} (hcon : Con P f args' bx post) (hi : dedup (pbss args) = i :: is) (hb : getAll σ.boxes (i :: is) = some bx0)
  (hc : σ.free d = true /\ d < σ.n /\ allLeafs noTag args = true /\ nodupB (i :: is) = true /\ allNoTags bx0 = true) (ha : mapTops (pbIn (i :: is)) args = args') (hbx : mapB (pbIn (i :: is)) bx0 = bx)
  (hk : ∀ r bx', post r bx' -> r.allLeaf lt64b = true /\ allNoTags bx' = true /\ K (St.put ⟨σ.n, σ.tmps, setAll (i :: is) (mapB (outLeaf (64 * (d + 1)) (i :: is) σ.boxes.length) (bx'.take (i :: is).length)) σ.boxes ++ mapB (outLeaf (64 * (d + 1)) (i :: is) σ.boxes.length) (bx'.drop (i :: is).length)⟩ (some d) (r.mapTop (outLeaf (64 * (d + 1)) (i :: is) σ.boxes.length)))) : CallU P f args d σ K := by
 unfold CallU
 rw [hi]
 exact .inl ⟨hc.1, hc.2.1, hc.2.2.1, hc.2.2.2.1, bx0, hb, hc.2.2.2.2, by rw [ha, hbx]; exact hcon.mono hk⟩
theorem CallU.news {f : FuncId} {args args' : List AV} {bx0 bx : List (List AV)} {post : AV -> List (List AV) -> Prop} {σ : St} (hcon : Con P f args' bx post) (hi : dedup (pbss args) = []) (hb : getAll σ.boxes [] = some bx0)
  (hc : σ.free d = true /\ d < σ.n /\ allLeafs noTag args = true /\ nodupB [] = true /\ allNoTags bx0 = true) (ha : mapTops (pbIn []) args = args') (hbx : mapB (pbIn []) bx0 = bx)
  (hk : ∀ r bx', post r bx' -> r.allLeaf lt64b = true /\ allNoTags bx' = true /\ K (St.put ⟨σ.n, σ.tmps, setAll [] (mapB (outLeaf (64 * (d + 1)) [] σ.boxes.length) (bx'.take ([] : List Nat).length)) σ.boxes ++ mapB (outLeaf (64 * (d + 1)) [] σ.boxes.length) (bx'.drop ([] : List Nat).length)⟩ (some d) (r.mapTop (outLeaf (64 * (d + 1)) [] σ.boxes.length)))) : CallU P f args d σ K := by
 unfold CallU
 rw [hi]
 exact .inr (.inl ⟨hc.1, hc.2.1, hc.2.2.1, hc.2.2.2.1, bx0, hb, hc.2.2.2.2, by rw [ha, hbx]; exact hcon.mono hk⟩)
theorem CallU.lend {f : FuncId} {args args' : List AV} {post : AV -> Prop} {σ : St} (hcon : ConC P f args' post) (hc : σ.free d = true /\ d < σ.n /\ dedup (pbss args) = [] /\ allLeafs (pbLt 0) args = true /\ (tagss args).length < 60) (ha : mapTops (renLeaf (tagss args)) args = args')
  (hk : ∀ r, post r -> r.allLeaf lt64c = true /\ K ((σ.map (killS (tagss args))).put (some d) (r.shift (64 * (d + 1))))) : CallU P f args d σ K := by
 unfold CallU
 rw [hc.2.2.1]
 exact .inr (.inr (.inl ⟨hc.1, hc.2.1, hc.2.2.2.1, hc.2.2.2.2, by rw [ha]; exact ⟨hcon.1, fun G w vs h1 h2 h3 => (hcon.2 G w vs h1 h2 h3).mono fun e w' ⟨v, r, G', he, hq, rest⟩ => ⟨v, r, G', he, hk r hq, rest⟩⟩⟩))
theorem CallU.back {f : FuncId} {args args' : List AV} {post : AV -> List AV -> Prop} {σ : St} (hcon : ConW P f args' post) (hc : σ.free d = true /\ d < σ.n /\ dedup (pbss args) = [] /\ allLeafs (pbLt 0) args = true /\ (tagss args).length < 60) (ha : mapTops (renLeaf (tagss args)) args = args')
  (hk : ∀ r ys, post r ys -> r.allLeaf lt64c = true /\ allLeafs lt64c ys = true /\ posG (giveOf args (mapTops (shiftLeaf (64 * (d + 1))) ys)) = true /\
   K ((σ.map (giveLeaf (tagss args) (giveOf args (mapTops (shiftLeaf (64 * (d + 1))) ys)))).put (some d) (r.shift (64 * (d + 1))))) : CallU P f args d σ K := by
 unfold CallU
 rw [hc.2.2.1]
 exact .inr (.inr (.inr (.inl ⟨hc.1, hc.2.1, hc.2.2.2.1, hc.2.2.2.2, by rw [ha]; exact ⟨hcon.1, fun G w vs h1 h2 h3 => (hcon.2 G w vs h1 h2 h3).mono fun e w' ⟨v, r, ys, G', he, hq, rest⟩ => ⟨v, r, ys, G', he, hk r ys hq, rest⟩⟩⟩)))
theorem killR_retag {a b d : Nat} (hb : root b / 64 ≠ d + 1) {G : Nat -> Status} : killR d (retagG a b (killR d G)) = retagG a b (killR d G) := by
 have key : ∀ s : Status, (∀ t, s = .tag t -> root t / 64 ≠ d + 1) -> (match (if s = .tag a then Status.tag b else if s = .tag b then .junk else s) with | .tag t => if root t / 64 = d + 1 then Status.junk else .tag t | s => s) = (if s = .tag a then Status.tag b else if s = .tag b then .junk else s) := by
  intro s hs
  by_cases h1 : s = .tag a
  ·simp [h1, hb]
  ·by_cases h2 : s = .tag b
   ·simp [h2]
    split <;> simp_all
   ·rw [if_neg h1, if_neg h2]
    cases s with
    | tag t => simp [hs t rfl]
    | _ => rfl
 funext k
 refine key (killR d G k) fun t ht => ?_
 unfold killR at ht
 split at ht
 ·split at ht
  ·cases ht
  ·cases ht; assumption
 ·rename_i h3; exact absurd ht (h3 t)
theorem CallU.backR (x y : Nat) (args0 : List AV) {f : FuncId} {args args' : List AV} {post : AV -> List AV -> Prop} {σ : St} (hcon : ConW P f args' post) (h0 : mapTops (retagLeaf x y) args = args0) (hxy : 2 <= x /\ 2 <= y /\ root y / 64 ≠ d + 1) (hf : σ.free d = true /\ dedup (pbss args) = [])
  (hc : (σ.map (retagLeaf x y)).free d = true /\ d < σ.n /\ allLeafs (pbLt 0) args0 = true /\ (tagss args0).length < 60) (ha : mapTops (renLeaf (tagss args0)) args0 = args')
  (hk : ∀ r ys, post r ys -> r.allLeaf lt64c = true /\ allLeafs lt64c ys = true /\ posG (giveOf args0 (mapTops (shiftLeaf (64 * (d + 1))) ys)) = true /\
   K (((σ.map (retagLeaf x y)).map (giveLeaf (tagss args0) (giveOf args0 (mapTops (shiftLeaf (64 * (d + 1))) ys)))).put (some d) (r.shift (64 * (d + 1))))) : CallU P f args d σ K := by
 subst h0
 unfold CallU
 rw [hf.2]
 refine .inr (.inr (.inr (.inr (.inr (.inr ⟨hf.1, _, _, fun G0 w0 G a w vs hs hv => ?_, hc.1, hc.2.1, hc.2.2.1, hc.2.2.2, by rw [ha]; exact ⟨hcon.1, fun G w vs h1 h2 h3 => (hcon.2 G w vs h1 h2 h3).mono fun e w' ⟨v, r, ys, G', he, hq, rest⟩ => ⟨v, r, ys, G', he, hk r ys hq, rest⟩⟩⟩)))))
 refine ⟨_, hs.retag trivial hxy.1 hxy.2.1, ?_⟩
 rw [killR_retag hxy.2.2]
 refine ⟨by rw [mapTops_eq]; simpa using hv.1, fun j x u hx hu => ?_⟩
 rw [mapTops_eq, List.getElem?_map] at hx
 cases hj : args[j]? with
 | none => simp [hj] at hx
 | some y => simp [hj] at hx; subst hx; exact (hv.2 j y u hj hu).retag hxy.1 hxy.2.1
theorem CallU.look {f : FuncId} {args args' : List AV} {post : AV -> List (List AV) -> Prop} {σ : St} (hcon : Con P f args' [] post) (hc : σ.free d = true /\ d < σ.n) (ha : mapTops (viewV σ.boxes) args = args')
  (hk : ∀ r bx, post r bx -> r.allLeaf lt64 = true /\ r.allLeaf flatLeaf = true /\ K (σ.put (some d) (r.shift (64 * (d + 1))))) : CallU P f args d σ K := by
 have h : CallV P f args d σ K := ⟨hc.1, hc.2, by rw [ha]; exact hcon.mono hk⟩
 unfold CallU
 split
 ·exact .inr (.inr (.inr (.inr (.inl h))))
 ·exact .inr (.inl h)
attribute [go_sem] inX okX capX capPbs
attribute [go_sem] viewV viewCap allFzV
attribute [go_sem] giveLeaf giveOf lookG posG
theorem CallY.mk {f : FuncId} {args args' : List AV} {r : AV} {σ : St} (hcon : Con P f args' [] fun r' _ => r' = r) (ha : mapTops viewLeaf args = args') (hr : r.allLeaf lt64 = true) (ht : tagss args = [] \/ r.allLeaf flatLeaf = true) (hk : K (σ.put (some d) (r.shift (64 * (d + 1))))) : CallY P f args d σ K := by
 have : args.map AV.view = args' := by rw [<- ha, mapTops_eq]; rfl
 exact ⟨r, by rw [this]; exact hcon, hr, ht, hk⟩
attribute [go_sem] pbIn outLeaf lt64b getAll setAll nodupB allNoTags pbss AV.pbs dedup freeAll
attribute [go_sem] List.take_zero List.drop_zero List.drop_succ_cons List.drop_nil List.contains_cons List.contains_nil List.nil_append List.cons_append List.set_cons_zero List.set_cons_succ List.map_map
@[go_sem] theorem evClear_tl {P : Program} {T : TypeId} {t i : Nat} {xs : List AV} {σ : St} {K : St -> Prop} : evClear P T σ (.tl t 1 xs i) K = onSlice (P.underlying T) fun E => caseO (tinfo P E) fun q => caseO q.2.2 fun z => andK (q.1 = 1 /\ 2 <= t /\ z.cells = #[z] /\ z.oneCell' = true /\ leafAll [ofConst z] = true)
  (i < xs.length /\ K (σ.map (copyLeaf t i (List.replicate (xs.length - i) (ofConst z))))) := by
 unfold evClear onSlice caseO andK
 simp only [copyDst]
 apply propext
 constructor
 ·rintro ⟨h1, h2, E, q, z, h3, h4, h5, h6, h7, h8, h9, h10⟩
  exact ⟨E, h3, q, h4, z, h6, ⟨h5, h1, h7, h8, h9⟩, h2, h10⟩
 ·rintro ⟨E, h3, q, h4, z, h6, ⟨h5, h1, h7, h8, h9⟩, h2, h10⟩
  exact ⟨h1, h2, E, q, z, h3, h4, h5, h6, h7, h8, h9, h10⟩
@[go_sem] theorem evClear_tl2 {P : Program} {T : TypeId} {t i : Nat} {xs : List AV} {σ : St} {K : St -> Prop} : evClear P T σ (.tl t 2 xs i) K = onSlice (P.underlying T) fun E => caseO (tinfo P E) fun q => caseO q.2.2 fun z => andK (q.1 = 2 /\ 2 <= t /\ z.cells.size = 2 /\ (z.cells.toList.all Value.oneCell') = true)
  (i < xs.length /\ K (σ.map (clrLeaf t 2 i))) := by
 unfold evClear onSlice caseO andK
 simp only [copyDst]
 apply propext
 constructor
 ·rintro ⟨h1, h2, E, q, z, h3, h4, h5, h6, h7, _, h9, h10⟩
  exact ⟨E, h3, q, h4, z, h6, ⟨h5, h1, h7, h9⟩, h2, h10⟩
 ·rintro ⟨E, h3, q, h4, z, h6, ⟨h5, h1, h7, h9⟩, h2, h10⟩
  exact ⟨h1, h2, E, q, z, h3, h4, h5, h6, h7, by omega, h9, h10⟩
@[go_sem] theorem modify_one {α : Type} (x : α) (f : α -> α) : [x].modify 0 f = [f x] := rfl
attribute [go_sem] copyLeaf clrLeaf mvLeaf
end
end Go.AM
namespace Go.AM
open Go Go.Proofs
theorem tinfo_3 : tinfo Tryz.prog 3 = some (1, 8, some (Value.int IntKind.i64 (0))) := by kernel_rfl
theorem agg_3 : aggT Tryz.prog 3 = some false := by kernel_rfl
theorem tinfo_4 : tinfo Tryz.prog 4 = some (1, 1, some (Value.bool false)) := by kernel_rfl
theorem agg_4 : aggT Tryz.prog 4 = some false := by kernel_rfl
theorem tinfo_5 : tinfo Tryz.prog 5 = some (1, 1, some (Value.int IntKind.u8 (0))) := by kernel_rfl
theorem agg_5 : aggT Tryz.prog 5 = some false := by kernel_rfl
theorem tinfo_9 : tinfo Tryz.prog 9 = some (1, 16, some (Value.string (ByteArray.mk (List.toArray [])))) := by kernel_rfl
theorem agg_9 : aggT Tryz.prog 9 = some false := by kernel_rfl
theorem tinfo_22 : tinfo Tryz.prog 22 = some (1, 24, some (Value.slice none 0 0)) := by kernel_rfl
theorem agg_22 : aggT Tryz.prog 22 = some false := by kernel_rfl
theorem tinfo_26 : tinfo Tryz.prog 26 = some (1, 24, some (Value.slice none 0 0)) := by kernel_rfl
theorem agg_26 : aggT Tryz.prog 26 = some false := by kernel_rfl
theorem tinfo_27 : tinfo Tryz.prog 27 = some (1, 24, some (Value.slice none 0 0)) := by kernel_rfl
theorem agg_27 : aggT Tryz.prog 27 = some false := by kernel_rfl
theorem tinfo_28 : tinfo Tryz.prog 28 = some (1, 24, some (Value.slice none 0 0)) := by kernel_rfl
theorem agg_28 : aggT Tryz.prog 28 = some false := by kernel_rfl
theorem tinfo_29 : tinfo Tryz.prog 29 = some (1, 24, some (Value.slice none 0 0)) := by kernel_rfl
theorem agg_29 : aggT Tryz.prog 29 = some false := by kernel_rfl
theorem tinfo_31 : tinfo Tryz.prog 31 = some (2, 32, some (Value.agg (List.toArray [Value.int IntKind.i64 (0), Value.slice none 0 0]))) := by kernel_rfl
theorem agg_31 : aggT Tryz.prog 31 = some true := by kernel_rfl
theorem tinfo_33 : tinfo Tryz.prog 33 = some (10, 176, some (Value.agg (List.toArray [Value.int IntKind.i64 (0), Value.slice none 0 0, Value.slice none 0 0, Value.slice none 0 0, Value.slice none 0 0, Value.int IntKind.i64 (0), Value.int IntKind.i64 (0), Value.slice none 0 0, Value.int IntKind.i64 (0), Value.slice none 0 0]))) := by kernel_rfl
theorem agg_33 : aggT Tryz.prog 33 = some true := by kernel_rfl
theorem agg_35 : aggT Tryz.prog 35 = some false := by kernel_rfl
theorem tinfo_53 : tinfo Tryz.prog 53 = some (1, 24, some (Value.slice none 0 0)) := by kernel_rfl
theorem agg_53 : aggT Tryz.prog 53 = some false := by kernel_rfl
theorem tinfo_55 : tinfo Tryz.prog 55 = some (2, 32, some (Value.agg (List.toArray [Value.int IntKind.i64 (0), Value.slice none 0 0]))) := by kernel_rfl
theorem agg_55 : aggT Tryz.prog 55 = some true := by kernel_rfl
theorem tinfo_61 : tinfo Tryz.prog 61 = some (1, 24, some (Value.slice none 0 0)) := by kernel_rfl
theorem agg_61 : aggT Tryz.prog 61 = some false := by kernel_rfl
theorem tinfo_67 : tinfo Tryz.prog 67 = some (1, 24, some (Value.slice none 0 0)) := by kernel_rfl
theorem agg_67 : aggT Tryz.prog 67 = some false := by kernel_rfl
theorem tinfo_69 : tinfo Tryz.prog 69 = some (14, 232, some (Value.agg (List.toArray [Value.string (ByteArray.mk (List.toArray [])), Value.int IntKind.i64 (0), Value.int IntKind.i64 (0), Value.slice none 0 0, Value.slice none 0 0, Value.slice none 0 0, Value.int IntKind.i64 (0), Value.int IntKind.i64 (0), Value.int IntKind.i64 (0), Value.slice none 0 0, Value.slice none 0 0, Value.slice none 0 0, Value.slice none 0 0, Value.int IntKind.i64 (0)]))) := by kernel_rfl
theorem agg_69 : aggT Tryz.prog 69 = some true := by kernel_rfl
theorem tinfo_74 : tinfo Tryz.prog 74 = some (2, 32, some (Value.agg (List.toArray [Value.bool false, Value.slice none 0 0]))) := by kernel_rfl
theorem agg_74 : aggT Tryz.prog 74 = some true := by kernel_rfl
theorem tinfo_86 : tinfo Tryz.prog 86 = some (2, 32, some (Value.agg (List.toArray [Value.slice none 0 0, Value.int IntKind.i64 (0)]))) := by kernel_rfl
theorem tinfo_133 : tinfo Tryz.prog 133 = some (1, 24, some (Value.slice none 0 0)) := by kernel_rfl
theorem agg_133 : aggT Tryz.prog 133 = some false := by kernel_rfl
theorem tinfo_135 : tinfo Tryz.prog 135 = some (4, 64, some (Value.agg (List.toArray [Value.int IntKind.i64 (0), Value.int IntKind.i64 (0), Value.slice none 0 0, Value.slice none 0 0]))) := by kernel_rfl
theorem agg_135 : aggT Tryz.prog 135 = some true := by kernel_rfl
theorem tinfo_205 : tinfo Tryz.prog 205 = some (3, 24, some (Value.agg (List.toArray [Value.int IntKind.i64 (0), Value.int IntKind.i64 (0), Value.int IntKind.i64 (0)]))) := by kernel_rfl
theorem agg_205 : aggT Tryz.prog 205 = some true := by kernel_rfl
theorem agg_209 : aggT Tryz.prog 209 = some false := by kernel_rfl
theorem tinfo_236 : tinfo Tryz.prog 236 = some (2, 16, some (Value.agg (List.toArray [Value.int IntKind.i64 (0), Value.int IntKind.i64 (0)]))) := by kernel_rfl
theorem tinfo_238 : tinfo Tryz.prog 238 = some (8, 64, some (Value.agg (List.toArray [Value.int IntKind.i64 (0), Value.int IntKind.i64 (0), Value.int IntKind.i64 (0), Value.int IntKind.i64 (0), Value.int IntKind.i64 (0), Value.int IntKind.i64 (0), Value.int IntKind.i64 (0), Value.int IntKind.i64 (0)]))) := by kernel_rfl
theorem agg_238 : aggT Tryz.prog 238 = some true := by kernel_rfl
theorem places_31 : placesOf Tryz.prog 31 = some [(0, 1), (1, 1)] := by kernel_rfl
theorem field_31_0 : fieldOf Tryz.prog 31 0 = some (0, 3) := by kernel_rfl
theorem field_31_1 : fieldOf Tryz.prog 31 1 = some (1, 29) := by kernel_rfl
theorem places_33 : placesOf Tryz.prog 33 = some [(0, 1), (1, 1), (2, 1), (3, 1), (4, 1), (5, 1), (6, 1), (7, 1), (8, 2)] := by kernel_rfl
theorem field_33_0 : fieldOf Tryz.prog 33 0 = some (0, 3) := by kernel_rfl
theorem field_33_1 : fieldOf Tryz.prog 33 1 = some (1, 26) := by kernel_rfl
theorem field_33_2 : fieldOf Tryz.prog 33 2 = some (2, 26) := by kernel_rfl
theorem field_33_3 : fieldOf Tryz.prog 33 3 = some (3, 26) := by kernel_rfl
theorem field_33_4 : fieldOf Tryz.prog 33 4 = some (4, 27) := by kernel_rfl
theorem field_33_5 : fieldOf Tryz.prog 33 5 = some (5, 3) := by kernel_rfl
theorem field_33_6 : fieldOf Tryz.prog 33 6 = some (6, 3) := by kernel_rfl
theorem field_33_7 : fieldOf Tryz.prog 33 7 = some (7, 28) := by kernel_rfl
theorem field_33_8 : fieldOf Tryz.prog 33 8 = some (8, 31) := by kernel_rfl
theorem places_55 : placesOf Tryz.prog 55 = some [(0, 1), (1, 1)] := by kernel_rfl
theorem field_55_0 : fieldOf Tryz.prog 55 0 = some (0, 3) := by kernel_rfl
theorem field_55_1 : fieldOf Tryz.prog 55 1 = some (1, 53) := by kernel_rfl
theorem places_69 : placesOf Tryz.prog 69 = some [(0, 1), (1, 1), (2, 1), (3, 1), (4, 1), (5, 1), (6, 1), (7, 1), (8, 1), (9, 1), (10, 1), (11, 1), (12, 1), (13, 1)] := by kernel_rfl
theorem field_69_0 : fieldOf Tryz.prog 69 0 = some (0, 9) := by kernel_rfl
theorem field_69_1 : fieldOf Tryz.prog 69 1 = some (1, 3) := by kernel_rfl
theorem field_69_2 : fieldOf Tryz.prog 69 2 = some (2, 3) := by kernel_rfl
theorem field_69_3 : fieldOf Tryz.prog 69 3 = some (3, 27) := by kernel_rfl
theorem field_69_4 : fieldOf Tryz.prog 69 4 = some (4, 27) := by kernel_rfl
theorem field_69_5 : fieldOf Tryz.prog 69 5 = some (5, 27) := by kernel_rfl
theorem field_69_6 : fieldOf Tryz.prog 69 6 = some (6, 3) := by kernel_rfl
theorem field_69_7 : fieldOf Tryz.prog 69 7 = some (7, 3) := by kernel_rfl
theorem field_69_8 : fieldOf Tryz.prog 69 8 = some (8, 3) := by kernel_rfl
theorem field_69_9 : fieldOf Tryz.prog 69 9 = some (9, 27) := by kernel_rfl
theorem field_69_10 : fieldOf Tryz.prog 69 10 = some (10, 27) := by kernel_rfl
theorem field_69_11 : fieldOf Tryz.prog 69 11 = some (11, 67) := by kernel_rfl
theorem field_69_12 : fieldOf Tryz.prog 69 12 = some (12, 27) := by kernel_rfl
theorem field_69_13 : fieldOf Tryz.prog 69 13 = some (13, 3) := by kernel_rfl
theorem places_74 : placesOf Tryz.prog 74 = some [(0, 1), (1, 1)] := by kernel_rfl
theorem field_74_0 : fieldOf Tryz.prog 74 0 = some (0, 4) := by kernel_rfl
theorem field_74_1 : fieldOf Tryz.prog 74 1 = some (1, 27) := by kernel_rfl
theorem places_86 : placesOf Tryz.prog 86 = some [(0, 1), (1, 1)] := by kernel_rfl
theorem field_86_0 : fieldOf Tryz.prog 86 0 = some (0, 22) := by kernel_rfl
theorem field_86_1 : fieldOf Tryz.prog 86 1 = some (1, 3) := by kernel_rfl
theorem places_135 : placesOf Tryz.prog 135 = some [(0, 1), (1, 1), (2, 1), (3, 1)] := by kernel_rfl
theorem field_135_0 : fieldOf Tryz.prog 135 0 = some (0, 3) := by kernel_rfl
theorem field_135_1 : fieldOf Tryz.prog 135 1 = some (1, 3) := by kernel_rfl
theorem field_135_2 : fieldOf Tryz.prog 135 2 = some (2, 27) := by kernel_rfl
theorem field_135_3 : fieldOf Tryz.prog 135 3 = some (3, 133) := by kernel_rfl
theorem field_205_0 : fieldOf Tryz.prog 205 0 = some (0, 3) := by kernel_rfl
theorem field_205_1 : fieldOf Tryz.prog 205 1 = some (1, 3) := by kernel_rfl
theorem field_205_2 : fieldOf Tryz.prog 205 2 = some (2, 3) := by kernel_rfl
theorem places_236 : placesOf Tryz.prog 236 = some [(0, 1), (1, 1)] := by kernel_rfl
theorem places_238 : placesOf Tryz.prog 238 = some [(0, 2), (2, 2), (4, 2), (6, 2)] := by kernel_rfl
theorem field_238_0 : fieldOf Tryz.prog 238 0 = some (0, 236) := by kernel_rfl
theorem field_238_1 : fieldOf Tryz.prog 238 1 = some (2, 236) := by kernel_rfl
theorem field_238_2 : fieldOf Tryz.prog 238 2 = some (4, 236) := by kernel_rfl
theorem field_238_3 : fieldOf Tryz.prog 238 3 = some (6, 236) := by kernel_rfl
theorem mixed : Tryz.prog.follows .mixedOrders = true := by kernel_rfl
attribute [go_sem] Tryz.underlying0 Tryz.underlying1 Tryz.underlying2 tinfo_3 agg_3 Tryz.underlying3 tinfo_4 agg_4 Tryz.underlying4 tinfo_5 agg_5 Tryz.underlying5 Tryz.underlying6 Tryz.underlying7 Tryz.underlying8 tinfo_9 agg_9 Tryz.underlying9 Tryz.underlying10 Tryz.underlying11 Tryz.underlying12 Tryz.underlying13 Tryz.underlying14 Tryz.underlying15 Tryz.underlying16 Tryz.underlying17 Tryz.underlying18 Tryz.underlying19 Tryz.underlying20 Tryz.underlying21 tinfo_22 agg_22 Tryz.underlying22 Tryz.underlying23 Tryz.underlying24 Tryz.underlying25 tinfo_26 agg_26 Tryz.underlying26 tinfo_27 agg_27 Tryz.underlying27 tinfo_28 agg_28 Tryz.underlying28 tinfo_29 agg_29 Tryz.underlying29 Tryz.underlying30 tinfo_31 agg_31 Tryz.underlying31 Tryz.underlying32 tinfo_33 agg_33 Tryz.underlying33 Tryz.underlying34 agg_35 Tryz.underlying35 Tryz.underlying36 Tryz.underlying37 Tryz.underlying38 Tryz.underlying39 Tryz.underlying40 Tryz.underlying41 Tryz.underlying42 Tryz.underlying43 Tryz.underlying44 Tryz.underlying45 Tryz.underlying46 Tryz.underlying47 Tryz.underlying48 Tryz.underlying49 Tryz.underlying50 Tryz.underlying51 Tryz.underlying52 tinfo_53 agg_53 Tryz.underlying53 Tryz.underlying54 tinfo_55 agg_55 Tryz.underlying55 Tryz.underlying56 Tryz.underlying57 Tryz.underlying58 Tryz.underlying59 Tryz.underlying60 tinfo_61 agg_61 Tryz.underlying61 Tryz.underlying62 Tryz.underlying63 Tryz.underlying64 Tryz.underlying65 Tryz.underlying66 tinfo_67 agg_67 Tryz.underlying67 Tryz.underlying68 tinfo_69 agg_69 Tryz.underlying69 Tryz.underlying70 Tryz.underlying71 Tryz.underlying72 Tryz.underlying73 tinfo_74 agg_74 Tryz.underlying74 Tryz.underlying75 Tryz.underlying76 Tryz.underlying77 Tryz.underlying78 Tryz.underlying79 Tryz.underlying80 Tryz.underlying81 Tryz.underlying82 Tryz.underlying83 Tryz.underlying84 Tryz.underlying85 tinfo_86 Tryz.underlying86 Tryz.underlying87 Tryz.underlying88 Tryz.underlying89 Tryz.underlying90 Tryz.underlying91 Tryz.underlying92 Tryz.underlying93 Tryz.underlying94 Tryz.underlying95 Tryz.underlying96 Tryz.underlying97 Tryz.underlying98 Tryz.underlying99 Tryz.underlying100 Tryz.underlying101 Tryz.underlying102 Tryz.underlying103 Tryz.underlying104 Tryz.underlying105 Tryz.underlying106 Tryz.underlying107 Tryz.underlying108 Tryz.underlying109 Tryz.underlying110 Tryz.underlying111 Tryz.underlying112 Tryz.underlying113 Tryz.underlying114 Tryz.underlying115 Tryz.underlying116 Tryz.underlying117 Tryz.underlying118 Tryz.underlying119 Tryz.underlying120 Tryz.underlying121 Tryz.underlying122 Tryz.underlying123 Tryz.underlying124 Tryz.underlying125 Tryz.underlying126 Tryz.underlying127 Tryz.underlying128 Tryz.underlying129 Tryz.underlying130 Tryz.underlying131 Tryz.underlying132 tinfo_133 agg_133 Tryz.underlying133 Tryz.underlying134 tinfo_135 agg_135 Tryz.underlying135 Tryz.underlying136 Tryz.underlying137 Tryz.underlying138 Tryz.underlying139 Tryz.underlying140 Tryz.underlying141 Tryz.underlying142 Tryz.underlying143 Tryz.underlying144 Tryz.underlying145 Tryz.underlying146 Tryz.underlying147 Tryz.underlying148 Tryz.underlying149 Tryz.underlying150 Tryz.underlying151 Tryz.underlying152 Tryz.underlying153 Tryz.underlying154 Tryz.underlying155 Tryz.underlying156 Tryz.underlying157 Tryz.underlying158 Tryz.underlying159 Tryz.underlying160 Tryz.underlying161 Tryz.underlying162 Tryz.underlying163 Tryz.underlying164 Tryz.underlying165 Tryz.underlying166 Tryz.underlying167 Tryz.underlying168 Tryz.underlying169 Tryz.underlying170 Tryz.underlying171 Tryz.underlying172 Tryz.underlying173 Tryz.underlying174 Tryz.underlying175 Tryz.underlying176 Tryz.underlying177 Tryz.underlying178 Tryz.underlying179 Tryz.underlying180 Tryz.underlying181 Tryz.underlying182 Tryz.underlying183 Tryz.underlying184 Tryz.underlying185 Tryz.underlying186 Tryz.underlying187 Tryz.underlying188 Tryz.underlying189 Tryz.underlying190 Tryz.underlying191 Tryz.underlying192 Tryz.underlying193 Tryz.underlying194 Tryz.underlying195 Tryz.underlying196 Tryz.underlying197 Tryz.underlying198 Tryz.underlying199 Tryz.underlying200 Tryz.underlying201 Tryz.underlying202 Tryz.underlying203 Tryz.underlying204 tinfo_205 agg_205 Tryz.underlying205 Tryz.underlying206 Tryz.underlying207 Tryz.underlying208 agg_209 Tryz.underlying209 Tryz.underlying210 Tryz.underlying211 Tryz.underlying212 Tryz.underlying213 Tryz.underlying214 Tryz.underlying215 Tryz.underlying216 Tryz.underlying217 Tryz.underlying218 Tryz.underlying219 Tryz.underlying220 Tryz.underlying221 Tryz.underlying222 Tryz.underlying223 Tryz.underlying224 Tryz.underlying225 Tryz.underlying226 Tryz.underlying227 Tryz.underlying228 Tryz.underlying229 Tryz.underlying230 Tryz.underlying231 Tryz.underlying232 Tryz.underlying233 Tryz.underlying234 Tryz.underlying235 tinfo_236 Tryz.underlying236 Tryz.underlying237 tinfo_238 agg_238 Tryz.underlying238 Tryz.underlying239 Tryz.underlying240 Tryz.underlying241 Tryz.underlying242 Tryz.underlying243 Tryz.underlying244 Tryz.underlying245 Tryz.underlying246 Tryz.underlying247 Tryz.underlying248 Tryz.underlying249 Tryz.underlying250 Tryz.underlying251 Tryz.underlying252 Tryz.underlying253 Tryz.underlying254 Tryz.underlying255 Tryz.underlying256 Tryz.underlying257 Tryz.underlying258 Tryz.underlying259 Tryz.underlying260 Tryz.underlying261 Tryz.underlying262 Tryz.underlying263 Tryz.underlying264 Tryz.underlying265 Tryz.underlying266 Tryz.underlying267 Tryz.underlying268 Tryz.underlying269 Tryz.underlying270 Tryz.underlying271 Tryz.underlying272 Tryz.underlying273 Tryz.underlying274 Tryz.underlying275 Tryz.underlying276 Tryz.underlying277 Tryz.underlying278 Tryz.underlying279 Tryz.underlying280 Tryz.underlying281 Tryz.underlying282 Tryz.underlying283 Tryz.underlying284 Tryz.underlying285 Tryz.underlying286 Tryz.underlying287 Tryz.underlying288 Tryz.underlying289 Tryz.underlying290 Tryz.underlying291 Tryz.underlying292 Tryz.underlying293 Tryz.underlying294 Tryz.underlying295 Tryz.underlying296 Tryz.underlying297 Tryz.underlying298 Tryz.underlying299 Tryz.underlying300 Tryz.underlying301 Tryz.underlying302 Tryz.underlying303 Tryz.underlying304 Tryz.underlying305 Tryz.underlying306 Tryz.underlying307 Tryz.underlying308 Tryz.underlying309 Tryz.underlying310 Tryz.underlying311 Tryz.underlying312 Tryz.underlying313 Tryz.underlying314 Tryz.underlying315 Tryz.underlying316 Tryz.underlying317 Tryz.underlying318 Tryz.underlying319 Tryz.underlying320 Tryz.underlying321 Tryz.underlying322 Tryz.underlying323 Tryz.underlying324 Tryz.underlying325 Tryz.underlying326 Tryz.underlying327 Tryz.underlying328 Tryz.underlying329 Tryz.underlying330 Tryz.underlying331 Tryz.underlying332 Tryz.underlying333 Tryz.underlying334 Tryz.underlying335 Tryz.underlying336 Tryz.underlying337 Tryz.underlying338 Tryz.underlying339 places_31 field_31_0 field_31_1 places_33 field_33_0 field_33_1 field_33_2 field_33_3 field_33_4 field_33_5 field_33_6 field_33_7 field_33_8 places_55 field_55_0 field_55_1 places_69 field_69_0 field_69_1 field_69_2 field_69_3 field_69_4 field_69_5 field_69_6 field_69_7 field_69_8 field_69_9 field_69_10 field_69_11 field_69_12 field_69_13 places_74 field_74_0 field_74_1 places_86 field_86_0 field_86_1 places_135 field_135_0 field_135_1 field_135_2 field_135_3 field_205_0 field_205_1 field_205_2 places_236 places_238 field_238_0 field_238_1 field_238_2 field_238_3
end Go.AM
namespace Go.AM
open Go.RowKit
section
variable {P : Program} {ops : Array Oper}
theorem exec_congr {ρ ρ' : Operand -> Value} {o : Oper} (hs : ∀ cs b, o.op ≠ .select cs b) (h : ∀ x ∈ o.op.operands, ρ x = ρ' x) : execOp ρ o = execOp ρ' o := by
 obtain ⟨d, op, T, pos, af, g⟩ := o
 have hm : ∀ {l : Array Operand}, (∀ x ∈ l, ρ x = ρ' x) -> l.map ρ = l.map ρ' := fun h => Array.map_congr_left h
 have hr : ∀ {c : Call}, (∀ x ∈ c.operands, ρ x = ρ' x) -> resolve ρ c T = resolve ρ' c T := by
  intro c hc
  obtain ⟨cl, args, As⟩ := c
  have ha : args.map ρ = args.map ρ' := hm fun x hx => hc x (by simp [Call.operands, hx])
  cases cl with
  | value f => simp only [resolve, ha, hc f (by simp [Call.operands])]
  | invoke r nm => simp only [resolve, ha, hc r (by simp [Call.operands])]
  | builtin b => simp only [resolve, ha]
 have hp : ∀ {ps : Array (Nat × Operand)}, (∀ x ∈ (ps.toList.map (·.2)).toArray, ρ x = ρ' x) -> (ps.map fun (i, x) => (i, ρ x)) = ps.map fun (i, x) => (i, ρ' x) := by
  intro ps h
  refine Array.map_congr_left fun p hp => ?_
  obtain ⟨i, x⟩ := p
  have e := h x (by simp only [List.mem_toArray, List.mem_map, Array.mem_toList_iff]; exact ⟨(i, x), hp, rfl⟩)
  simp only [e]
 have ho : ∀ {x : Option Operand}, (∀ y ∈ x, ρ y = ρ' y) -> x.map ρ = x.map ρ' := by
  intro x h; cases x with
  | none => rfl
  | some y => simp [h y rfl]
 cases op with
 | alloc | ready | waits => rfl
 | build _ ps => simp only [execOp]; rw [hp (ps := ps) h]
 | buildSlice _ _ ps => simp only [execOp]; rw [hp (ps := ps) h]
 | makeFunc fn f c =>
  simp only [Op.operands, Array.mem_append] at h
  simp only [execOp]; rw [hm (l := f) fun x hx => h x (.inl hx), hm (l := c) fun x hx => h x (.inr hx)]
 | makeMap t r =>
  simp only [execOp]; rw [ho (x := r) fun y hy => h y (by simp [Op.operands]; exact hy)]
 | slice t x l h' m =>
  simp only [execOp]
  rw [h x (by simp [Op.operands]), ho (x := l) fun y hy => h y (by simp [Op.operands]; exact .inr (.inl hy)), ho (x := h') fun y hy => h y (by simp [Op.operands]; exact .inr (.inr (.inl hy))), ho (x := m) fun y hy => h y (by simp [Op.operands]; exact .inr (.inr (.inr hy)))]
 | call c => simp only [execOp]; rw [hr (c := c) h]
 | go c => simp only [execOp]; rw [hr (c := c) h]
 | defer c => simp only [execOp]; rw [hr (c := c) h]
 | select cs b => exact absurd rfl (hs cs b)
 | _ => simp [Op.operands] at h <;> simp [execOp, h]
theorem eval_put {a : Act} {d : Nat} {v : Value} {x : Operand} (h : x ≠ .tmp d) : (a.put (some d) v).eval x = a.eval x := by
 cases x with
 | tmp s =>
  have : d ≠ s := fun h' => h (by rw [h'])
  simp [Act.eval, Act.put, Array.getElem?_setIfInBounds_ne this]
 | _ => rfl
theorem put_put {a : Act} {d : Nat} {o : Option Tmp} {v x : Value} (h : o ≠ some d) : (a.put (some d) v).put o x = (a.put o x).put (some d) v := by
 cases o with
 | none => rfl
 | some e =>
  have : d ≠ e := fun h' => h (by rw [h'])
  simp only [Act.put]
  rw [Array.setIfInBounds_comm _ _ this]
structure Front (ops : Array Oper) (j : Nat) (p : Oper) (d : Nat) : Prop where
 here : ops[j]? = some p
 guard : p.guard = none
 dst : p.dst = some d
 sel : ∀ cs b, p.op ≠ .select cs b
 other : ∀ i o, ops[i]? = some o -> i ≠ j -> (∀ cs b, o.op ≠ .select cs b) /\ o.dst ≠ some d /\ (d ∈ slotsOf o -> reach ops ops.size i j = true) /\ (∀ s, o.dst = some s -> s ∈ slotsOf p -> reach ops ops.size j i = true \/ reach ops ops.size i j = true) /\ (∀ g b, o.guard = some (g, b) -> guardSlot ops g ≠ some d)
theorem mem_slots {o : Oper} {s : Nat} (h : Operand.tmp s ∈ o.op.operands) : s ∈ slotsOf o := by
 unfold slotsOf
 exact List.mem_filterMap.2 ⟨.tmp s, by simpa using h, rfl⟩
theorem wanted_put {o : Oper} {a : Act} {d : Nat} {v : Value} (h : ∀ g b, o.guard = some (g, b) -> guardSlot ops g ≠ some d) : Region.wanted o (yielded ops (a.put (some d) v).tmps) = Region.wanted o (yielded ops a.tmps) := by
 unfold Region.wanted
 cases hg : o.guard with
 | none => rfl
 | some p =>
  obtain ⟨g, b⟩ := p
  have := h g b hg
  have e : yielded ops (a.put (some d) v).tmps g = yielded ops a.tmps g := by
   unfold guardSlot at this
   unfold yielded
   cases hs : (ops[g]?).bind (·.dst) with
   | none => rfl
   | some s =>
    rw [hs] at this
    have hds : d ≠ s := fun h' => this (by rw [h'])
    simp only [Act.put, Option.bind_some, Array.getElem?_setIfInBounds_ne hds]
  simp [e]
theorem wpOp_swap {Q : Exit -> Act -> World -> Prop} (hQ : ∀ e a w, e ≠ .normal -> ¬ Q e a w) {i d : Nat} {o : Oper} {a : Act} {w : World} {v : Value} {K K' : Act -> World -> Prop}
  (ho : ops[i]? = some o) (hs : ∀ cs b, o.op ≠ .select cs b) (hd : o.dst ≠ some d) (hr : d ∉ slotsOf o) (hg : ∀ g b, o.guard = some (g, b) -> guardSlot ops g ≠ some d)
  (hK : ∀ ds x w', K (({ a with defers := ds } : Act).put o.dst x |>.put (some d) v) w' -> K' (({ a with defers := ds } : Act).put o.dst x) w')
  (h : Go.wpOp P ops Q i K (a.put (some d) v) w) : Go.wpOp P ops Q i K' a w := by
 have he : execOp (a.put (some d) v).eval o = execOp a.eval o := exec_congr hs fun x hx => eval_put fun hxd => hr (mem_slots (by rw [<- hxd]; exact hx))
 have hout : ¬ LetsOut Q := fun ⟨a, w, h⟩ => hQ _ _ _ (by simp) h
 have hk : ∀ x w', K ((a.put (some d) v).put o.dst x) w' -> K' (a.put o.dst x) w' := fun x w' h => hK a.defers x w' (by rw [put_put hd] at h; exact h)
 simp only [Go.wpOp, ho, wanted_put hg] at h ⊢
 split
 ·rename_i hw
  simp only [hw, if_true] at h
  rcases h with h | ⟨_, h⟩
  ·refine .inl ?_
   simp only [Oper.wp, he] at h ⊢
   generalize (execOp a.eval o).run P w = r at *
   cases r with
   | ok n w' =>
    cases n <;> simp only [Oper.upon] at h ⊢
    case value => exact hk _ _ h
    case skip => exact hk _ _ h
    case defer D =>
     refine hK (D :: a.defers) _ _ ?_
     have : ({ (a.put (some d) v) with defers := D :: (a.put (some d) v).defers } : Act) = ({ a with defers := D :: a.defers } : Act).put (some d) v := rfl
     rw [this, put_put hd] at h; exact h
    case enter =>
     refine Calls.mono h fun e w'' h => ?_
     rcases e with _ | _ | _
     ·exact hk _ _ h
     ·exact absurd h (hQ _ _ _ (by simp))
     ·exact absurd h hout
    case row => exact Rows.mono h fun _ _ h => hk _ _ h
   | halt x w' =>
    cases x <;> simp only [Oper.upon] at h ⊢
    exact absurd h (hQ _ _ _ (by simp))
  ·exact absurd h hout
 ·rename_i hw
  simp only [hw] at h
  exact hk _ _ h
theorem front_run {Q : Exit -> Act -> World -> Prop} (hQ : ∀ e a w, e ≠ .normal -> ¬ Q e a w) {j d : Nat} {p : Oper} (hf : Front ops j p d) :
  ∀ (fuel : Nat) (listed : Array Bool) (a : Act) (w : World) (v : Value), listed.size = ops.size -> Closed ops (fun k => listed.getD k false) -> j ∈ Region.ready .any ops listed ->
   (∀ w', (execOp a.eval p).run P w' = .ok (.value v) w') -> wpAny P .any ops Q fuel (listed.setIfInBounds j true) (a.put (some d) v) w -> wpAny P .any ops Q (fuel + 1) listed a w := by
 intro fuel
 have key : ∀ {listed : Array Bool} {i : Nat}, listed.size = ops.size -> i ∈ Region.ready .any ops listed -> j ∈ Region.ready .any ops listed -> i ≠ j -> i ∈ Region.ready .any ops (listed.setIfInBounds j true) := by
  intro listed i hsz hi hj hij
  obtain ⟨o, ho, h1, h2⟩ := (ready_iff hsz).1 hi
  obtain ⟨p', hp', _⟩ := (ready_iff hsz).1 hj
  have hjl : j < listed.size := by rw [hsz]; exact (Array.getElem?_eq_some_iff.1 hp').1
  refine (ready_iff (by simpa using hsz)).2 ⟨o, ho, ?_, fun k hk => ?_⟩
  ·rw [set_getD hjl, if_neg (Ne.symm hij)]; exact h1
  ·rw [set_getD hjl]; split
   ·rfl
   ·exact h2 k hk
 have first : ∀ (fuel : Nat) (listed : Array Bool) (a : Act) (w : World) (v : Value), (∀ w', (execOp a.eval p).run P w' = .ok (.value v) w') -> wpAny P .any ops Q fuel (listed.setIfInBounds j true) (a.put (some d) v) w ->
   Go.wpOp P ops Q j (wpAny P .any ops Q fuel (listed.setIfInBounds j true)) a w := by
  intro fuel listed a w v hex h
  simp only [Go.wpOp, hf.here]
  rw [if_pos (by simp [Region.wanted, hf.guard])]
  refine .inl ?_
  simp only [Oper.wp, hex w, Oper.upon, hf.dst]
  exact h
 induction fuel with
 | zero =>
  intro listed a w v hsz hc hj hex h
  refine ⟨fun hr => absurd hj (by rw [hr]; simp), fun i hi => ?_⟩
  by_cases hij : i = j
  ·subst hij; exact first 0 listed a w v hex h
  ·exact absurd (key hsz hi hj hij) (by rw [h.1]; simp)
 | succ fuel ih =>
  intro listed a w v hsz hc hj hex h
  refine ⟨fun hr => absurd hj (by rw [hr]; simp), fun i hi => ?_⟩
  by_cases hij : i = j
  ·subst hij; exact first (fuel + 1) listed a w v hex h
  ·obtain ⟨o, ho, h1, h2⟩ := (ready_iff hsz).1 hi
   obtain ⟨p', hp', k1, k2⟩ := (ready_iff hsz).1 hj
   rw [hf.here] at hp'; cases hp'
   have hjl : j < listed.size := by rw [hsz]; exact (Array.getElem?_eq_some_iff.1 hf.here).1
   have hil : i < listed.size := by rw [hsz]; exact (Array.getElem?_eq_some_iff.1 ho).1
   obtain ⟨s1, s2, s3, s4, s5⟩ := hf.other i o ho hij
   have hr : d ∉ slotsOf o := fun hm => by
    have := reach_listed hc ops.size i j o ho h2 (s3 hm)
    rw [k1] at this; cases this
   have hr' : ∀ s, o.dst = some s -> s ∉ slotsOf p := fun s hs hm => by
    rcases s4 s hs hm with s4 | s4
    ·have := reach_listed hc ops.size j i p hf.here k2 s4
     rw [h1] at this; cases this
    ·have := reach_listed hc ops.size i j o ho h2 s4
     rw [k1] at this; cases this
   refine wpOp_swap hQ ho s1 s2 hr s5 (fun ds x w' hk => ?_) (h.2 i (key hsz hi hj hij))
   rw [Array.setIfInBounds_comm _ _ (Ne.symm hij)] at hk
   refine ih _ _ _ v (by simpa using hsz) (hc.step hil ho h2) ((ready_iff (by simpa using hsz)).2 ⟨p, hf.here, by rw [set_getD hil, if_neg hij]; exact k1, fun k hk' => ?_⟩) (fun w' => ?_) hk
   ·rw [set_getD hil]; split
    ·rfl
    ·exact k2 k hk'
   ·rw [<- hex w']
    congr 1
    refine exec_congr hf.sel fun x hx => ?_
    cases hod : o.dst with
    | none => cases x <;> rfl
    | some e =>
     rw [eval_put (fun hxe => hr' e hod (mem_slots (by rw [<- hxe]; exact hx)))]
     cases x <;> rfl
def isSlice : AV -> Bool
 | .sl _ _ _ => true
 | .so _ _ => true
 | _ => false
def frontV (P : Program) (op : Op) (σ : St) (K : AV -> Prop) : Prop :=
 match op with
 | .move x => K (σ.ev x)
 | .indexAddr T x i => isSlice (σ.ev x) = true /\ evIndexAddr P T (σ.ev x) (σ.ev i) K
 | _ => False
def walkT (P : Program) (ops : Array Oper) (F : List Nat) : Nat -> List Oper -> St -> (St -> Prop) -> Prop
 | _, [], σ, K => K σ
 | k, o :: l, σ, K => if F.contains k = true then walkT P ops F (k + 1) l σ K else opsA P ops [o] σ fun σ' => walkT P ops F (k + 1) l σ' K
def walkX (P : Program) (ops : Array Oper) (F : List Nat) (m : Nat) : Nat -> List Oper -> St -> (St -> Prop) -> Prop
 | k, [], σ, K => walkT P ops F k [] σ K
 | k, o :: l, σ, K => if k < m then
   (if F.contains k = true then match o.dst with
    | some d => d < σ.n /\ walkX P ops F m (k + 1) l (σ.put (some d) (σ.ev (.tmp d))) K
    | none => False
   else headOp P o σ fun σ' => walkX P ops F m (k + 1) l σ' K)
  else walkT P ops F k (o :: l) σ K
def frontsA (P : Program) (ops : Array Oper) : List Nat -> St -> (St -> Prop) -> Prop
 | [], σ, K => K σ
 | j :: F, σ, K => match ops[j]? with
  | some ⟨some d, op, _, _, _, _⟩ => d < σ.n /\ frontV P op σ fun y => frontsA P ops F (σ.put (some d) y) K
  | _ => False
def noSel (o : Oper) : Bool :=
 match o.op with
 | .select _ _ => false
 | _ => true
theorem noSel_of {o : Oper} (h : noSel o = true) : ∀ cs b, o.op ≠ .select cs b := fun cs b he => by simp [noSel, he] at h
def frontOk (ops : Array Oper) (j : Nat) (p : Oper) : Bool :=
 p.guard.isNone && noSel p && match p.dst with
 | none => false
 | some d => (List.range ops.size).all fun i => i == j || match ops[i]? with
  | none => false
  | some o => noSel o && (o.dst != some d && ((!(slotsOf o).contains d || reach ops ops.size i j) && ((match o.dst with
   | none => true
   | some s => !(slotsOf p).contains s || (reach ops ops.size j i || reach ops ops.size i j)) && match o.guard with
   | none => true
   | some (g, _) => guardSlot ops g != some d)))
theorem frontOk_front {j : Nat} {p : Oper} (hj : ops[j]? = some p) (h : frontOk ops j p = true) : ∃ d, Front ops j p d := by
 simp only [frontOk, Bool.and_eq_true] at h
 obtain ⟨⟨h1, h2⟩, h3⟩ := h
 split at h3
 ·cases h3
 ·rename_i d hd
  refine ⟨d, hj, by simpa using h1, hd, noSel_of h2, fun i o ho hij => ?_⟩
  simp only [List.all_eq_true, List.mem_range] at h3
  have := h3 i (Array.getElem?_eq_some_iff.1 ho).1
  simp only [ho, Bool.or_eq_true, beq_iff_eq, hij, false_or, Bool.and_eq_true, bne_iff_ne, ne_eq, Bool.not_eq_true'] at this
  obtain ⟨g1, g2, g3, g4, g5⟩ := this
  refine ⟨noSel_of g1, g2, fun hm => ?_, fun s hs hm => ?_, fun g b hg => ?_⟩
  ·exact g3.resolve_left (by simpa using hm)
  ·rw [hs] at g4
   simp only [Bool.or_eq_true, Bool.not_eq_true'] at g4
   exact g4.resolve_left (by simpa using hm)
  ·rw [hg] at g5; simpa using g5
theorem wpAny_normal {Q : Exit -> Act -> World -> Prop} : ∀ (fuel : Nat) (listed : Array Bool) (a : Act) (w : World), wpAny P .any ops (fun e a w => e = .normal /\ Q e a w) fuel listed a w -> wpAny P .any ops Q fuel listed a w := by
 have hop : ∀ {i : Nat} {K K' : Act -> World -> Prop} {a : Act} {w : World}, (∀ a w, K a w -> K' a w) -> Go.wpOp P ops (fun e a w => e = .normal /\ Q e a w) i K a w -> Go.wpOp P ops Q i K' a w := by
  intro i K K' a w hk h
  have hout : ¬ LetsOut (fun e a w => e = .normal /\ Q e a w) := fun ⟨_, _, h, _⟩ => by cases h
  unfold Go.wpOp at h ⊢
  split
  ·rename_i ho; simp only [ho] at h; exact hk _ _ h
  ·rename_i o ho
   simp only [ho] at h
   split
   ·rename_i hw
    simp only [hw, if_true] at h
    rcases h with h | ⟨_, h⟩
    ·refine .inl ?_
     simp only [Oper.wp] at h ⊢
     generalize (execOp a.eval o).run P w = r at *
     cases r with
     | ok n w' =>
      cases n <;> simp only [Oper.upon] at h ⊢
      case value => exact hk _ _ h
      case skip => exact hk _ _ h
      case defer => exact hk _ _ h
      case enter =>
       refine Calls.mono h fun e w'' h => ?_
       rcases e with _ | _ | _
       ·exact hk _ _ h
       ·exact absurd h.1 (by simp)
       ·exact absurd h hout
      case row => exact Rows.mono h fun _ _ h => hk _ _ h
     | halt x w' =>
      cases x <;> simp only [Oper.upon] at h ⊢
      exact absurd h.1 (by simp)
    ·exact absurd h hout
   ·rename_i hw
    simp only [hw] at h
    exact hk _ _ h
 intro fuel
 induction fuel with
 | zero => exact fun listed a w h => ⟨h.1, h.2.2⟩
 | succ fuel ih => exact fun listed a w h => ⟨fun hr => (h.1 hr).2, fun i hi => hop (fun a w h => ih _ a w h) (h.2 i hi)⟩
end
section
variable {P : Program} {n : Nat} {t : List (Nat × AV)} {b : List (List AV)} {F : List Nat} {m k j : Nat} {ops : Array Oper} {l : List Oper}
variable {d : Nat} {T : TypeId} {pos : String} {af : Array Edge} {g : Option (Nat × Bool)} {K : St -> Prop}
def fAt (P : Program) (o : Option Oper) (σ : St) (K : St -> Prop) : Prop :=
 match o with
 | some ⟨some d, op, _, _, _, _⟩ => d < σ.n /\ frontV P op σ fun y => K (σ.put (some d) y)
 | _ => False
@[congr] theorem fAt_congr {o o' : Option Oper} {K : St -> Prop} {σ σ' : St} (h1 : o = o') (h : mkd σ = σ') : fAt P o σ K = fAt P o' σ' K := by subst_vars; rfl
@[congr] theorem frontsA_congr {K : St -> Prop} {σ σ' : St} (h : mkd σ = σ') : frontsA P ops F σ K = frontsA P ops F σ' K := by subst_vars; rfl
@[congr] theorem walkX_congr {K : St -> Prop} {σ σ' : St} {k' : Nat} (h1 : k = k') (h : mkd σ = σ') : walkX P ops F m k l σ K = walkX P ops F m k' l σ' K := by subst_vars; rfl
@[congr] theorem walkT_congr {K : St -> Prop} {σ σ' : St} {k' : Nat} (h1 : k = k') (h : mkd σ = σ') : walkT P ops F k l σ K = walkT P ops F k' l σ' K := by subst_vars; rfl
@[go_sem] theorem frontsA_nil : frontsA P ops [] ⟨n, t, b⟩ K = K ⟨n, t, b⟩ := rfl
@[go_sem] theorem fAt_move {x : Operand} : fAt P (some ⟨some d, .move x, T, pos, af, g⟩) ⟨n, t, b⟩ K = andK (d < n) (K (St.put ⟨n, t, b⟩ (some d) (St.ev ⟨n, t, b⟩ x))) := rfl
def selK (c : Bool) (p q : Prop) : Prop := match c with | true => p | false => q
@[congr] theorem selK_congr {c c' : Bool} {p q : Prop} (h : mkd c = c') : selK c p q = selK c' p q := by subst_vars; rfl
@[go_sem] theorem selK_true {p q : Prop} : selK true p q = p := rfl
@[go_sem] theorem selK_false {p q : Prop} : selK false p q = q := rfl
theorem selK_ite {c : Bool} {p q : Prop} : selK c p q = if c = true then p else q := by cases c <;> simp [selK]
theorem selK_dec {c : Prop} [Decidable c] {p q : Prop} : selK (decide c) p q = if c then p else q := by by_cases c <;> simp [selK, *]
@[go_sem] theorem walkT_nil : walkT P ops F k [] ⟨n, t, b⟩ K = K ⟨n, t, b⟩ := rfl
@[go_sem] theorem walkT_cons {o : Oper} : walkT P ops F k (o :: l) ⟨n, t, b⟩ K = selK (F.contains k) (walkT P ops F (k + 1) l ⟨n, t, b⟩ K) (opsA P ops [o] ⟨n, t, b⟩ fun σ' => walkT P ops F (k + 1) l σ' K) := by rw [selK_ite]; rfl
@[go_sem] theorem walkX_nil : walkX P ops F m k [] ⟨n, t, b⟩ K = K ⟨n, t, b⟩ := rfl
@[go_sem] theorem walkX_some {op : Op} : walkX P ops F m k (⟨some d, op, T, pos, af, g⟩ :: l) ⟨n, t, b⟩ K = selK (decide (k < m)) (selK (F.contains k) (andK (d < n) (walkX P ops F m (k + 1) l (St.put ⟨n, t, b⟩ (some d) (St.ev ⟨n, t, b⟩ (.tmp d))) K)) (headOp P ⟨some d, op, T, pos, af, g⟩ ⟨n, t, b⟩ fun σ' => walkX P ops F m (k + 1) l σ' K)) (walkT P ops F k (⟨some d, op, T, pos, af, g⟩ :: l) ⟨n, t, b⟩ K) := by rw [selK_dec, selK_ite]; rfl
@[go_sem] theorem walkX_none {op : Op} : walkX P ops F m k (⟨none, op, T, pos, af, g⟩ :: l) ⟨n, t, b⟩ K = selK (decide (k < m)) (selK (F.contains k) False (headOp P ⟨none, op, T, pos, af, g⟩ ⟨n, t, b⟩ fun σ' => walkX P ops F m (k + 1) l σ' K)) (walkT P ops F k (⟨none, op, T, pos, af, g⟩ :: l) ⟨n, t, b⟩ K) := by rw [selK_dec, selK_ite]; rfl
attribute [go_sem] decide_true decide_false isSlice List.getElem?_cons_succ List.getElem?_cons_zero
end
end Go.AM
namespace Go.AM
open Go Go.RowKit Go.WideShapes Go.ChangeShapes
def oldG (w : World) (b : Nat) : Status := if b < w.heap.size then .stable else .junk
theorem oldG_lt {w : World} {b : Nat} (h : b < w.heap.size) : Stable (oldG w) b := by simp [Stable, oldG, h]
theorem oldG_tag (w : World) (b t : Nat) : oldG w b ≠ .tag t := by unfold oldG; split <;> simp
theorem oldG_box (w : World) (b t : Nat) : oldG w b ≠ .box t := by unfold oldG; split <;> simp
theorem oldG_good (w : World) : Good (oldG w) w := by
 refine ⟨fun b h => ?_, fun b b' t h => absurd h (oldG_tag w b t), fun b b' t h => absurd h (oldG_box w b t)⟩
 unfold oldG at h; split at h
 ·assumption
 ·exact absurd rfl h
theorem cell_old {w : World} {a : Addr} {v : Value} (h : w.cell? a = some v) : a.block < w.heap.size := by
 unfold World.cell? at h
 rcases Nat.lt_or_ge a.block w.heap.size with h' | h'
 ·exact h'
 ·rw [Array.getElem?_eq_none h'] at h; simp at h
section
variable {H : Type} {enc : TypeId × Value -> H} {P : Program} {w : World} {base : Nat} {spare : Nat -> Bool} {held : Bool}
def Stands (enc : TypeId × Value -> H) (P : Program) (w : World) (base : Nat) (spare : Nat -> Bool) (held : Bool) (e : TypeId) (f : DataW H -> AV) : Prop :=
 ∀ n v d ps, DataW.trod enc P w base spare held n e [v] = some (d, ps) -> FRel (Stable (oldG w)) w (f d) v /\ (f d).leafy = true /\ v.oneCell' = true
def avSl (f : DataW H -> AV) : DataW H -> AV
 | .slice xs _ => .sl 0 1 (xs.map f)
 | _ => .sl 0 1 []
def numI : DataW H -> Int
 | .lit (.int _ n) => n
 | _ => 0
def rowOf {α : Type} (f : DataW H -> α) : DataW H -> List α
 | .slice xs _ => xs.map f
 | _ => []
theorem avSl_row {α : Type} (g : α -> AV) (f : DataW H -> α) (d : DataW H) : avSl (fun x => g (f x)) d = .sl 0 1 ((rowOf f d).map g) := by
 cases d <;> simp [avSl, rowOf]
theorem flat_leafy {xs : List AV} (h : ∀ x ∈ xs, x.leafy = true) : flat xs = xs := by
 induction xs with
 | nil => rfl
 | cons x xs ih =>
  have hx := h x (by simp)
  have hc : x.cells = [x] := by cases x <;> first | rfl | (simp [AV.leafy] at hx)
  have := ih fun y hy => h y (by simp [hy])
  simp only [flat, List.flatMap_cons, hc] at this ⊢
  rw [this]; rfl
theorem stands_slice {t e : TypeId} {f : DataW H -> AV} (ht : P.underlying t = some (.slice e)) (hc : P.cellsOf e = 1) (hf : Stands enc P w base spare held e f) : Stands enc P w base spare held t (avSl f) := by
 intro n v d ps h
 rcases Go.Deep.open_slice1 ht hc h with ⟨h1, h2⟩ | ⟨a, len, cap, m, n', V, D, Pl, h1, _, hl, _, hm, h2, hel⟩
 ·simp only [List.cons.injEq, and_true] at h1
  simp only [Prod.mk.injEq] at h2
  obtain ⟨rfl, _⟩ := h2
  subst h1
  exact ⟨.slNil _ _ _ _ (by omega) (by simp) (by simp), rfl, rfl⟩
 ·simp only [List.cons.injEq, and_true] at h1
  simp only [Prod.mk.injEq] at h2
  obtain ⟨rfl, _⟩ := h2
  subst h1
  refine ⟨?_, rfl, rfl⟩
  have hlm : len <= m := by rw [hm]; split <;> omega
  simp only [avSl, List.map_map]
  rcases Nat.eq_zero_or_pos len with h0 | hp
  ·subst h0
   exact .slNil _ _ _ _ (by omega) (by simp) (by simp)
  ·obtain ⟨b, off, spot⟩ := a
   have hspot : spot = none := by simpa [Addr.add] using World.cell?_spot (hel 0 (by omega)).1
   subst hspot
   have hlen : ((List.range len).map (f ∘ D)).length = len := by simp
   have hone : ∀ i, i < len -> FRel (Stable (oldG w)) w (f (D i)) (V i) /\ (f (D i)).leafy = true /\ (V i).oneCell' = true := fun i hi => hf n' (V i) (D i) (Pl i) (hel i (by omega)).2
   have hleaf : ∀ x ∈ (List.range len).map (f ∘ D), x.leafy = true := by
    intro x hx
    obtain ⟨i, hi, rfl⟩ := List.mem_map.1 hx
    exact (hone i (List.mem_range.1 hi)).2.1
   have hb : b < w.heap.size := cell_old (a := (Addr.mk b off none).add 0) (hel 0 (by omega)).1
   have := FRel.sl (S := Stable (oldG w)) (w := w) 0 1 ((List.range len).map (f ∘ D)) b off cap ((List.range len).map V) (by omega) (oldG_lt hb) (by simp) (by rw [hlen]; exact hl)
    (fun x hx => by have h := hleaf x hx; cases x <;> first | rfl | (simp [AV.leafy] at h)) (by rw [flat_leafy hleaf]; simp)
    (fun u hu => by obtain ⟨i, hi, rfl⟩ := List.mem_map.1 hu; exact (hone i (List.mem_range.1 hi)).2.2)
    (fun j u hj => by
     have hjl : j < len := by have := (List.getElem?_eq_some_iff.1 hj).1; simpa using this
     simp only [List.getElem?_map, List.getElem?_range hjl, Option.map_some, Option.some.injEq] at hj
     subst hj
     have := (hel j (by omega)).1
     rwa [Go.WideShapes.add_plain] at this)
    (fun j x u hx hu => by
     rw [flat_leafy hleaf] at hx
     have hjl : j < len := by have := (List.getElem?_eq_some_iff.1 hx).1; simpa using this
     simp only [List.getElem?_map, List.getElem?_range hjl, Option.map_some, Option.some.injEq] at hx hu
     subst hx; subst hu
     exact (hone j hjl).1)
   rw [hlen] at this
   exact this
theorem Stands.arg {t : TypeId} {f : DataW H -> AV} {v : Value} {d : DataW H} {ps : List MemPlace} (hs : Stands enc P w base spare held t f) (h1 : v.cells.toList = [v]) (h : DataW.Trod enc P w base spare held t v d ps) : VRel (oldG w) w (f d) v := by
 obtain ⟨n, hn⟩ := h
 rw [h1] at hn
 exact .froz (hs n v d ps hn).1
theorem trodAll_stays (hl : laidOutB P = true) {W W' : World} {sp : Nat -> Bool} (hb : Go.RowKit.Below W.heap.size W W') : ∀ {ts : List TypeId} {vs : List Value} {ds : List (DataW H)} {ps : List MemPlace}, (∀ t ∈ ts, P.readableRec t = true /\ t < P.types.size) ->
  DataW.TrodAll enc P W 0 (fun _ => true) true ts vs ds ps -> (∀ p ∈ ps, p.block < W.heap.size) -> (∀ p ∈ ps, sp p.block = true) -> DataW.TrodAll enc P W' 0 sp true ts vs ds ps
 | [], vs, ds, ps, _, h, _, _ => by
  cases vs <;> cases ds <;> simp only [DataW.TrodAll] at h ⊢ <;> first | exact h | exact h.elim
 | t :: ts, vs, ds, ps, hr, h, h1, h2 => by
  cases vs with
  | nil => cases ds <;> simp only [DataW.TrodAll] at h
  | cons v vs =>
   cases ds with
   | nil => simp only [DataW.TrodAll] at h
   | cons d ds =>
    simp only [DataW.TrodAll] at h ⊢
    obtain ⟨p, q, hp, hq, rfl⟩ := h
    exact ⟨p, q, WideElems.Trod_stays hl (hr t (by simp)).1 (hr t (by simp)).2 hp (fun x hx => hb.same (h1 x (by simp [hx]))) (fun x hx => h2 x (by simp [hx])),
     trodAll_stays hl hb (fun t' ht' => hr t' (by simp [ht'])) hq (fun x hx => h1 x (by simp [hx])) (fun x hx => h2 x (by simp [hx])), rfl⟩
theorem law_post {f : Func} {s : ChangeSpec} {W W' : World} {args : Array Value} {ds gs : List (DataW H)} {before : List MemPlace} {tb : TypeId} (hl : laidOutB P = true) (hv : s.vars = []) (hr : f.resultTypes = #[tb]) (ht : P.underlying tb = some .bool)
  (hrec : ∀ t ∈ f.params.toList, P.readableRec t = true /\ t < P.types.size)
  (hW : DataW.Whole enc P f.params.toList s.vars false W args.toList ds gs before) (hs : s.fn H (ds ++ gs) = { results := [.lit (.bool true)], args := ds }) (hb : Go.RowKit.Below W.heap.size W W') :
  s.post enc P f false true false false W args (.bool true) W' := by
 have hW0 := hW
 have hlt : ∀ p ∈ before, p.block < W.heap.size := fun p hp => hW.lt p hp
 obtain ⟨p, q, hA, hV, rfl, hfz, hnd⟩ := hW
 have hV0 := hV
 rw [hv] at hV
 obtain ⟨hg, hq⟩ : gs = [] /\ q = [] := by
  cases gs <;> simp only [DataW.TrodVars] at hV
  exact ⟨rfl, hV⟩
 subst hg; subst hq
 have hargs : ∀ sp : Nat -> Bool, (∀ x ∈ p ++ [], sp x.block = true) -> DataW.TrodAll enc P W' 0 sp true f.params.toList args.toList (s.fn H (ds ++ [])).args p := fun sp h => by
  rw [hs]
  exact trodAll_stays hl hb hrec hA (fun x hx => hlt x (by simp [hx])) (fun x hx => h x (by simp [hx]))
 have hvars : ∀ sp : Nat -> Bool, DataW.TrodVars enc P W' sp s.vars (s.fn H (ds ++ [])).vars [] := fun sp => by rw [hs, hv]; simp only [DataW.TrodVars]
 have hres : ∀ (b : Nat) (sp : Nat -> Bool) (hd : Bool), DataW.TrodAll enc P W' b sp hd f.resultTypes.toList ((Value.bool true).resultList f.resultTypes.size) (s.fn H (ds ++ [])).results [] := fun b sp hd => by
  rw [hs, hr]
  exact trodAll_mk1 (shut_bool ht true)
 have hold : ∀ x ∈ p ++ [], (fun b => decide (b < W.heap.size)) x.block = true := fun x hx => by simpa using hlt x hx
 exact ⟨ds, [], p ++ [], [], p, [], hW0, hres _ _ _, hargs _ hold, hvars _, World.keptBut_mono (fun x hx => ⟨hx, .inr (.inl (by simpa using hx))⟩) (hb.frame (· ∈ p ++ [])), fun h => by cases h⟩
theorem Con.law {f : FuncId} {avs : List AV} {W : World} {args : Array Value} (hc : Con P f avs [] fun r _ => r = .sc (.bool true)) (hv : PW (VRel (oldG W) W) avs args.toList) {Q : Ending -> World -> Prop}
  (hQ : ∀ W', Go.RowKit.Below W.heap.size W W' -> Q (.returned (.bool true)) W') : Calls P f args W Q := by
 refine (hc.2 (oldG W) W args (oldG_good W) (oldG_tag W) (fun b i h => absurd h (oldG_box W b i)) ⟨fun i vs hv => by simp [noGh] at hv, fun i cs h => by simp at h⟩ hv).mono ?_
 rintro e w' ⟨v, r, bx', G', rfl, rfl, hr, _, _, _, e1, e2, e3, e4, _, e6⟩
 obtain rfl := hr.sc_inv
 exact hQ w' ⟨e1, e2, e3, e4, fun k hk => e6 k hk fun i h => oldG_box W k i h⟩
end
end Go.AM
namespace Go.AM
open Go.RowKit
@[go_sem] theorem freeB_app {d : Nat} : ∀ (x y : List (List AV)), freeB d (x ++ y) = (freeB d x && freeB d y)
 | [], y => by simp [freeB]
 | c :: x, y => by rw [List.cons_append, freeB, freeB, freeB_app x y, Bool.and_assoc]
@[go_sem] theorem mapB_app {f : AV -> AV} : ∀ (x y : List (List AV)), mapB f (x ++ y) = mapB f x ++ mapB f y
 | [], y => rfl
 | c :: x, y => by rw [List.cons_append, mapB, mapB, mapB_app x y]; rfl
theorem leB_app : ∀ {x y x' y' : List (List AV)}, leB x x' -> leB y y' -> leB (x ++ y) (x' ++ y')
 | [], y, [], y', _, h => h
 | [], y, c :: x', y', h, _ => by simp [leB] at h
 | c :: x, y, [], y', h, _ => by simp [leB] at h
 | c :: x, y, c' :: x', y', h, h2 => by
  simp only [leB] at h
  simp only [List.cons_append, leB]
  exact ⟨h.1, leB_app h.2 h2⟩
theorem leC_self : ∀ l : List AV, leC l l
 | [] => trivial
 | x :: l => ⟨leV_refl x, leC_self l⟩
theorem leB_self : ∀ l : List (List AV), leB l l
 | [] => trivial
 | x :: l => ⟨leC_self x, leB_self l⟩
def Rk (c k : Nat) : List (List AV) := List.replicate k (List.replicate c .any)
theorem Rk_len (c k : Nat) : (Rk c k).length = k := by simp [Rk]
theorem Rk_succ (c k : Nat) : Rk c (k + 1) = Rk c k ++ [List.replicate c .any] := by unfold Rk; rw [List.replicate_succ']
theorem Rk_succ2 (c k : Nat) : Rk c (k + 1 + 1) = Rk c k ++ [List.replicate c .any, List.replicate c .any] := by rw [Rk_succ, Rk_succ, List.append_assoc]; rfl
theorem mapTops_rep {f : AV -> AV} (hf : f .any = .any) : ∀ c, mapTops f (List.replicate c .any) = List.replicate c .any
 | 0 => rfl
 | c + 1 => by rw [List.replicate_succ, mapTops, mapTops_rep hf c]; simp [AV.mapTop, hf]
theorem mapB_Rk {f : AV -> AV} (hf : f .any = .any) (c : Nat) : ∀ k, mapB f (Rk c k) = Rk c k
 | 0 => rfl
 | k + 1 => by
  have := mapB_Rk hf c k
  unfold Rk at *; rw [List.replicate_succ, mapB, this, mapTops_rep hf]
@[go_sem] theorem mapB_kill_Rk {t c k : Nat} : mapB (killLeaf t) (Rk c k) = Rk c k := mapB_Rk rfl c k
@[go_sem] theorem mapB_freeze_Rk {p : Nat -> Bool} {c k : Nat} : mapB (freezeLeaf p) (Rk c k) = Rk c k := mapB_Rk rfl c k
@[go_sem] theorem mapB_put_Rk {t c k : Nat} {P : Program} {a e : TypeId} {D : DataW Unit} : mapB (putMap t P a e D) (Rk c k) = Rk c k := mapB_Rk rfl c k
@[go_sem] theorem mapB_store_Rk {t es i o c k : Nat} {ys : List AV} : mapB (storeLeaf t es i o ys) (Rk c k) = Rk c k := mapB_Rk rfl c k
theorem freeA_rep {d : Nat} : ∀ c, allLeafs (freeLeaf d) (List.replicate c .any) = true
 | 0 => rfl
 | c + 1 => by rw [List.replicate_succ, allLeafs, freeA_rep c]; rfl
@[go_sem] theorem freeB_Rk {d c : Nat} : ∀ {k : Nat}, freeB d (Rk c k) = true
 | 0 => rfl
 | k + 1 => by
  have := freeB_Rk (d := d) (c := c) (k := k)
  unfold Rk at *; rw [List.replicate_succ, freeB, this, freeA_rep]; rfl
@[go_sem] theorem leB_Rk {c k : Nat} : leB (Rk c k) (Rk c k) = True := eq_true (leB_self _)
@[go_sem] theorem leB_RkS {c k : Nat} {x : List (List AV)} : leB (Rk c k ++ x) (Rk c k ++ x) = True := eq_true (leB_self _)
theorem leB_RkA {c k : Nat} {x y : List (List AV)} (h : leB x y) : leB (Rk c k ++ x) (Rk c k ++ y) := leB_app (leB_self _) h
@[go_sem] theorem leB_Rk2 {k : Nat} {x y z u : AV} : leB (Rk 2 k ++ [[x, y], [z, u]]) (Rk 2 k ++ [List.replicate 2 .any, List.replicate 2 .any]) = True := eq_true (leB_RkA ⟨⟨leV_any _, leV_any _, trivial⟩, ⟨leV_any _, leV_any _, trivial⟩, trivial⟩)
def Jk (cs : List Nat) : List (List AV) := cs.map fun c => List.replicate c .any
theorem Jk_len (cs : List Nat) : (Jk cs).length = cs.length := by simp [Jk]
theorem Jk_app (cs ds : List Nat) : Jk (cs ++ ds) = Jk cs ++ Jk ds := by simp [Jk]
@[go_sem] theorem freeB_Jk {d : Nat} : ∀ {cs : List Nat}, freeB d (Jk cs) = true
 | [] => rfl
 | c :: cs => by
  have := freeB_Jk (d := d) (cs := cs)
  unfold Jk at *; rw [List.map_cons, freeB, this, freeA_rep]; rfl
theorem app_at {α : Type} {B L : List α} {n i : Nat} (h : B.length = n) : (B ++ L)[n + i]? = L[i]? := by
 rw [List.getElem?_append_right (by omega), h, Nat.add_sub_cancel_left]
theorem app_at0 {α : Type} {B L : List α} {n : Nat} (h : B.length = n) : (B ++ L)[n]? = L[0]? := app_at (i := 0) h
theorem app_at1 {α : Type} {B L : List α} {n : Nat} (h : B.length = n) : (B ++ L)[n + 1]? = L[1]? := app_at (i := 1) h
theorem app_set0 {α : Type} {B L : List α} {n : Nat} {z : α} (h : B.length = n) : (B ++ L).set n z = B ++ L.set 0 z := by
 rw [List.set_append_right _ _ (by omega), h, Nat.sub_self]
theorem app_set1 {α : Type} {B L : List α} {n : Nat} {z : α} (h : B.length = n) : (B ++ L).set (n + 1) z = B ++ L.set 1 z := by
 rw [List.set_append_right _ _ (by omega), h, Nat.add_sub_cancel_left]
theorem leV_ag {xs ys : List AV} (h : leC xs ys) : leV (.ag xs) (.ag ys) := leV_sem fun G w v hv => by
 obtain ⟨vs, rfl, h1, h2⟩ := hv.ag_inv
 have := leC_pw h h2
 exact .ag _ _ this.1 h1 this.2
theorem leV_tup {xs ys : List AV} (h : leC xs ys) : leV (.tup xs) (.tup ys) := leV_sem fun G w v hv => by
 obtain ⟨vs, rfl, h2⟩ := hv.tup_inv
 have := leC_pw h h2
 exact .tup _ _ this.1 this.2
theorem Con.weak {P : Program} {f : FuncId} {args : List AV} {bx : List (List AV)} {post post' : AV -> List (List AV) -> Prop} (h : Con P f args bx post) (hp : ∀ r b, post r b -> ∃ r', post' r' b /\ leV r r') : Con P f args bx post' :=
 ⟨h.1, fun G w vs h1 h2 h3 h4 h5 => (h.2 G w vs h1 h2 h3 h4 h5).mono fun _ _ ⟨v, r, bx', G', he, hq, hv, rest⟩ => by
  obtain ⟨r', hq', hle⟩ := hp _ _ hq
  exact ⟨v, r', bx', G', he, hq', hv.le hle, rest⟩⟩
end Go.AM
