/- AmQ AmS AmT Am3 AmU Am2 Am1 -/
import Derived.Test.YtlcckmmibeddeaaGreatg6
import Derived.Orders
import Derived.ProofKit
import Derived.Deep.Slices
import Derived.OpenShut
import Derived.SizedLaws
namespace Go.AM
open Go.RowKit
section
variable {P : Program}
def edges (o : Oper) : List Nat := (o.after.toList.filter (Region.binds .any)).map (·.on)
def reach (ops : Array Oper) : Nat -> Nat -> Nat -> Bool
 | 0, _, _ => false
 | f + 1, i, j => match ops[i]? with
  | none => false
  | some o => (edges o).any (fun k => k == j) || (edges o).any (fun k => reach ops f k j)
def slotsOf (o : Oper) : List Nat := o.op.operands.toList.filterMap fun | .tmp t => some t | _ => none
def guardS (ops : Array Oper) (o : Oper) : List Nat := match o.guard with
 | none => []
 | some (j, _) => match guardSlot ops j with
  | none => []
  | some g => [g]
def slotsG (ops : Array Oper) (o : Oper) : List Nat := guardS ops o ++ slotsOf o
def headOkG (ops : Array Oper) (m i : Nat) (o : Oper) : Bool :=
 (edges o).all (fun k => decide (k < i)) &&
 match o.dst with
 | none => false
 | some d => !(slotsG ops o).contains d && (List.range m).all fun j => j == i || match ops[j]? with
   | none => false
   | some p => match p.dst with
    | none => false
    | some s => s != d && (!(slotsG ops o).contains s || (if j < i then reach ops ops.size i j else reach ops ops.size j i))
def tailOk (ops : Array Oper) (i : Nat) (o : Oper) : Bool :=
 (edges o).all (fun k => decide (k < i)) && (List.range i).all fun j => reach ops ops.size i j
def drawOk (ops : Array Oper) (m : Nat) : Bool :=
 decide (m <= ops.size) && (List.range ops.size).all fun i => match ops[i]? with
  | none => false
  | some o => if i < m then headOkG ops m i o else tailOk ops i o
def Closed (ops : Array Oper) (L : Nat -> Bool) : Prop := ∀ i o, ops[i]? = some o -> L i = true -> ∀ k ∈ edges o, L k = true
theorem reach_listed {ops : Array Oper} {L : Nat -> Bool} (hc : Closed ops L) : ∀ (f i j : Nat) o, ops[i]? = some o -> (∀ k ∈ edges o, L k = true) -> reach ops f i j = true -> L j = true
 | 0, _, _, _, _, _, h => by simp [reach] at h
 | f + 1, i, j, o, ho, hl, h => by
  simp only [reach, ho, Bool.or_eq_true, List.any_eq_true, beq_iff_eq] at h
  rcases h with ⟨k, hk, rfl⟩ | ⟨k, hk, hr⟩
  ·exact hl k hk
  ·cases hok : ops[k]? with
   | none => cases f <;> simp [reach, hok] at hr
   | some ok => exact reach_listed hc f k j ok hok (fun k' hk' => hc k ok hok (hl k hk) k' hk') hr
def creates (op : Op) : Bool :=
 match op with
 | .call { callee := .value _, .. } => true
 | op => needsFresh op
def StepOk (P : Program) (o : Oper) (d : Nat) (ρ : Operand -> AV) (bx : List (List AV)) (y : AV) : Prop :=
 ∀ (gh : Gh) (G : Nat -> Status) (a : Act) (w : World), Good G w -> BRel gh G w bx -> (creates o.op = true -> Fresh d G) -> (∀ x ∈ o.op.operands, VRel G w (ρ x) (a.eval x)) ->
  ∀ (K' : Act -> World -> Prop) (Q : Exit -> Act -> World -> Prop), (∀ v w' G', VRel G' w' y v -> Ext G w G' w' -> Good G' w' -> NewTags d G G' -> K' (a.put o.dst v) w') -> o.wp P a w K' Q
def CallY (P : Program) (f : FuncId) (args : List AV) (d : Nat) (σ : St) (K : St -> Prop) : Prop :=
 ∃ r, Con P f (args.map AV.view) [] (fun r' _ => r' = r) /\ r.allLeaf lt64 = true /\ (tagss args = [] \/ r.allLeaf flatLeaf = true) /\ K (σ.put (some d) (r.shift (64 * (d + 1))))
def headOp (P : Program) (o : Oper) (σ : St) (K : St -> Prop) : Prop :=
 match o.dst with
 | none => False
 | some d => d < σ.n /\ match o.op with
  | .call { callee := .value f, args, argTypes := _ } => match σ.ev f with
   | .fn fid caps => CallY P fid (args.toList.map σ.ev ++ caps) d σ K
   | _ => False
  | op => evOp P d σ.ev σ.boxes o.type op fun r => K (σ.put (some d) r)
def knownB (want : Bool) : AV -> Option Bool
 | .sc (.bool c) => some c
 | .sc (.tuple _) => some (!want)
 | _ => none
def headG (P : Program) (ops : Array Oper) (o : Oper) (σ : St) (K : St -> Prop) : Prop :=
 match o.guard with
 | none => headOp P o σ K
 | some (j, want) => ∃ g c, guardSlot ops j = some g /\ knownB want (σ.get g) = some c /\ ((c == want) = true -> headOp P o σ K) /\ ((c == want) = false -> ∃ d, o.dst = some d /\ d < σ.n /\ K (σ.put (some d) (.sc undef)))
def headA (P : Program) (ops : Array Oper) : List Oper -> St -> (St -> Prop) -> Prop
 | [], σ, K => K σ
 | o :: r, σ, K => headG P ops o σ fun σ' => headA P ops r σ' K
theorem back_ext {d : Nat} {G G' : Nat -> Status} {w w' : World} (h : Good G w) (hf : Fresh d G) (hG : Good G' w') (e1 : w'.os = w.os) (e2 : w'.tape = w.tape) (e3 : w'.output = w.output) (e4 : w.heap.size <= w'.heap.size) (e6 : ∀ b, b < w.heap.size -> w'.heap[b]? = w.heap[b]?) :
  Ext G w (backG d w.heap.size G G') w' /\ Good (backG d w.heap.size G G') w' /\ NewTags d G (backG d w.heap.size G G') := by
 have htag : ∀ b t, backG d w.heap.size G G' b = .tag t -> (b < w.heap.size /\ G b = .tag t) \/ (¬ b < w.heap.size /\ root t / 64 = d + 1 /\ G' b = .tag (t - 64 * (d + 1))) := by
  intro b t hb
  unfold backG at hb
  split at hb
  ·exact .inl ⟨by assumption, hb⟩
  ·rename_i hn
   split at hb <;> try (cases hb; done)
   rename_i t' ht'
   split at hb
   ·cases hb; exact .inr ⟨hn, by have := hf.1; unfold root at *; omega, by rw [ht']; congr 1; omega⟩
   ·cases hb
 have hbox : ∀ b i, backG d w.heap.size G G' b = .box i -> G b = .box i := by
  intro b i hb
  unfold backG at hb
  split at hb
  ·exact hb
  ·split at hb <;> first | (cases hb; done) | (split at hb <;> cases hb)
 refine ⟨⟨e1, e2, e3, e4, fun b hb => by simp [backG, hb], e6⟩, ⟨fun b hb => ?_, fun b b' t h1 h2 => ?_, fun b b' i h1 h2 => h.boxes b b' i (hbox b i h1) (hbox b' i h2)⟩, ⟨fun b t hb => ?_, hbox⟩⟩
 ·unfold backG at hb
  split at hb
  ·omega
  ·exact hG.lt b fun h' => hb (by simp [h'])
 ·rcases htag b t h1 with ⟨_, h1⟩ | ⟨_, h1, g1⟩ <;> rcases htag b' t h2 with ⟨_, h2⟩ | ⟨_, h2, g2⟩
  ·exact h.tags b b' t h1 h2
  ·exact absurd h2 (hf.2 b t h1)
  ·exact absurd h1 (hf.2 b' t h2)
  ·exact hG.tags b b' _ g1 g2
 ·rcases htag b t hb with ⟨_, h⟩ | ⟨_, h, _⟩
  ·exact .inl h
  ·exact .inr h
theorem headOp_sound {o : Oper} {σ : St} {K : St -> Prop} (h : headOp P o σ K) : ∃ d y, o.dst = some d /\ d < σ.n /\ K (σ.put (some d) y) /\ StepOk P o d σ.ev σ.boxes y := by
 unfold headOp at h
 split at h
 ·exact h.elim
 ·rename_i d hd
  obtain ⟨hdn, h⟩ := h
  split at h
  ·rename_i f args As ho
   split at h
   ·rename_i fid caps hf
    obtain ⟨r, ⟨⟨fn, hfn, hname, hbody⟩, hcon⟩, hlt, hts, hk⟩ := h
    refine ⟨d, _, hd, hdn, hk, fun gh G a w hg hb hfr hv K' Q hK => ?_⟩
    have hfr := hfr (by simp [creates, ho])
    have hff := hv f (by simp [ho, Op.operands, Call.operands])
    rw [hf] at hff
    obtain ⟨vs, hfe, hcaps⟩ := hff.fn_inv
    have hgv := hg.view (ts := tagss (args.toList.map σ.ev ++ caps))
    have hva0 : PW (VRel G w) (args.toList.map σ.ev ++ caps) (args.map a.eval ++ vs).toList := by
     rw [Array.toList_append, Array.toList_map]
     refine PW.append ⟨by simp, fun j x u hx hu => ?_⟩ (hcaps.mono fun x y _ hr => .froz hr)
     simp only [List.getElem?_map] at hx hu
     cases hj : args.toList[j]? with
     | none => simp [hj] at hx
     | some c =>
      simp [hj] at hx hu; subst hx; subst hu
      have hc : c ∈ args.toList := List.mem_of_getElem? hj
      exact hv c (by simp [ho, Op.operands, Call.operands]; exact .inr (by simpa using hc))
    have hva : PW (VRel (viewG (tagss (args.toList.map σ.ev ++ caps)) G) w) ((args.toList.map σ.ev ++ caps).map AV.view) (args.map a.eval ++ vs).toList := by
     refine ⟨by simpa using hva0.1, fun j x u hx hu => ?_⟩
     rw [List.getElem?_map] at hx
     cases hj : (args.toList.map σ.ev ++ caps)[j]? with
     | none => simp [hj] at hx
     | some y =>
      simp [hj] at hx; subst hx
      exact (hva0.2 j y u hj hu).view (tags_in _ y (tagss_mem (List.mem_of_getElem? hj)))
    have hrun : (execOp a.eval o).run P w = .ok (.enter fid (args.map a.eval ++ vs)) w := by
     have hname' : ¬ fn.name = "runtime.NumGoroutine" := by simpa using hname
     have hbody' : ¬ fn.body = none := by intro h; rw [h] at hbody; simp at hbody
     simp [execOp, ho, resolve, hfe, Deferred.ofValue, invoke, callFunc, hfn, hname', hbody']
    unfold Oper.wp
    rw [hrun, Oper.upon_enter]
    refine (hcon _ w _ hgv.1 hgv.2.1 (fun b i hb => absurd hb (hgv.2.2 b i)) ⟨fun i vs hv => by simp [noGh] at hv, fun i cs hi => by simp at hi⟩ hva).mono ?_
    rintro e w' ⟨v, r', bx', G', rfl, rfl, hr, hG', _, _, e1, e2, e3, e4, e5, e6⟩
    have e6' : ∀ b, b < w.heap.size -> w'.heap[b]? = w.heap[b]? := fun b hb => e6 b hb (fun i => hgv.2.2 b i)
    obtain ⟨k1, k2, k3⟩ := back_ext (d := d) hg hfr hG' e1 e2 e3 e4 e6'
    have hback := hr.back (d := d) (G := G) (Gc := viewG (tagss (args.toList.map σ.ev ++ caps)) G) (w := w) hlt hfr.1 e5 hgv.2.1 (by
     rcases hts with hts | hts
     ·refine .inl fun b _ hb => ?_
      unfold Stable viewG at *
      split at hb
      ·assumption
      ·rw [hts] at hb; simp at hb
      ·cases hb
     ·exact .inr hts)
    exact hK v w' _ hback k1 k2 k3
   ·exact h.elim
  ·rename_i hnc
   obtain ⟨r, hk, hr⟩ := evOp_sound h
   refine ⟨d, r, hd, hdn, hk, fun gh G a w hg hb hfr hv K' Q hK => ?_⟩
   obtain ⟨v, w', G', g1, g2, g3, g4, g5⟩ := hr o gh G w a.eval rfl hg (fun h => hfr (by unfold creates; split; rfl; exact h)) hb hv
   unfold Oper.wp
   rw [g1, Oper.upon_value]
   exact hK v w' G' g2 g3 g4 g5
def StepG (P : Program) (ops : Array Oper) (o : Oper) (d : Nat) (σ : St) (bx : List (List AV)) (y : AV) : Prop :=
 (o.guard = none /\ StepOk P o d σ.ev bx y) \/ (∃ j want g c, o.guard = some (j, want) /\ guardSlot ops j = some g /\ σ.get g = .sc (.bool c) /\ ((c = want /\ StepOk P o d σ.ev bx y) \/ (c ≠ want /\ y = .sc undef))) \/ ∃ j want g vs, o.guard = some (j, want) /\ guardSlot ops j = some g /\ σ.get g = .sc (.tuple vs) /\ y = .sc undef
theorem headG_sound {ops : Array Oper} {o : Oper} {σ : St} {K : St -> Prop} (h : headG P ops o σ K) : ∃ d y, o.dst = some d /\ d < σ.n /\ K (σ.put (some d) y) /\ StepG P ops o d σ σ.boxes y := by
 unfold headG at h
 split at h
 ·rename_i hg
  obtain ⟨d, y, h1, h2, h3, h4⟩ := headOp_sound h
  exact ⟨d, y, h1, h2, h3, .inl ⟨hg, h4⟩⟩
 ·rename_i j want hg
  obtain ⟨g, c, e1, e2, e3, e4⟩ := h
  have e2' : σ.get g = .sc (.bool c) \/ ((∃ vs, σ.get g = .sc (.tuple vs)) /\ c = !want) := by
   revert e2; unfold knownB; split
   ·rename_i h; intro e; cases e; exact .inl h
   ·rename_i h; intro e; cases e; exact .inr ⟨⟨_, h⟩, rfl⟩
   ·intro e; cases e
  rcases e2' with e2' | ⟨⟨vs, e2'⟩, rfl⟩
  ·by_cases hc : c = want
   ·obtain ⟨d, y, h1, h2, h3, h4⟩ := headOp_sound (e3 (by simpa using hc))
    exact ⟨d, y, h1, h2, h3, .inr (.inl ⟨j, want, g, c, hg, e1, e2', .inl ⟨hc, h4⟩⟩)⟩
   ·obtain ⟨d, h1, h2, h3⟩ := e4 (by simpa using hc)
    exact ⟨d, _, h1, h2, h3, .inr (.inl ⟨j, want, g, c, hg, e1, e2', .inr ⟨hc, rfl⟩⟩)⟩
  ·obtain ⟨d, h1, h2, h3⟩ := e4 (by cases want <;> rfl)
   exact ⟨d, _, h1, h2, h3, .inr (.inr ⟨j, want, g, vs, hg, e1, e2', rfl⟩)⟩
def puts (σ : St) : List (Nat × AV) -> St
 | [] => σ
 | p :: r => puts (σ.put (some p.1) p.2) r
theorem headA_vals {ops : Array Oper} : ∀ (l : List Oper) (σ : St) (K : St -> Prop), headA P ops l σ K -> ∃ vs : List (Nat × AV), vs.length = l.length /\ K (puts σ vs) /\
  ∀ i o, l[i]? = some o -> ∃ d y, vs[i]? = some (d, y) /\ o.dst = some d /\ d < σ.n /\ StepG P ops o d (puts σ (vs.take i)) σ.boxes y
 | [], σ, K, h => ⟨[], rfl, h, fun i o hi => by simp at hi⟩
 | o :: l, σ, K, h => by
  obtain ⟨d, y, h1, h2, h3, h4⟩ := headG_sound h
  obtain ⟨vs, g1, g2, g3⟩ := headA_vals l _ K h3
  refine ⟨(d, y) :: vs, by simp [g1], g2, fun i o' hi => ?_⟩
  cases i with
  | zero => simp at hi; subst hi; exact ⟨d, y, rfl, h1, h2, h4⟩
  | succ i =>
   obtain ⟨d', y', k1, k2, k3, k4⟩ := g3 i o' (by simpa using hi)
   rw [put_n] at k3; rw [put_boxes] at k4
   exact ⟨d', y', by simpa using k1, k2, k3, k4⟩
structure At (vs : List (Nat × AV)) (L : Nat -> Bool) (σ τ : St) : Prop where
 n : τ.n = σ.n
 boxes : τ.boxes = σ.boxes
 dst : ∀ (i d : Nat) (y : AV), vs[i]? = some (d, y) -> τ.get d = if L i = true then y else σ.get d
 rest : ∀ s : Nat, (∀ (i d : Nat) (y : AV), vs[i]? = some (d, y) -> d ≠ s) -> τ.get s = σ.get s
def Apart (vs : List (Nat × AV)) : Prop := ∀ (i j d : Nat) (y : AV) (d' : Nat) (y' : AV), vs[i]? = some (d, y) -> vs[j]? = some (d', y') -> i ≠ j -> d ≠ d'
theorem get_put {σ : St} {d s : Nat} {x : AV} : (σ.put (some d) x).get s = if d = s then x else σ.get s := by simp only [St.put, St.get, lookT_put]
theorem puts_at : ∀ (k : Nat) (vs : List (Nat × AV)) (σ : St), Apart vs -> At vs (fun i => decide (i < k)) σ (puts σ (vs.take k))
 | 0, vs, σ, _ => ⟨rfl, rfl, fun i d y _ => by simp [puts], fun s _ => by simp [puts]⟩
 | k + 1, [], σ, _ => ⟨rfl, rfl, fun i d y h => by simp at h, fun s _ => by simp [puts]⟩
 | k + 1, p :: vs, σ, ha => by
  have ha' : Apart vs := fun i j d y d' y' h1 h2 hij => ha (i + 1) (j + 1) d y d' y' (by simpa using h1) (by simpa using h2) (by omega)
  have ih := puts_at k vs (σ.put (some p.1) p.2) ha'
  simp only [List.take_succ_cons, puts]
  refine ⟨by rw [ih.n, put_n], by rw [ih.boxes, put_boxes], fun i d y h => ?_, fun s h => ?_⟩
  ·cases i with
   | zero =>
    simp at h; subst h
    rw [ih.rest d (fun i d' y' hi => (ha 0 (i + 1) d y d' y' rfl (by simpa using hi) (by omega)).symm), get_put]
    simp
   | succ i =>
    have h' : vs[i]? = some (d, y) := by simpa using h
    rw [ih.dst i d y h', get_put]
    have hne : p.1 ≠ d := ha 0 (i + 1) p.1 p.2 d y rfl h (by omega)
    simp [hne]
  ·rw [ih.rest s (fun i d y hi => h (i + 1) d y (by simpa using hi)), get_put]
   rw [if_neg (h 0 p.1 p.2 rfl)]
theorem At.step {vs : List (Nat × AV)} {L L' : Nat -> Bool} {σ τ : St} {i d : Nat} {y : AV} (h : At vs L σ τ) (ha : Apart vs) (hi : vs[i]? = some (d, y)) (hL : ∀ j, j ≠ i -> L' j = L j) (hLi : L' i = true) : At vs L' σ (τ.put (some d) y) := by
 refine ⟨by rw [put_n, h.n], by rw [put_boxes, h.boxes], fun j d' y' hj => ?_, fun s hs => ?_⟩
 ·rw [get_put]
  by_cases hij : j = i
  ·subst hij; rw [hi] at hj; cases hj; simp [hLi]
  ·rw [if_neg (ha i j d y d' y' hi hj (Ne.symm hij)), h.dst j d' y' hj, hL j hij]
 ·rw [get_put, if_neg (hs i d y hi), h.rest s hs]
theorem SRel.slotsEq {G0 w0 σ τ G a w} (h : SRel G0 w0 σ G a w) (hn : τ.n = σ.n) (hb : τ.boxes = σ.boxes) (hs : ∀ s, τ.get s = σ.get s) : SRel G0 w0 τ G a w :=
 { h with
  slots := fun s => by rw [hs s]; exact h.slots s
  boxes := by rw [hb]; exact h.boxes
  blt := by rw [hb]; exact h.blt
  size := by rw [hn]; exact h.size }
theorem SRel.drawn {G0 w0 σ G a w} (h : SRel G0 w0 σ G a w) (n : Nat) : SRel G0 w0 σ G a { w with drawn := n } := by
 have hm : ∀ {x v}, VRel G w x v -> VRel G { w with drawn := n } x v := fun hr => hr.mono (fun _ _ => rfl) (fun _ _ _ => rfl)
 exact { h with
  good := ⟨h.good.lt, h.good.tags, h.good.boxes⟩
  slots := fun s => hm (h.slots s)
  boxes := ⟨h.boxes.low, fun i cs hi => (h.boxes.cell i cs hi).same (fun x v hr => hm hr) (fun b h1 => ⟨h1, rfl⟩) fun h0 => h0⟩
  hsize := h.hsize
  keep := h.keep }
def creators (ops : Array Oper) (m : Nat) : List Nat := (ops.toList.take m).filterMap fun o => if creates o.op = true then o.dst else none
def freeAll (σ : St) : List Nat -> Bool
 | [] => true
 | d :: r => σ.free d && freeAll σ r
theorem killR_fresh {d d' : Nat} {G : Nat -> Status} (h : Fresh d' G) : Fresh d' (killR d G) := ⟨h.1, fun b t hb => h.2 b t (killR_tag hb).1⟩
theorem SRel.freshAll {G0 w0 σ a w} (h0 : True) : ∀ (l : List Nat) (G : Nat -> Status), SRel G0 w0 σ G a w -> freeAll σ l = true -> ∃ G', SRel G0 w0 σ G' a w /\ (∀ d ∈ l, Fresh d G') /\ ∀ d, Fresh d G -> Fresh d G'
 | [], G, h, _ => ⟨G, h, fun d hd => by simp at hd, fun _ h => h⟩
 | d :: r, G, h, hf => by
  simp only [freeAll, Bool.and_eq_true] at hf
  obtain ⟨k1, k2⟩ := h.fresh hf.1 h0
  obtain ⟨G', g1, g2, g3⟩ := SRel.freshAll h0 r _ k1 hf.2
  refine ⟨G', g1, fun d' hd' => ?_, fun d' hd' => g3 d' (killR_fresh hd')⟩
  rcases List.mem_cons.1 hd' with rfl | hd'
  ·exact g3 _ k2
  ·exact g2 d' hd'
theorem NewTags.fresh {d d' : Nat} {G G' : Nat -> Status} (h : NewTags d G G') (hne : d ≠ d') (hf : Fresh d' G) : Fresh d' G' := by
 refine ⟨hf.1, fun b t hb => ?_⟩
 rcases h.tags b t hb with h | h
 ·exact hf.2 b t h
 ·omega
section
variable {ops : Array Oper} {m : Nat} {vs : List (Nat × AV)} {σ : St} {K : St -> Prop} {G0 : Orig} {w0 : World} {Q : Exit -> Act -> World -> Prop}
theorem binds_edges {o : Oper} {L : Nat -> Bool} : (∀ e ∈ o.after, Region.binds .any e = true -> L e.on = true) ↔ ∀ k ∈ edges o, L k = true := by
 unfold edges
 constructor
 ·intro h k hk
  obtain ⟨e, he, rfl⟩ := List.mem_map.1 hk
  have := List.mem_filter.1 he
  exact h e (by simpa using this.1) this.2
 ·intro h e he hb
  exact h e.on (List.mem_map.2 ⟨e, List.mem_filter.2 ⟨by simpa using he, hb⟩, rfl⟩)
theorem ready_iff {i : Nat} {listed : Array Bool} (hs : listed.size = ops.size) : i ∈ Region.ready .any ops listed ↔
  ∃ o, ops[i]? = some o /\ listed.getD i false = false /\ ∀ k ∈ edges o, listed.getD k false = true := by
 rw [mem_ready]
 constructor
 ·rintro ⟨h1, o, ho, h2⟩
  refine ⟨o, ho, ?_, binds_edges.1 h2⟩
  have hlt : i < listed.size := by rw [hs]; exact (Array.getElem?_eq_some_iff.1 ho).1
  simpa [hlt] using h1
 ·rintro ⟨o, ho, h1, h2⟩
  refine ⟨?_, o, ho, binds_edges.2 h2⟩
  have hlt : i < listed.size := by rw [hs]; exact (Array.getElem?_eq_some_iff.1 ho).1
  simpa [hlt] using h1
theorem set_getD {i j : Nat} {listed : Array Bool} (hi : i < listed.size) : (listed.setIfInBounds i true).getD j false = if i = j then true else listed.getD j false := by
 by_cases h : i = j
 ·subst h; simp [hi]
 ·simp [h, Array.getElem?_setIfInBounds_ne h]
structure Left (ops : Array Oper) (listed : Array Bool) (U : List Nat) : Prop where
 size : listed.size = ops.size
 nodup : U.Nodup
 mem : ∀ i, i ∈ U ↔ i < ops.size /\ listed.getD i false = false
theorem Left.step {listed : Array Bool} {U : List Nat} {i : Nat} (h : Left ops listed U) (hi : i ∈ U) : Left ops (listed.setIfInBounds i true) (U.erase i) /\ (U.erase i).length + 1 = U.length := by
 have hlt := ((h.mem i).1 hi).1
 refine ⟨⟨by simpa using h.size, h.nodup.erase i, fun j => ?_⟩, ?_⟩
 ·rw [h.nodup.mem_erase_iff, h.mem j, set_getD (by rw [h.size]; exact hlt)]
  constructor
  ·rintro ⟨h1, h2, h3⟩; exact ⟨h2, by rw [if_neg (Ne.symm h1)]; exact h3⟩
  ·rintro ⟨h1, h2⟩
   by_cases hij : i = j
   ·rw [if_pos hij] at h2; cases h2
   ·rw [if_neg hij] at h2; exact ⟨Ne.symm hij, h1, h2⟩
 ·rw [List.length_erase_of_mem hi]
  have : 0 < U.length := List.length_pos_of_mem hi
  omega
theorem Closed.step {listed : Array Bool} {i : Nat} {o : Oper} (hc : Closed ops (fun k => listed.getD k false)) (hlt : i < listed.size) (ho : ops[i]? = some o) (hl : ∀ k ∈ edges o, listed.getD k false = true) :
  Closed ops (fun k => (listed.setIfInBounds i true).getD k false) := by
 intro j oj hoj hj k hk
 simp only [set_getD hlt] at hj ⊢
 by_cases hik : i = k
 ·rw [if_pos hik]
 ·rw [if_neg hik]
  by_cases hij : i = j
  ·subst hij; rw [ho] at hoj; cases hoj; exact hl k hk
  ·rw [if_neg hij] at hj; exact hc j oj hoj hj k hk
theorem some_ready {listed : Array Bool} {U : List Nat} (h : Left ops listed U) (hlt : ∀ i o, ops[i]? = some o -> ∀ k ∈ edges o, k < i) (hne : U ≠ []) : Region.ready .any ops listed ≠ [] := by
 obtain ⟨u, hu⟩ := List.exists_mem_of_ne_nil U hne
 have key : ∀ n, ∀ u ∈ U, u <= n -> ∃ i, i ∈ Region.ready .any ops listed := by
  intro n
  induction n with
  | zero =>
   intro u hu hn
   have := (h.mem u).1 hu
   obtain ⟨o, ho⟩ : ∃ o, ops[u]? = some o := ⟨ops[u], by simp [this.1]⟩
   exact ⟨u, (ready_iff h.size).2 ⟨o, ho, this.2, fun k hk => by have := hlt u o ho k hk; omega⟩⟩
  | succ n ih =>
   intro u hu hn
   have hm := (h.mem u).1 hu
   obtain ⟨o, ho⟩ : ∃ o, ops[u]? = some o := ⟨ops[u], by simp [hm.1]⟩
   by_cases hall : ∀ k ∈ edges o, listed.getD k false = true
   ·exact ⟨u, (ready_iff h.size).2 ⟨o, ho, hm.2, hall⟩⟩
   ·have : ∃ k, k ∈ edges o /\ listed.getD k false = false := by
     apply Classical.byContradiction
     intro hcon
     exact hall fun k hk => by
      cases hb : listed.getD k false
      ·exact absurd ⟨k, hk, hb⟩ hcon
      ·rfl
    obtain ⟨k, hk, hkf⟩ := this
    have hku := hlt u o ho k hk
    exact ih k ((h.mem k).2 ⟨by omega, hkf⟩) (by omega)
 obtain ⟨i, hi⟩ := key u u hu (Nat.le_refl u)
 exact fun h => by rw [h] at hi; simp at hi
structure Plan (ops : Array Oper) (m : Nat) : Prop where
 le : m <= ops.size
 lt : ∀ i o, ops[i]? = some o -> ∀ k ∈ edges o, k < i
 head : ∀ i o, ops[i]? = some o -> i < m -> ∃ d, o.dst = some d /\ d ∉ slotsG ops o /\ ∀ j p s, j < m -> j ≠ i -> ops[j]? = some p -> p.dst = some s -> s ≠ d /\ (s ∈ slotsG ops o -> if j < i then reach ops ops.size i j = true else reach ops ops.size j i = true)
 tail : ∀ i o, ops[i]? = some o -> m <= i -> ∀ j, j < i -> reach ops ops.size i j = true
theorem drawOk_plan (h : drawOk ops m = true) : Plan ops m := by
 simp only [drawOk, Bool.and_eq_true, decide_eq_true_eq, List.all_eq_true, List.mem_range] at h
 obtain ⟨h1, h2⟩ := h
 have hof : ∀ i o, ops[i]? = some o -> (if i < m then headOkG ops m i o else tailOk ops i o) = true := fun i o ho => by
  have := h2 i (Array.getElem?_eq_some_iff.1 ho).1
  rw [ho] at this; simpa using this
 refine ⟨h1, fun i o ho k hk => ?_, fun i o ho hi => ?_, fun i o ho hi j hj => ?_⟩
 ·have := hof i o ho
  split at this
  ·simp only [headOkG, Bool.and_eq_true, List.all_eq_true, decide_eq_true_eq] at this
   exact this.1 k hk
  ·simp only [tailOk, Bool.and_eq_true, List.all_eq_true, decide_eq_true_eq] at this
   exact this.1 k hk
 ·have := hof i o ho
  rw [if_pos hi] at this
  simp only [headOkG, Bool.and_eq_true] at this
  obtain ⟨_, g3⟩ := this
  split at g3
  ·cases g3
  ·rename_i d hd
   simp only [Bool.and_eq_true, List.all_eq_true, List.mem_range, Bool.not_eq_true', Bool.or_eq_true, beq_iff_eq] at g3
   refine ⟨d, hd, by simpa using g3.1, fun j p s hj hji hp hs => ?_⟩
   have := (g3.2 j hj).resolve_left hji
   simp only [hp, hs, Bool.and_eq_true, bne_iff_ne, ne_eq, Bool.or_eq_true, Bool.not_eq_true'] at this
   refine ⟨this.1, fun hm => ?_⟩
   have h' := this.2.resolve_left (by simpa using hm)
   split at h'
   ·rename_i hlt; rw [if_pos hlt]; exact h'
   ·rename_i hlt; rw [if_neg hlt]; exact h'
 ·have := hof i o ho
  rw [if_neg (by omega)] at this
  simp only [tailOk, Bool.and_eq_true, List.all_eq_true, List.mem_range] at this
  exact this.2 j hj
theorem tail_run (hp : Plan ops m) (h0 : True) (hQ : ∀ σ' G' a' w', K σ' -> SRel G0 w0 σ' G' a' w' -> Q .normal a' w') :
  ∀ (fuel k : Nat) (listed : Array Bool) (U : List Nat) (σ : St) (G : Nat -> Status) (a : Act) (w : World), Left ops listed U -> U.length = fuel -> m <= k -> (∀ i, i < ops.size -> (listed.getD i false = true ↔ i < k)) -> k <= ops.size ->
   Closed ops (fun k => listed.getD k false) -> opsA P ops (ops.toList.drop k) σ K -> SRel G0 w0 σ G a w -> wpAny P .any ops Q fuel listed a w := by
 intro fuel
 induction fuel with
 | zero =>
  intro k listed U σ G a w hl hU hmk hk hks hc hw h
  have hUn : U = [] := List.eq_nil_of_length_eq_zero hU
  subst hUn
  have hkk : k = ops.size := by
   apply Classical.byContradiction
   intro hne
   have hlt : k < ops.size := by omega
   have : listed.getD k false = false := by
    cases hb : listed.getD k false
    ·rfl
    ·have := (hk k hlt).1 hb; omega
   have := (hl.mem k).2 ⟨hlt, this⟩
   simp at this
  subst hkk
  refine ⟨?_, ?_⟩
  ·apply List.eq_nil_iff_forall_not_mem.2
   intro i hi
   obtain ⟨o, ho, h1, _⟩ := (ready_iff hl.size).1 hi
   have := (hl.mem i).2 ⟨(Array.getElem?_eq_some_iff.1 ho).1, h1⟩
   simp at this
  ·have hd : ops.toList.drop ops.size = [] := by simp
   rw [hd] at hw
   exact hQ σ G a w hw h
 | succ fuel ih =>
  intro k listed U σ G a w hl hU hmk hk hks hc hw h
  have hUn : U ≠ [] := by intro h; rw [h] at hU; simp at hU
  refine ⟨fun hr => absurd hr (some_ready hl hp.lt hUn), fun i hi => ?_⟩
  obtain ⟨o, ho, h1, h2⟩ := (ready_iff hl.size).1 hi
  have hlt := (Array.getElem?_eq_some_iff.1 ho).1
  have hki : ¬ i < k := fun h => by have := (hk i hlt).2 h; rw [h1] at this; cases this
  have hik : i = k := by
   apply Classical.byContradiction
   intro hne
   have hlk : k < i := by omega
   have := reach_listed hc ops.size i k o ho h2 (hp.tail i o ho (by omega) k hlk)
   have := (hk k (by omega)).1 this
   omega
  subst hik
  have hdrop : ops.toList.drop i = o :: ops.toList.drop (i + 1) := by
   have hlt' : i < ops.toList.length := by simpa using hlt
   rw [List.drop_eq_getElem_cons hlt']
   have : ops.toList[i] = o := by
    have := Array.getElem?_eq_some_iff.1 ho
    simpa using this.2
   rw [this]
  rw [hdrop] at hw
  have hmem : i ∈ U := (hl.mem i).2 ⟨hlt, h1⟩
  obtain ⟨l1, l2⟩ := hl.step hmem
  have hsz : i < listed.size := by rw [hl.size]; exact hlt
  have hk' : ∀ j, j < ops.size -> ((listed.setIfInBounds i true).getD j false = true ↔ j < i + 1) := fun j hj => by
   rw [set_getD hsz]
   by_cases hij : i = j
   ·subst hij; simp
   ·rw [if_neg hij, hk j hj]; omega
  have hcont : ∀ {σ' G' a' w'}, opsA P ops (ops.toList.drop (i + 1)) σ' K -> SRel G0 w0 σ' G' a' w' -> wpAny P .any ops Q fuel (listed.setIfInBounds i true) a' w' := fun hk2 hs2 =>
   ih (i + 1) _ _ _ _ _ _ l1 (by omega) (by omega) hk' (by omega) (hc.step hsz ho h2) hk2 hs2
  simp only [opsA] at hw
  simp only [Go.wpOp, ho]
  have run : ∀ {σ}, AM.wpOp P o σ (fun σ' => opsA P ops (ops.toList.drop (i + 1)) σ' K) -> SRel G0 w0 σ G a w -> o.wp P a w (wpAny P .any ops Q fuel (listed.setIfInBounds i true)) Q := fun hw h =>
   wpOp_sound hw h h0 _ _ fun σ' G' a' w' hk hs => hcont hk hs
  cases hg : o.guard with
  | none =>
   simp only [hg] at hw
   rw [if_pos (by simp [Region.wanted, hg])]
   exact .inl (run hw h)
  | some p =>
   obtain ⟨j, want⟩ := p
   simp only [hg] at hw
   cases hgs : guardSlot ops j with
   | none => simp [hgs] at hw
   | some g =>
    simp only [hgs] at hw
    split at hw
    ·rename_i b hb
     have hv := h.slots g
     rw [hb] at hv
     have hy := yielded_bool hgs hv.sc_inv
     by_cases hbw : b = want
     ·subst hbw
      rw [if_pos (by simp [Region.wanted, hg, hy])]
      exact .inl (run (hw.1 rfl) (h.same hb))
     ·rw [if_neg (by simp [Region.wanted, hg, hy, hbw])]
      have hbn : b = !want := by cases b <;> cases want <;> simp_all
      obtain ⟨hdst, hw⟩ := hw.2 hbn
      have hs := (h.same (g := g) (x := .sc (.bool (!want))) (by rw [hb, hbn])).add (.refl G w) h.good (fun _ _ h => h) (d := o.dst) (x := .sc undef) (v := undef) (by rw [put_n]; exact hdst) (.froz (.sc _))
      exact hcont hw hs
    ·rename_i vs hb
     have hv := h.slots g
     rw [hb] at hv
     have hy := yielded_none hgs hv.sc_inv
     rw [if_neg (by simp [Region.wanted, hg, hy])]
     obtain ⟨hdst, hw⟩ := hw
     have hs := h.add (.refl G w) h.good (fun _ _ h => h) (d := o.dst) (x := .sc undef) (v := undef) hdst (.froz (.sc _))
     exact hcont hw hs
    ·exact hw.elim
theorem head_run (hp : Plan ops m) (h0 : True) (hQ : ∀ σ' G' a' w', K σ' -> SRel G0 w0 σ' G' a' w' -> Q .normal a' w') (hvl : vs.length = m) (hap : Apart vs)
  (hK : opsA P ops (ops.toList.drop m) (puts σ vs) K)
  (hst : ∀ i o, i < m -> ops[i]? = some o -> ∃ d y, vs[i]? = some (d, y) /\ o.dst = some d /\ d < σ.n /\ StepG P ops o d (puts σ (vs.take i)) σ.boxes y) :
  ∀ (fuel : Nat) (listed : Array Bool) (U : List Nat) (τ : St) (G : Nat -> Status) (a : Act) (w : World), Left ops listed U -> U.length = fuel -> (∀ i, m <= i -> listed.getD i false = false) ->
   Closed ops (fun k => listed.getD k false) -> At vs (fun i => listed.getD i false) σ τ -> SRel G0 w0 τ G a w ->
   (∀ i o d, ops[i]? = some o -> i < m -> o.dst = some d -> creates o.op = true -> listed.getD i false = false -> Fresh d G) -> wpAny P .any ops Q fuel listed a w := by
 intro fuel
 induction fuel with
 | zero =>
  intro listed U τ G a w hl hU hm hc hat h hfr
  have hUn : U = [] := List.eq_nil_of_length_eq_zero hU
  subst hUn
  have hall : ∀ i, i < ops.size -> listed.getD i false = true := fun i hi => by
   cases hb : listed.getD i false
   ·have := (hl.mem i).2 ⟨hi, hb⟩; simp at this
   ·rfl
  have hms : m = ops.size := by
   apply Classical.byContradiction
   intro hne
   have := hp.le
   have h1 := hall m (by omega)
   rw [hm m (Nat.le_refl m)] at h1; cases h1
  have heq : SRel G0 w0 (puts σ vs) G a w := by
   have hpa := puts_at m vs σ hap
   rw [List.take_of_length_le (by omega)] at hpa
   refine h.slotsEq (by rw [hpa.n, hat.n]) (by rw [hpa.boxes, hat.boxes]) fun s => ?_
   by_cases hs : ∀ (i d : Nat) (y : AV), vs[i]? = some (d, y) -> d ≠ s
   ·rw [hpa.rest s hs, hat.rest s hs]
   ·have : ∃ (i : Nat) (y : AV), vs[i]? = some (s, y) := by
     apply Classical.byContradiction
     intro hcon
     exact hs fun i d y hi hds => hcon ⟨i, y, by rw [<- hds]; exact hi⟩
    obtain ⟨i, y, hi⟩ := this
    have hil : i < m := by rw [<- hvl]; exact (List.getElem?_eq_some_iff.1 hi).1
    rw [hpa.dst i s y hi, hat.dst i s y hi]
    simp [hil, hall i (by omega)]
  exact tail_run (P := P) hp h0 hQ 0 m listed [] (puts σ vs) G a w hl rfl (Nat.le_refl m) (fun i hi => by simp [hall i hi]; omega) hp.le hc hK heq
 | succ fuel ih =>
  intro listed U τ G a w hl hU hm hc hat h hfr
  have hUn : U ≠ [] := by intro h; rw [h] at hU; simp at hU
  by_cases hdone : ∀ i, i < m -> listed.getD i false = true
  ·have heq : SRel G0 w0 (puts σ vs) G a w := by
    have hpa := puts_at m vs σ hap
    rw [List.take_of_length_le (by omega)] at hpa
    refine h.slotsEq (by rw [hpa.n, hat.n]) (by rw [hpa.boxes, hat.boxes]) fun s => ?_
    by_cases hs : ∀ (i d : Nat) (y : AV), vs[i]? = some (d, y) -> d ≠ s
    ·rw [hpa.rest s hs, hat.rest s hs]
    ·have : ∃ (i : Nat) (y : AV), vs[i]? = some (s, y) := by
      apply Classical.byContradiction
      intro hcon
      exact hs fun i d y hi hds => hcon ⟨i, y, by rw [<- hds]; exact hi⟩
     obtain ⟨i, y, hi⟩ := this
     have hil : i < m := by rw [<- hvl]; exact (List.getElem?_eq_some_iff.1 hi).1
     rw [hpa.dst i s y hi, hat.dst i s y hi]
     simp [hil, hdone i hil]
   refine tail_run (P := P) hp h0 hQ (fuel + 1) m listed U (puts σ vs) G a w hl hU (Nat.le_refl m) (fun i hi => ⟨fun hb => ?_, fun hlt => hdone i hlt⟩) hp.le hc hK heq
   apply Classical.byContradiction
   intro hge
   rw [hm i (by omega)] at hb; cases hb
  ·refine ⟨fun hr => absurd hr (some_ready hl hp.lt hUn), fun i hi => ?_⟩
   obtain ⟨o, ho, h1, h2⟩ := (ready_iff hl.size).1 hi
   have hlt := (Array.getElem?_eq_some_iff.1 ho).1
   have him : i < m := by
    apply Classical.byContradiction
    intro hge
    exact hdone fun j hj => reach_listed hc ops.size i j o ho h2 (hp.tail i o ho (by omega) j (by omega))
   obtain ⟨d, y, hv, hd, hdn, hstep⟩ := hst i o him ho
   obtain ⟨d', hd', hself, hpair⟩ := hp.head i o ho him
   rw [hd] at hd'; cases hd'
   have hmem : i ∈ U := (hl.mem i).2 ⟨hlt, h1⟩
   obtain ⟨l1, l2⟩ := hl.step hmem
   have hsz : i < listed.size := by rw [hl.size]; exact hlt
   have hsame : ∀ s ∈ slotsG ops o, (puts σ (vs.take i)).get s = τ.get s := by
    intro s hsm
    have hpa := puts_at i vs σ hap
    by_cases hs : ∀ (i d : Nat) (y : AV), vs[i]? = some (d, y) -> d ≠ s
    ·rw [hpa.rest s hs, hat.rest s hs]
    ·have : ∃ (j : Nat) (y : AV), vs[j]? = some (s, y) := by
      apply Classical.byContradiction
      intro hcon
      exact hs fun i d y hi hds => hcon ⟨i, y, by rw [<- hds]; exact hi⟩
     obtain ⟨j, y', hj⟩ := this
     have hjl : j < m := by rw [<- hvl]; exact (List.getElem?_eq_some_iff.1 hj).1
     obtain ⟨p, hpj⟩ : ∃ p, ops[j]? = some p := ⟨ops[j]'(by have := hp.le; omega), by have := hp.le; simp [show j < ops.size by omega]⟩
     obtain ⟨d'', y'', hv'', hds'', _⟩ := hst j p hjl hpj
     rw [hj] at hv''; cases hv''
     have hji : j ≠ i := fun hji => by subst hji; rw [hv] at hj; cases hj; exact hself hsm
     have hre := (hpair j p s hjl hji hpj hds'').2 hsm
     rw [hpa.dst j s y' hj, hat.dst j s y' hj]
     by_cases hjlt : j < i
     ·rw [if_pos hjlt] at hre
      have := reach_listed hc ops.size i j o ho h2 hre
      simp [hjlt, this]
     ·rw [if_neg hjlt] at hre
      have hjf : listed.getD j false = false := by
       cases hb : listed.getD j false
       ·rfl
       ·have := reach_listed hc ops.size j i p hpj (fun k hk => hc j p hpj hb k hk) hre
        rw [h1] at this; cases this
      simp [hjlt, hjf]
   have hops : ∀ x ∈ o.op.operands, VRel G w ((puts σ (vs.take i)).ev x) (a.eval x) := by
    intro x hx
    have hrel := h.ev x
    suffices (puts σ (vs.take i)).ev x = τ.ev x by rw [this]; exact hrel
    cases x with
    | tmp s =>
     simp only [St.ev]
     refine hsame s (List.mem_append.2 (.inr ?_))
     unfold slotsOf
     exact List.mem_filterMap.2 ⟨.tmp s, by simpa using hx, rfl⟩
    | const v => rfl
    | func f => rfl
    | global g => rfl
   have hgo : ∀ {G' a' w'} (hs' : SRel G0 w0 (τ.put (some d) y) G' a' w') (g4 : NewTags d G G'), wpAny P .any ops Q fuel (listed.setIfInBounds i true) a' w' := by
    intro G' a' w' hs' g4
    refine ih _ _ _ G' _ _ l1 (by omega) (fun j hj => ?_) (hc.step hsz ho h2) (hat.step hap hv (fun j hj => ?_) ?_) hs' (fun j oj dj hoj hjm hdj hcr hjf => ?_)
    ·rw [set_getD hsz, if_neg (by omega)]; exact hm j hj
    ·simp only [set_getD hsz]; rw [if_neg (Ne.symm hj)]
    ·simp only [set_getD hsz]; simp
    ·rw [set_getD hsz] at hjf
     by_cases hij : i = j
     ·rw [if_pos hij] at hjf; cases hjf
     ·rw [if_neg hij] at hjf
      have hne := (hpair j oj dj hjm (Ne.symm hij) hoj hdj).1
      exact g4.fresh (Ne.symm hne) (hfr j oj dj hoj hjm hdj hcr hjf)
   have hrun : StepOk P o d (puts σ (vs.take i)).ev σ.boxes y -> o.wp P a w (wpAny P .any ops Q fuel (listed.setIfInBounds i true)) Q := fun hstep =>
    hstep _ G a w h.good (by rw [<- hat.boxes]; exact h.boxes) (fun hcr => hfr i o d ho him hd hcr h1) hops _ _ fun v w' G' g1 g2 g3 g4 =>
     hgo (by rw [hd]; exact h.add g2 g3 g4.boxes (by simp [dstOk, hat.n, hdn]) g1) g4
   simp only [Go.wpOp, ho]
   rcases hstep with ⟨hg, hstep⟩ | ⟨j, want, g, c, hg, hgs, hgv, hc2⟩ | ⟨j, want, g, vs', hg, hgs, hgv, rfl⟩
   ·rw [if_pos (by simp [Region.wanted, hg])]
    exact .inl (hrun hstep)
   ·have hgm : g ∈ slotsG ops o := by simp [slotsG, guardS, hg, hgs]
    have hv2 := h.slots g
    rw [<- hsame g hgm, hgv] at hv2
    have hy := yielded_bool hgs hv2.sc_inv
    rcases hc2 with ⟨rfl, hstep⟩ | ⟨hne, rfl⟩
    ·rw [if_pos (by simp [Region.wanted, hg, hy])]
     exact .inl (hrun hstep)
    ·rw [if_neg (by simp [Region.wanted, hg, hy, hne])]
     have hs' := h.add (.refl G w) h.good (fun _ _ h => h) (d := o.dst) (x := .sc undef) (v := undef) (by rw [hd]; simp [dstOk, hat.n, hdn]) (.froz (.sc _))
     refine hgo (G' := G) (by rw [hd] at hs' ⊢; exact hs') ⟨fun b t hb => .inl hb, fun b i hb => hb⟩
   ·have hgm : g ∈ slotsG ops o := by simp [slotsG, guardS, hg, hgs]
    have hv2 := h.slots g
    rw [<- hsame g hgm, hgv] at hv2
    have hy := yielded_none hgs hv2.sc_inv
    rw [if_neg (by simp [Region.wanted, hg, hy])]
    have hs' := h.add (.refl G w) h.good (fun _ _ h => h) (d := o.dst) (x := .sc undef) (v := undef) (by rw [hd]; simp [dstOk, hat.n, hdn]) (.froz (.sc _))
    exact hgo (G' := G) (by rw [hd] at hs' ⊢; exact hs') ⟨fun b t hb => .inl hb, fun b i hb => hb⟩
theorem DrawK.intro (m : Nat) (hm : P.follows .mixedOrders = true) (hok : drawOk ops m = true) (hfree : freeAll σ (creators ops m) = true) (h : headA P ops (ops.toList.take m) σ fun σ' => opsA P ops (ops.toList.drop m) σ' K) : DrawK P ops σ K := by
 intro G0 w0 G a w id Q h0 hs hQ
 have hp := drawOk_plan hok
 obtain ⟨vs, hvl, hK, hst⟩ := headA_vals _ _ _ h
 have hlen : (ops.toList.take m).length = m := by have := hp.le; simp; omega
 have hst' : ∀ i o, i < m -> ops[i]? = some o -> ∃ d y, vs[i]? = some (d, y) /\ o.dst = some d /\ d < σ.n /\ StepG P ops o d (puts σ (vs.take i)) σ.boxes y := fun i o hi ho => by
  refine hst i o ?_
  rw [List.getElem?_take, if_pos hi]
  simpa using ho
 have hap : Apart vs := by
  intro i j d y d' y' h1 h2 hij
  have hil : i < m := by have := (List.getElem?_eq_some_iff.1 h1).1; omega
  have hjl : j < m := by have := (List.getElem?_eq_some_iff.1 h2).1; omega
  have hle := hp.le
  obtain ⟨oi, hoi⟩ : ∃ p, ops[i]? = some p := ⟨ops[i]'(by omega), by simp [show i < ops.size by omega]⟩
  obtain ⟨oj, hoj⟩ : ∃ p, ops[j]? = some p := ⟨ops[j]'(by omega), by simp [show j < ops.size by omega]⟩
  obtain ⟨_, _, k1, k2, _⟩ := hst' i oi hil hoi
  obtain ⟨_, _, k3, k4, _⟩ := hst' j oj hjl hoj
  rw [h1] at k1; cases k1
  rw [h2] at k3; cases k3
  obtain ⟨d1, e1, _, e2⟩ := hp.head j oj hoj hjl
  rw [k4] at e1; cases e1
  exact (e2 i oi d hil hij hoi k2).1
 refine wp_region_any hm ?_
 obtain ⟨G', g1, g2, _⟩ := (hs.drawn (w.drawn + 1)).freshAll h0 (creators ops m) G hfree
 have hgd : ∀ i, (Array.replicate ops.size false).getD i false = false := fun i => by
  by_cases hi : i < ops.size <;> simp [hi]
 refine head_run (P := P) hp h0 hQ (by omega) hap hK hst' ops.size (Array.replicate ops.size false) (List.range ops.size) σ G' a _ ⟨by simp, List.nodup_range, fun i => ?_⟩ (by simp) (fun i _ => hgd i) (fun i o _ hi => absurd (show (Array.replicate ops.size false).getD i false = true from hi) (by rw [hgd]; simp)) ⟨rfl, rfl, fun i d y _ => by simp only [hgd]; simp, fun _ _ => rfl⟩ g1 (fun i o d ho hi hd hcr _ => ?_)
 ·rw [List.mem_range, hgd]; simp
 ·refine g2 d ?_
  unfold creators
  refine List.mem_filterMap.2 ⟨o, ?_, by rw [if_pos hcr]; exact hd⟩
  refine List.mem_of_getElem? (i := i) ?_
  rw [List.getElem?_take, if_pos hi]; simpa using ho
end
end
section
variable {P : Program} {n : Nat} {t : List (Nat × AV)} {b : List (List AV)}
variable {d : Nat} {T : TypeId} {pos : String} {af : Array Edge} {g : Option (Nat × Bool)} {K : St -> Prop}
@[congr] theorem headOp_congr {o : Oper} {K : St -> Prop} {σ σ' : St} (h : mkd σ = σ') : headOp P o σ K = headOp P o σ' K := by subst_vars; rfl
@[congr] theorem CallY_congr {f : FuncId} {args args' : List AV} {d : Nat} {K : St -> Prop} {σ σ' : St} (h1 : mkd args = args') (h : σ = σ') : CallY P f args d σ K = CallY P f args' d σ' K := by subst_vars; rfl
@[go_sem] theorem knownB_bool {c want : Bool} : knownB want (.sc (.bool c)) = some c := rfl
@[go_sem] theorem knownB_undef {want : Bool} : knownB want (.sc undef) = some (!want) := rfl
@[go_sem] theorem headOp_move {x : Operand} : headOp P ⟨some d, .move x, T, pos, af, g⟩ ⟨n, t, b⟩ K = andK (d < n) (K (St.put ⟨n, t, b⟩ (some d) (typed P d T (St.ev ⟨n, t, b⟩ x)))) := rfl
@[go_sem] theorem headOp_assign {x : Operand} : headOp P ⟨some d, .assign x, T, pos, af, g⟩ ⟨n, t, b⟩ K = andK (d < n) (K (St.put ⟨n, t, b⟩ (some d) (typed P d T (St.ev ⟨n, t, b⟩ x)))) := rfl
@[go_sem] theorem headOp_pick {c x y : Operand} : headOp P ⟨some d, .pick c x y, T, pos, af, g⟩ ⟨n, t, b⟩ K = andK (d < n) (onBool (St.ev ⟨n, t, b⟩ c) fun v => both v (K (St.put ⟨n, t, b⟩ (some d) (St.ev ⟨n, t, b⟩ x))) (K (St.put ⟨n, t, b⟩ (some d) (St.ev ⟨n, t, b⟩ y)))) := by
 simp only [headOp, evOp, andK, onBool, both]
 cases St.ev ⟨n, t, b⟩ c <;> simp
 rename_i v; cases v <;> simp
 rename_i v; intro _; cases v <;> simp
@[go_sem] theorem headOp_load {T' : TypeId} {x : Operand} : headOp P ⟨some d, .load T' x, T, pos, af, g⟩ ⟨n, t, b⟩ K = andK (d < n) (evLoad P b T' (St.ev ⟨n, t, b⟩ x) fun r => K (St.put ⟨n, t, b⟩ (some d) r)) := by simp [headOp, evOp, andK]
@[go_sem] theorem headOp_nilCheck {x : Operand} : headOp P ⟨some d, .nilCheck x, T, pos, af, g⟩ ⟨n, t, b⟩ K = andK (d < n) (andK ((isPtr (St.ev ⟨n, t, b⟩ x) || isFn (St.ev ⟨n, t, b⟩ x)) = true) (K (St.put ⟨n, t, b⟩ (some d) (St.ev ⟨n, t, b⟩ x)))) := by simp [headOp, evOp, andK]
@[go_sem] theorem headOp_binOp {op : BinOp} {T' T'' : TypeId} {x y : Operand} : headOp P ⟨some d, .binOp op T' x y T'', T, pos, af, g⟩ ⟨n, t, b⟩ K = andK (d < n) (evBinOp P op T' (St.ev ⟨n, t, b⟩ x) (St.ev ⟨n, t, b⟩ y) fun r => K (St.put ⟨n, t, b⟩ (some d) r)) := by simp [headOp, evOp, andK]
@[go_sem] theorem headOp_unOp {op : UnOp} {T' : TypeId} {x : Operand} : headOp P ⟨some d, .unOp op T' x, T, pos, af, g⟩ ⟨n, t, b⟩ K = andK (d < n) (evUn op (St.ev ⟨n, t, b⟩ x) fun r => K (St.put ⟨n, t, b⟩ (some d) r)) := by simp [headOp, evOp, andK]
@[go_sem] theorem headOp_convert {T' T'' : TypeId} {x : Operand} : headOp P ⟨some d, .convert T' T'' x, T, pos, af, g⟩ ⟨n, t, b⟩ K = andK (d < n) (evConv P T' T'' (St.ev ⟨n, t, b⟩ x) fun r => K (St.put ⟨n, t, b⟩ (some d) r)) := by simp [headOp, evOp, andK]
@[go_sem] theorem headOp_slice {T' : TypeId} {x : Operand} {lo hi mx : Option Operand} : headOp P ⟨some d, .slice T' x lo hi mx, T, pos, af, g⟩ ⟨n, t, b⟩ K = andK (d < n) (evSlice P T' (St.ev ⟨n, t, b⟩ x) (lo.map (St.ev ⟨n, t, b⟩)) (hi.map (St.ev ⟨n, t, b⟩)) (mx.map (St.ev ⟨n, t, b⟩)) fun r => K (St.put ⟨n, t, b⟩ (some d) r)) := by simp [headOp, evOp, andK]
@[go_sem] theorem headOp_fieldAddr {T' : TypeId} {x : Operand} {f : Nat} : headOp P ⟨some d, .fieldAddr T' x f, T, pos, af, g⟩ ⟨n, t, b⟩ K = andK (d < n) (evFieldAddr P T' (St.ev ⟨n, t, b⟩ x) f fun r => K (St.put ⟨n, t, b⟩ (some d) r)) := by simp [headOp, evOp, andK]
@[go_sem] theorem headOp_indexAddr {T' : TypeId} {x i : Operand} : headOp P ⟨some d, .indexAddr T' x i, T, pos, af, g⟩ ⟨n, t, b⟩ K = andK (d < n) (evIndexAddr P T' (St.ev ⟨n, t, b⟩ x) (St.ev ⟨n, t, b⟩ i) fun r => K (St.put ⟨n, t, b⟩ (some d) r)) := by simp [headOp, evOp, andK]
@[go_sem] theorem headOp_build {T' : TypeId} {ps : List (Nat × Operand)} : headOp P ⟨some d, .build T' ps.toArray, T, pos, af, g⟩ ⟨n, t, b⟩ K = andK (d < n) (evBuild P T' (evParts ⟨n, t, b⟩ ps) fun r => K (St.put ⟨n, t, b⟩ (some d) r)) := by simp [headOp, evOp, andK, evParts_eq]
@[go_sem] theorem headOp_buildSlice {T' : TypeId} {len : Nat} {ps : List (Nat × Operand)} : headOp P ⟨some d, .buildSlice T' len ps.toArray, T, pos, af, g⟩ ⟨n, t, b⟩ K = andK (d < n) (evBuildSlice P d T' len (evParts ⟨n, t, b⟩ ps) fun r => K (St.put ⟨n, t, b⟩ (some d) r)) := by simp [headOp, evOp, andK, evParts_eq]
@[go_sem] theorem headOp_alloc {T' : TypeId} : headOp P ⟨some d, .alloc T', T, pos, af, g⟩ ⟨n, t, b⟩ K = andK (d < n) (caseO (tinfo P T') fun q => caseO q.2.2 fun z => andK (zeroOk q.1 z = true) (K (St.put ⟨n, t, b⟩ (some d) (.pe (64 * (d + 1)) q.1 [ofConst z] 0 0)))) := by
 simp [headOp, evOp, evAllocE, andK, caseO]
@[go_sem] theorem headOp_lookup {T' : TypeId} {x y : Operand} : headOp P ⟨some d, .lookup T' x y false, T, pos, af, g⟩ ⟨n, t, b⟩ K = andK (d < n) (evLookup P T' (St.ev ⟨n, t, b⟩ x) (St.ev ⟨n, t, b⟩ y) fun r => K (St.put ⟨n, t, b⟩ (some d) r)) := by simp [headOp, evOp, andK]
@[go_sem] theorem headOp_len {x : Operand} {T' : TypeId} : headOp P ⟨some d, .call ⟨.builtin .len, [x].toArray, [T'].toArray⟩, T, pos, af, g⟩ ⟨n, t, b⟩ K = andK (d < n) (evLenM P T' (St.ev ⟨n, t, b⟩ x) fun r => K (St.put ⟨n, t, b⟩ (some d) r)) := by simp [headOp, evOp, andK]
@[go_sem] theorem headOp_call {f : FuncId} {args : List Operand} {As : Array TypeId} : headOp P ⟨some d, .call ⟨.value (.func f), args.toArray, As⟩, T, pos, af, g⟩ ⟨n, t, b⟩ K = andK (d < n) (CallY P f (evAll ⟨n, t, b⟩ args) d ⟨n, t, b⟩ K) := by simp [headOp, andK, St.ev, evAll_eq]
def crs : List Oper -> List Nat
 | [] => []
 | o :: r => if creates o.op = true then (match o.dst with | some d => d :: crs r | none => crs r) else crs r
theorem crs_eq : ∀ l : List Oper, crs l = l.filterMap fun o => if creates o.op = true then o.dst else none
 | [] => rfl
 | o :: r => by
  rw [crs, crs_eq r, List.filterMap_cons]
  split
  ·cases o.dst <;> rfl
  ·rfl
attribute [go_sem] crs creates needsFresh
def headT (P : Program) (ops : Array Oper) : Nat -> List Oper -> St -> (St -> Prop) -> Prop
 | 0, l, σ, K => opsA P ops l σ K
 | _ + 1, [], σ, K => K σ
 | m + 1, o :: l, σ, K => headG P ops o σ fun σ' => headT P ops m l σ' K
theorem headT_eq {ops : Array Oper} {K : St -> Prop} : ∀ (m : Nat) (l : List Oper) (σ : St), headT P ops m l σ K = headA P ops (l.take m) σ fun σ' => opsA P ops (l.drop m) σ' K
 | 0, l, σ => by cases l <;> rfl
 | _ + 1, [], σ => rfl
 | m + 1, o :: l, σ => by
  show (headG P ops o σ fun σ' => headT P ops m l σ' K) = headG P ops o σ fun σ' => headA P ops (l.take m) σ' fun σ' => opsA P ops (l.drop m) σ' K
  have : (fun σ' => headT P ops m l σ' K) = fun σ' => headA P ops (l.take m) σ' fun σ' => opsA P ops (l.drop m) σ' K := funext fun σ' => headT_eq m l σ'
  rw [this]
@[congr] theorem headT_congr {ops : Array Oper} {m : Nat} {l : List Oper} {K : St -> Prop} {σ σ' : St} (h : mkd σ = σ') : headT P ops m l σ K = headT P ops m l σ' K := by subst_vars; rfl
@[go_sem] theorem headT_zero {ops : Array Oper} {l : List Oper} {K : St -> Prop} : headT P ops 0 l ⟨n, t, b⟩ K = opsA P ops l ⟨n, t, b⟩ K := rfl
@[go_sem] theorem headT_succ {ops : Array Oper} {m : Nat} {dst : Option Tmp} {op : Op} {l : List Oper} {K : St -> Prop} : headT P ops (m + 1) (⟨dst, op, T, pos, af, none⟩ :: l) ⟨n, t, b⟩ K = headOp P ⟨dst, op, T, pos, af, none⟩ ⟨n, t, b⟩ fun σ' => headT P ops m l σ' K := rfl
@[go_sem] theorem headT_guard {ops : Array Oper} {m : Nat} {op : Op} {l : List Oper} {K : St -> Prop} {j : Nat} {want : Bool} : headT P ops (m + 1) (⟨some d, op, T, pos, af, some (j, want)⟩ :: l) ⟨n, t, b⟩ K = caseO (guardSlot ops j) fun g => caseO (knownB want (lookT t g)) fun c =>
  both (c == want) (headOp P ⟨some d, op, T, pos, af, some (j, want)⟩ ⟨n, t, b⟩ fun σ' => headT P ops m l σ' K) (andK (d < n) (headT P ops m l (St.put ⟨n, t, b⟩ (some d) (.sc undef)) K)) := by
 simp only [headT, headG, caseO, both, andK, St.get]
 apply propext
 constructor
 ·rintro ⟨g, c, h1, h2, h3, h4⟩
  refine ⟨g, h1, c, h2, h3, fun hc => ?_⟩
  obtain ⟨d', hd, h5, h6⟩ := h4 hc
  cases hd
  exact ⟨h5, h6⟩
 ·rintro ⟨g, h1, c, h2, h3, h4⟩
  exact ⟨g, c, h1, h2, h3, fun hc => ⟨d, rfl, (h4 hc).1, (h4 hc).2⟩⟩
theorem DrawK.walk {l : List Oper} {σ : St} (m : Nat) (hm : P.follows .mixedOrders = true) (hok : drawOk l.toArray m = true)
  (h : andK (freeAll σ (crs (l.take m)) = true) (headT P l.toArray m l σ K)) : DrawK P l.toArray σ K :=
 DrawK.intro m hm hok (by rw [crs_eq] at h; exact h.1) (by rw [headT_eq] at h; exact h.2)
theorem CallU.free {f : FuncId} {args args' : List AV} {post : AV -> List (List AV) -> Prop} {σ : St} (hcon : Con P f args' [] post) (hc : σ.free d = true /\ d < σ.n /\ dedup (pbss args) = [] /\ tagss args = []) (ha : mapTops viewLeaf args = args')
  (hk : ∀ r bx, post r bx -> r.allLeaf lt64 = true /\ K (σ.put (some d) (r.shift (64 * (d + 1))))) : CallU P f args d σ K := by
 unfold CallU
 rw [hc.2.2.1]
 refine .inl ⟨hc.1, hc.2.1, ?_⟩
 have : args.map AV.view = args' := by rw [<- ha, mapTops_eq]; rfl
 rw [this]
 exact hcon.mono fun r bx h => ⟨(hk r bx h).1, .free hc.2.2.2 (hk r bx h).2⟩
theorem CallU.flat {f : FuncId} {args args' : List AV} {post : AV -> List (List AV) -> Prop} {σ : St} (hcon : Con P f args' [] post) (hc : σ.free d = true /\ d < σ.n /\ dedup (pbss args) = []) (ha : mapTops viewLeaf args = args')
  (hk : ∀ r bx, post r bx -> r.allLeaf lt64 = true /\ r.allLeaf flatLeaf = true /\ K (σ.put (some d) (r.shift (64 * (d + 1))))) : CallU P f args d σ K := by
 unfold CallU
 rw [hc.2.2]
 refine .inl ⟨hc.1, hc.2.1, ?_⟩
 have : args.map AV.view = args' := by rw [<- ha, mapTops_eq]; rfl
 rw [this]
 exact hcon.mono fun r bx h => ⟨(hk r bx h).1, .flat (hk r bx h).2.1 (hk r bx h).2.2⟩
theorem CallU.freeze {f : FuncId} {args args' : List AV} {post : AV -> List (List AV) -> Prop} {σ : St} (hcon : Con P f args' [] post) (hc : σ.free d = true /\ d < σ.n /\ dedup (pbss args) = []) (ha : mapTops viewLeaf args = args')
  (hk : ∀ r bx, post r bx -> r.allLeaf lt64 = true /\ K ((σ.map (freezeLeaf fun t => (tagss args).contains t)).put (some d) (r.shift (64 * (d + 1))))) : CallU P f args d σ K := by
 unfold CallU
 rw [hc.2.2]
 refine .inl ⟨hc.1, hc.2.1, ?_⟩
 have : args.map AV.view = args' := by rw [<- ha, mapTops_eq]; rfl
 rw [this]
 exact hcon.mono fun r bx h => ⟨(hk r bx h).1, .freeze (hk r bx h).2⟩
theorem CallU.boxes {f : FuncId} {args args' : List AV} {i : Nat} {is : List Nat} {bx0 bx : List (List AV)} {post : AV -> List (List AV) -> Prop} {σ : St} (hcon : Con P f args' bx post) (hi : dedup (pbss args) = i :: is) (hb : getAll σ.boxes (i :: is) = some bx0)
  (hc : σ.free d = true /\ d < σ.n /\ allLeafs noTag args = true /\ nodupB (i :: is) = true /\ allNoTags bx0 = true) (ha : mapTops (pbIn (i :: is)) args = args') (hbx : mapB (pbIn (i :: is)) bx0 = bx)
  (hk : ∀ r bx', post r bx' -> r.allLeaf lt64b = true /\ allNoTags bx' = true /\ K (St.put ⟨σ.n, σ.tmps, setAll (i :: is) (mapB (outLeaf (64 * (d + 1)) (i :: is) σ.boxes.length) (bx'.take (i :: is).length)) σ.boxes ++ mapB (outLeaf (64 * (d + 1)) (i :: is) σ.boxes.length) (bx'.drop (i :: is).length)⟩ (some d) (r.mapTop (outLeaf (64 * (d + 1)) (i :: is) σ.boxes.length)))) : CallU P f args d σ K := by
 unfold CallU
 rw [hi]
 exact .inl ⟨hc.1, hc.2.1, hc.2.2.1, hc.2.2.2.1, bx0, hb, hc.2.2.2.2, by rw [ha, hbx]; exact hcon.mono hk⟩
theorem CallU.news {f : FuncId} {args args' : List AV} {bx0 bx : List (List AV)} {post : AV -> List (List AV) -> Prop} {σ : St} (hcon : Con P f args' bx post) (hi : dedup (pbss args) = []) (hb : getAll σ.boxes [] = some bx0)
  (hc : σ.free d = true /\ d < σ.n /\ allLeafs noTag args = true /\ nodupB [] = true /\ allNoTags bx0 = true) (ha : mapTops (pbIn []) args = args') (hbx : mapB (pbIn []) bx0 = bx)
  (hk : ∀ r bx', post r bx' -> r.allLeaf lt64b = true /\ allNoTags bx' = true /\ K (St.put ⟨σ.n, σ.tmps, setAll [] (mapB (outLeaf (64 * (d + 1)) [] σ.boxes.length) (bx'.take ([] : List Nat).length)) σ.boxes ++ mapB (outLeaf (64 * (d + 1)) [] σ.boxes.length) (bx'.drop ([] : List Nat).length)⟩ (some d) (r.mapTop (outLeaf (64 * (d + 1)) [] σ.boxes.length)))) : CallU P f args d σ K := by
 unfold CallU
 rw [hi]
 exact .inr (.inl ⟨hc.1, hc.2.1, hc.2.2.1, hc.2.2.2.1, bx0, hb, hc.2.2.2.2, by rw [ha, hbx]; exact hcon.mono hk⟩)
theorem CallU.lend {f : FuncId} {args args' : List AV} {post : AV -> Prop} {σ : St} (hcon : ConC P f args' post) (hc : σ.free d = true /\ d < σ.n /\ dedup (pbss args) = [] /\ allLeafs (pbLt 0) args = true /\ (tagss args).length < 60) (ha : mapTops (renLeaf (tagss args)) args = args')
  (hk : ∀ r, post r -> r.allLeaf lt64c = true /\ K ((σ.map (killS (tagss args))).put (some d) (r.shift (64 * (d + 1))))) : CallU P f args d σ K := by
 unfold CallU
 rw [hc.2.2.1]
 exact .inr (.inr (.inl ⟨hc.1, hc.2.1, hc.2.2.2.1, hc.2.2.2.2, by rw [ha]; exact ⟨hcon.1, fun G w vs h1 h2 h3 => (hcon.2 G w vs h1 h2 h3).mono fun e w' ⟨v, r, G', he, hq, rest⟩ => ⟨v, r, G', he, hk r hq, rest⟩⟩⟩))
theorem CallU.look {f : FuncId} {args args' : List AV} {post : AV -> List (List AV) -> Prop} {σ : St} (hcon : Con P f args' [] post) (hc : σ.free d = true /\ d < σ.n) (ha : mapTops (viewV σ.boxes) args = args')
  (hk : ∀ r bx, post r bx -> r.allLeaf lt64 = true /\ r.allLeaf flatLeaf = true /\ K (σ.put (some d) (r.shift (64 * (d + 1))))) : CallU P f args d σ K := by
 have h : CallV P f args d σ K := ⟨hc.1, hc.2, by rw [ha]; exact hcon.mono hk⟩
 unfold CallU
 split
 ·exact .inr (.inr (.inr (.inr (.inl h))))
 ·exact .inr (.inl h)
theorem CallU.close (is : List Nat) {f : FuncId} {args args' : List AV} {bx0 bx : List (List AV)} {post : AV -> List (List AV) -> Prop} {σ : St} (hcon : ConX P f args' bx post) (hi : dedup (pbss args) = []) (hsub : ∀ i ∈ is, i ∈ capPbs args) (hb : getAll σ.boxes is = some bx0) (ts : List Nat) (hts : tagss (args ++ catB bx0) = ts)
  (hc : σ.free d = true /\ d < σ.n /\ nodupB is = true /\ allLeafs okX (args ++ catB bx0) = true /\ ts.length < 60) (ha : mapTops (inX ts is) args = args') (hbx : mapB (inX ts is) bx0 = bx)
  (hk : ∀ r bx', post r bx' -> r.allLeaf lt64b = true /\ allLeafs lt64b (catB bx') = true /\
   K (St.put ⟨σ.n, mapT (killS ts) σ.tmps, setAll is (mapB (outLeaf (64 * (d + 1)) is σ.boxes.length) (bx'.take is.length)) (mapB (killS ts) σ.boxes) ++ mapB (outLeaf (64 * (d + 1)) is σ.boxes.length) (bx'.drop is.length)⟩ (some d) (r.mapTop (outLeaf (64 * (d + 1)) is σ.boxes.length)))) : CallU P f args d σ K := by
 subst hts
 unfold CallU
 rw [hi]
 exact .inr (.inr (.inr (.inr (.inr ⟨is, hsub, hc.1, hc.2.1, hc.2.2.1, bx0, hb, hc.2.2.2.1, hc.2.2.2.2, by rw [ha, hbx]; exact hcon.mono hk⟩))))
attribute [go_sem] inX okX capX capPbs
attribute [go_sem] viewV viewCap allFzV
attribute [go_sem] giveLeaf giveOf lookG posG
theorem CallY.mk {f : FuncId} {args args' : List AV} {r : AV} {σ : St} (hcon : Con P f args' [] fun r' _ => r' = r) (ha : mapTops viewLeaf args = args') (hr : r.allLeaf lt64 = true) (ht : tagss args = [] \/ r.allLeaf flatLeaf = true) (hk : K (σ.put (some d) (r.shift (64 * (d + 1))))) : CallY P f args d σ K := by
 have : args.map AV.view = args' := by rw [<- ha, mapTops_eq]; rfl
 exact ⟨r, by rw [this]; exact hcon, hr, ht, hk⟩
attribute [go_sem] pbIn outLeaf lt64b getAll setAll nodupB allNoTags pbss AV.pbs dedup freeAll
attribute [go_sem] List.take_zero List.drop_zero List.drop_succ_cons List.drop_nil List.contains_cons List.contains_nil List.nil_append List.cons_append List.set_cons_zero List.set_cons_succ List.map_map
@[go_sem] theorem evClear_tl {P : Program} {T : TypeId} {t i : Nat} {xs : List AV} {σ : St} {K : St -> Prop} : evClear P T σ (.tl t 1 xs i) K = onSlice (P.underlying T) fun E => caseO (tinfo P E) fun q => caseO q.2.2 fun z => andK (q.1 = 1 /\ 2 <= t /\ z.cells = #[z] /\ z.oneCell' = true /\ leafAll [ofConst z] = true)
  (i < xs.length /\ K (σ.map (copyLeaf t i (List.replicate (xs.length - i) (ofConst z))))) := by
 unfold evClear onSlice caseO andK
 simp only [copyDst]
 apply propext
 constructor
 ·rintro ⟨h1, h2, E, q, z, h3, h4, h5, h6, h7, h8, h9, h10⟩
  exact ⟨E, h3, q, h4, z, h6, ⟨h5, h1, h7, h8, h9⟩, h2, h10⟩
 ·rintro ⟨E, h3, q, h4, z, h6, ⟨h5, h1, h7, h8, h9⟩, h2, h10⟩
  exact ⟨h1, h2, E, q, z, h3, h4, h5, h6, h7, h8, h9, h10⟩
@[go_sem] theorem modify_one {α : Type} (x : α) (f : α -> α) : [x].modify 0 f = [f x] := rfl
attribute [go_sem] copyLeaf mvLeaf
end
end Go.AM
namespace Go.AM
open Go Go.RowKit Go.WideShapes Go.ChangeShapes
def oldG (w : World) (b : Nat) : Status := if b < w.heap.size then .stable else .junk
theorem oldG_lt {w : World} {b : Nat} (h : b < w.heap.size) : Stable (oldG w) b := by simp [Stable, oldG, h]
theorem oldG_tag (w : World) (b t : Nat) : oldG w b ≠ .tag t := by unfold oldG; split <;> simp
theorem oldG_box (w : World) (b t : Nat) : oldG w b ≠ .box t := by unfold oldG; split <;> simp
theorem oldG_good (w : World) : Good (oldG w) w := by
 refine ⟨fun b h => ?_, fun b b' t h => absurd h (oldG_tag w b t), fun b b' t h => absurd h (oldG_box w b t)⟩
 unfold oldG at h; split at h
 ·assumption
 ·exact absurd rfl h
theorem cell_old {w : World} {a : Addr} {v : Value} (h : w.cell? a = some v) : a.block < w.heap.size := by
 unfold World.cell? at h
 rcases Nat.lt_or_ge a.block w.heap.size with h' | h'
 ·exact h'
 ·rw [Array.getElem?_eq_none h'] at h; simp at h
section
variable {H : Type} {enc : TypeId × Value -> H} {P : Program} {w : World} {base : Nat} {spare : Nat -> Bool} {held : Bool}
def Stands (enc : TypeId × Value -> H) (P : Program) (w : World) (base : Nat) (spare : Nat -> Bool) (held : Bool) (e : TypeId) (f : DataW H -> AV) : Prop :=
 ∀ n v d ps, DataW.trod enc P w base spare held n e [v] = some (d, ps) -> FRel (Stable (oldG w)) w (f d) v /\ (f d).leafy = true /\ v.oneCell' = true
def numI : DataW H -> Int
 | .lit (.int _ n) => n
 | _ => 0
theorem stands_i64 {e : TypeId} (he : P.underlying e = some (.int .i64)) : Stands enc P w base spare held e fun d => .sc (.int .i64 (numI d)) := by
 intro n v d ps h
 obtain ⟨x, e0, e1, wx⟩ := DataW.trod_int he h
 simp only [List.cons.injEq, and_true] at e0
 simp only [Prod.mk.injEq] at e1
 obtain ⟨rfl, _⟩ := e1
 subst e0
 exact ⟨.sc _, rfl, rfl⟩
theorem trodAll_stays (hl : laidOutB P = true) {W W' : World} {sp : Nat -> Bool} (hb : Go.RowKit.Below W.heap.size W W') : ∀ {ts : List TypeId} {vs : List Value} {ds : List (DataW H)} {ps : List MemPlace}, (∀ t ∈ ts, P.readableRec t = true /\ t < P.types.size) ->
  DataW.TrodAll enc P W 0 (fun _ => true) true ts vs ds ps -> (∀ p ∈ ps, p.block < W.heap.size) -> (∀ p ∈ ps, sp p.block = true) -> DataW.TrodAll enc P W' 0 sp true ts vs ds ps
 | [], vs, ds, ps, _, h, _, _ => by
  cases vs <;> cases ds <;> simp only [DataW.TrodAll] at h ⊢ <;> first | exact h | exact h.elim
 | t :: ts, vs, ds, ps, hr, h, h1, h2 => by
  cases vs with
  | nil => cases ds <;> simp only [DataW.TrodAll] at h
  | cons v vs =>
   cases ds with
   | nil => simp only [DataW.TrodAll] at h
   | cons d ds =>
    simp only [DataW.TrodAll] at h ⊢
    obtain ⟨p, q, hp, hq, rfl⟩ := h
    exact ⟨p, q, WideElems.Trod_stays hl (hr t (by simp)).1 (hr t (by simp)).2 hp (fun x hx => hb.same (h1 x (by simp [hx]))) (fun x hx => h2 x (by simp [hx])),
     trodAll_stays hl hb (fun t' ht' => hr t' (by simp [ht'])) hq (fun x hx => h1 x (by simp [hx])) (fun x hx => h2 x (by simp [hx])), rfl⟩
theorem law_post {f : Func} {s : ChangeSpec} {W W' : World} {args : Array Value} {ds gs : List (DataW H)} {before : List MemPlace} {tb : TypeId} (hl : laidOutB P = true) (hv : s.vars = []) (hr : f.resultTypes = #[tb]) (ht : P.underlying tb = some .bool)
  (hrec : ∀ t ∈ f.params.toList, P.readableRec t = true /\ t < P.types.size)
  (hW : DataW.Whole enc P f.params.toList s.vars false W args.toList ds gs before) (hs : s.fn H (ds ++ gs) = { results := [.lit (.bool true)], args := ds }) (hb : Go.RowKit.Below W.heap.size W W') :
  s.post enc P f false true false false W args (.bool true) W' := by
 have hW0 := hW
 have hlt : ∀ p ∈ before, p.block < W.heap.size := fun p hp => hW.lt p hp
 obtain ⟨p, q, hA, hV, rfl, hfz, hnd⟩ := hW
 have hV0 := hV
 rw [hv] at hV
 obtain ⟨hg, hq⟩ : gs = [] /\ q = [] := by
  cases gs <;> simp only [DataW.TrodVars] at hV
  exact ⟨rfl, hV⟩
 subst hg; subst hq
 have hargs : ∀ sp : Nat -> Bool, (∀ x ∈ p ++ [], sp x.block = true) -> DataW.TrodAll enc P W' 0 sp true f.params.toList args.toList (s.fn H (ds ++ [])).args p := fun sp h => by
  rw [hs]
  exact trodAll_stays hl hb hrec hA (fun x hx => hlt x (by simp [hx])) (fun x hx => h x (by simp [hx]))
 have hvars : ∀ sp : Nat -> Bool, DataW.TrodVars enc P W' sp s.vars (s.fn H (ds ++ [])).vars [] := fun sp => by rw [hs, hv]; simp only [DataW.TrodVars]
 have hres : ∀ (b : Nat) (sp : Nat -> Bool) (hd : Bool), DataW.TrodAll enc P W' b sp hd f.resultTypes.toList ((Value.bool true).resultList f.resultTypes.size) (s.fn H (ds ++ [])).results [] := fun b sp hd => by
  rw [hs, hr]
  exact trodAll_mk1 (shut_bool ht true)
 have hold : ∀ x ∈ p ++ [], (fun b => decide (b < W.heap.size)) x.block = true := fun x hx => by simpa using hlt x hx
 exact ⟨ds, [], p ++ [], [], p, [], hW0, hres _ _ _, hargs _ hold, hvars _, World.keptBut_mono (fun x hx => ⟨hx, .inr (.inl (by simpa using hx))⟩) (hb.frame (· ∈ p ++ [])), fun h => by cases h⟩
theorem Con.law {f : FuncId} {avs : List AV} {W : World} {args : Array Value} (hc : Con P f avs [] fun r _ => r = .sc (.bool true)) (hv : PW (VRel (oldG W) W) avs args.toList) {Q : Ending -> World -> Prop}
  (hQ : ∀ W', Go.RowKit.Below W.heap.size W W' -> Q (.returned (.bool true)) W') : Calls P f args W Q := by
 refine (hc.2 (oldG W) W args (oldG_good W) (oldG_tag W) (fun b i h => absurd h (oldG_box W b i)) ⟨fun i vs hv => by simp [noGh] at hv, fun i cs h => by simp at h⟩ hv).mono ?_
 rintro e w' ⟨v, r, bx', G', rfl, rfl, hr, _, _, _, e1, e2, e3, e4, _, e6⟩
 obtain rfl := hr.sc_inv
 exact hQ w' ⟨e1, e2, e3, e4, fun k hk => e6 k hk fun i h => oldG_box W k i h⟩
end
end Go.AM
namespace Go.AM
open Go.ChangeShapes Go.WideShapes Go.ChangeAt Go.RowKit
section
variable {H : Type} {enc : TypeId × Value -> H} {P : Program} {w : World} {base : Nat} {spare : Nat -> Bool} {held : Bool}
def Reads (w : World) (xs : List AV) (cs : List Value) : Prop := PW (FRel (Stable (oldG w)) w) xs cs /\ One cs
theorem Reads.cons {x : AV} {xs : List AV} {v : Value} {cs : List Value} (h : Reads w [x] [v]) (k : Reads w xs cs) : Reads w (x :: xs) (v :: cs) :=
 ⟨.cons (h.1.2 0 x v rfl rfl) k.1, fun u hu => by
  rcases List.mem_cons.1 hu with rfl | hu
  ·exact h.2 u (by simp)
  ·exact k.2 u hu⟩
theorem Reads.one {x : AV} {v : Value} (h : Reads w [x] [v]) : FRel (Stable (oldG w)) w x v := h.1.2 0 x v rfl rfl
theorem Reads.of {x : AV} {v : Value} (h : FRel (Stable (oldG w)) w x v) (k : v.oneCell' = true) : Reads w [x] [v] := ⟨.cons h (.nil _), fun u hu => by simp at hu; subst hu; exact k⟩
def elemsOf : DataW H -> List (DataW H)
 | .slice l _ => l
 | _ => []
def partsOf : DataW H -> List (DataW H)
 | .agg l => l
 | _ => []
theorem flatten_at {α : Type} {es : Nat} : ∀ {L : List (List α)} {j : Nat} {u : α}, (∀ l ∈ L, l.length = es) -> L.flatten[j]? = some u -> ∃ i o l, j = i * es + o /\ L[i]? = some l /\ l[o]? = some u
 | [], j, u, _, h => by simp at h
 | l :: L, j, u, hl, h => by
  rw [List.flatten_cons] at h
  by_cases hj : j < l.length
  ·rw [List.getElem?_append_left hj] at h; exact ⟨0, j, l, by omega, rfl, h⟩
  ·rw [List.getElem?_append_right (by omega)] at h
   obtain ⟨i, o, l', h1, h2, h3⟩ := flatten_at (fun l' hl' => hl l' (by simp [hl'])) h
   have := hl l (by simp)
   exact ⟨i + 1, o, l', by rw [Nat.succ_mul]; omega, by simpa using h2, h3⟩
theorem slice_reads {t e : TypeId} {g : DataW H -> AV} {es fuel : Nat} {cs : List Value} {d : DataW H} {ps : List MemPlace} (ht : P.underlying t = some (.slice e)) (hc : P.cellsOf e = es) (hes : 0 < es)
  (h : DataW.trod enc P w base spare held fuel t cs = some (d, ps))
  (hel : ∀ x ∈ elemsOf d, ∀ n cs' ps', DataW.trod enc P w base spare held n e cs' = some (x, ps') -> Reads w (g x).cells cs') :
  ∃ v, cs = [v] /\ Reads w [.sl 0 es ((elemsOf d).map g)] [v] /\ (elemsOf d).length <= 9223372036854775807 /\ ∀ x ∈ elemsOf d, ∃ n cs' ps', DataW.trod enc P w base spare held n e cs' = some (x, ps') := by
 rcases Go.Deep.open_slice ht h with ⟨rfl, h2⟩ | ⟨a, len, cap, m, n, D, Pl, rfl, _, hl, hcm, hm, h2, hx⟩
 ·simp only [Prod.mk.injEq] at h2
  obtain ⟨rfl, _⟩ := h2
  exact ⟨_, rfl, .of (.slNil _ _ _ _ (by omega) (by simp) (by simp)) rfl, by simp [elemsOf], fun x hx => by simp [elemsOf] at hx⟩
 ·simp only [Prod.mk.injEq] at h2
  obtain ⟨rfl, _⟩ := h2
  refine ⟨_, rfl, ?_, by simp only [elemsOf, List.length_map, List.length_range]; unfold maxLen at hcm; omega, fun x hx' => by
   simp only [elemsOf] at hx'
   obtain ⟨i, hi, rfl⟩ := List.mem_map.1 hx'
   obtain ⟨cs', _, h2⟩ := hx i (by have := List.mem_range.1 hi; rw [hm]; split <;> omega)
   exact ⟨n, cs', _, h2⟩⟩
  refine .of ?_ rfl
  have hlm : len <= m := by rw [hm]; split <;> omega
  rcases Nat.eq_zero_or_pos len with h0 | hp
  ·subst h0
   exact .slNil _ _ _ _ (by omega) (by simp) (by simp)
  obtain ⟨CS, hCS⟩ := Go.Deep.choose_lt (α := List Value) (p := fun i cs' => w.cells? base (a.add (i * P.cellsOf e)) (P.cellsOf e) = some cs' /\ DataW.trod enc P w base spare held n e cs' = some (D i, Pl i)) (n := len) (fun i hi => hx i (by omega))
  rw [hc] at hCS
  have hcell : ∀ i, i < len -> (CS i).length = es /\ ∀ o, o < es -> w.cell? ((a.add (i * es)).add o) = (CS i)[o]? := fun i hi =>
   let ⟨_, h1, h2⟩ := World.cells?_some (hCS i hi).1
   ⟨h1, h2⟩
  have hrd : ∀ i, i < len -> Reads w (g (D i)).cells (CS i) := fun i hi => hel (D i) (by simp only [elemsOf]; exact List.mem_map.2 ⟨i, List.mem_range.2 hi, rfl⟩) n (CS i) (Pl i) (hCS i hi).2
  obtain ⟨b, off, spot⟩ := a
  have h00 : ∃ u, w.cell? (((Addr.mk b off spot).add (0 * es)).add 0) = some u := by
   rw [(hcell 0 hp).2 0 hes]
   exact ⟨_, List.getElem?_eq_getElem (by rw [(hcell 0 hp).1]; exact hes)⟩
  obtain ⟨u0, hu0⟩ := h00
  have hspot : spot = none := by simpa [Addr.add] using World.cell?_spot hu0
  subst hspot
  have hb : b < w.heap.size := by simpa [Addr.add] using cell_old hu0
  simp only [elemsOf, List.map_map]
  have hlen : ((List.range len).map (g ∘ D)).length = len := by simp
  have hL : ∀ l ∈ (List.range len).map CS, l.length = es := fun l hl => by
   obtain ⟨i, hi, rfl⟩ := List.mem_map.1 hl
   exact (hcell i (List.mem_range.1 hi)).1
  have hpw : PW (FRel (Stable (oldG w)) w) (flat ((List.range len).map (g ∘ D))) ((List.range len).map CS).flatten := by
   have := PW.flatMap (R := FRel (Stable (oldG w)) w) (f := AV.cells) (g := fun l : List Value => l) (xs := (List.range len).map (g ∘ D)) (ys := (List.range len).map CS) ⟨by simp, fun j x y hx hy => by
    have hjl : j < len := by have := (List.getElem?_eq_some_iff.1 hx).1; simpa using this
    simp only [List.getElem?_map, List.getElem?_range hjl, Option.map_some, Option.some.injEq] at hx hy
    subst hx; subst hy
    exact (hrd j hjl).1⟩
   have e : ((List.range len).map CS).flatMap (fun l => l) = ((List.range len).map CS).flatten := by rw [List.flatMap_def]; congr 1; exact List.map_id' _
   rw [e] at this
   exact this
  have := FRel.sl (S := Stable (oldG w)) (w := w) 0 es ((List.range len).map (g ∘ D)) b off cap ((List.range len).map CS).flatten (by omega) (oldG_lt hb) (by simp) (by rw [hlen]; exact hl)
   (fun x hx => by
    obtain ⟨i, hi, rfl⟩ := List.mem_map.1 hx
    have hi := List.mem_range.1 hi
    rw [<- (hcell i hi).1]; exact (hrd i hi).1.1)
   hpw.1
   (fun u hu => by
    obtain ⟨l, hl, hul⟩ := List.mem_flatten.1 hu
    obtain ⟨i, hi, rfl⟩ := List.mem_map.1 hl
    exact (hrd i (List.mem_range.1 hi)).2 u hul)
   (fun j u hj => by
    obtain ⟨i, o, l, rfl, h1, h2⟩ := flatten_at hL hj
    have hil : i < len := by have := (List.getElem?_eq_some_iff.1 h1).1; simpa using this
    simp only [List.getElem?_map, List.getElem?_range hil, Option.map_some, Option.some.injEq] at h1
    subst h1
    have ho : o < es := by have := (List.getElem?_eq_some_iff.1 h2).1; rw [(hcell i hil).1] at this; exact this
    have := (hcell i hil).2 o ho
    rw [h2] at this
    rw [add_plain, add_plain, Nat.add_assoc] at this
    exact this)
   (fun j x u hx hu => hpw.2 j x u hx hu)
  rw [hlen] at this
  exact this
theorem int_reads {e : TypeId} {fuel : Nat} {cs : List Value} {d : DataW H} {ps : List MemPlace} (he : P.underlying e = some (.int .i64)) (h : DataW.trod enc P w base spare held fuel e cs = some (d, ps)) :
  ∃ v, cs = [v] /\ Reads w [.sc (.int .i64 (numI d))] [v] := by
 obtain ⟨x, e0, e1, wx⟩ := DataW.trod_int he h
 subst e0
 exact ⟨_, rfl, .of (stands_i64 he fuel _ d ps h).1 rfl⟩
theorem bool_reads {e : TypeId} {fuel : Nat} {cs : List Value} {d : DataW H} {ps : List MemPlace} (he : P.underlying e = some .bool) (h : DataW.trod enc P w base spare held fuel e cs = some (d, ps)) :
  ∃ v b, cs = [v] /\ d = .lit (.bool b) /\ Reads w [.sc (.bool b)] [v] := by
 obtain ⟨x, e0, e1⟩ := DataW.trod_bool he h
 subst e0
 simp only [Prod.mk.injEq] at e1
 obtain ⟨rfl, _⟩ := e1
 exact ⟨_, x, rfl, rfl, .of (.sc _) rfl⟩
theorem struct2_reads {e : TypeId} {f0 f1 : Field} {fuel : Nat} {cs : List Value} {d : DataW H} {ps : List MemPlace} (he : P.underlying e = some (.struct #[f0, f1])) (ce : P.cellsOf e = 2)
  (o0 : f0.offset = 0) (o1 : f1.offset = 1) (c0 : P.cellsOf f0.type = 1) (c1 : P.cellsOf f1.type = 1) (h : DataW.trod enc P w base spare held fuel e cs = some (d, ps)) :
  ∃ v0 v1 d0 d1 n p0 p1, cs = [v0, v1] /\ d = .agg [d0, d1] /\ DataW.trod enc P w base spare held n f0.type [v0] = some (d0, p0) /\ DataW.trod enc P w base spare held n f1.type [v1] = some (d1, p1) := by
 obtain ⟨y0, y1, n, hxy, hl, g0, g1⟩ := trod_struct2 he h
 rw [ce] at hl
 match cs, hl with
 | [v0, v1], _ =>
  simp [o0, o1, c0, c1] at g0 g1
  simp only [Prod.mk.injEq] at hxy
  exact ⟨v0, v1, y0.1, y1.1, n, y0.2, y1.2, rfl, hxy.1, g0, g1⟩
end
end Go.AM
namespace Go.AM
open Go.RowKit
section
variable {P : Program} {ops : Array Oper}
theorem exec_congr {ρ ρ' : Operand -> Value} {o : Oper} (hs : ∀ cs b, o.op ≠ .select cs b) (h : ∀ x ∈ o.op.operands, ρ x = ρ' x) : execOp ρ o = execOp ρ' o := by
 obtain ⟨d, op, T, pos, af, g⟩ := o
 have hm : ∀ {l : Array Operand}, (∀ x ∈ l, ρ x = ρ' x) -> l.map ρ = l.map ρ' := fun h => Array.map_congr_left h
 have hr : ∀ {c : Call}, (∀ x ∈ c.operands, ρ x = ρ' x) -> resolve ρ c T = resolve ρ' c T := by
  intro c hc
  obtain ⟨cl, args, As⟩ := c
  have ha : args.map ρ = args.map ρ' := hm fun x hx => hc x (by simp [Call.operands, hx])
  cases cl with
  | value f => simp only [resolve, ha, hc f (by simp [Call.operands])]
  | invoke r nm => simp only [resolve, ha, hc r (by simp [Call.operands])]
  | builtin b => simp only [resolve, ha]
 have hp : ∀ {ps : Array (Nat × Operand)}, (∀ x ∈ (ps.toList.map (·.2)).toArray, ρ x = ρ' x) -> (ps.map fun (i, x) => (i, ρ x)) = ps.map fun (i, x) => (i, ρ' x) := by
  intro ps h
  refine Array.map_congr_left fun p hp => ?_
  obtain ⟨i, x⟩ := p
  have e := h x (by simp only [List.mem_toArray, List.mem_map, Array.mem_toList_iff]; exact ⟨(i, x), hp, rfl⟩)
  simp only [e]
 have ho : ∀ {x : Option Operand}, (∀ y ∈ x, ρ y = ρ' y) -> x.map ρ = x.map ρ' := by
  intro x h; cases x with
  | none => rfl
  | some y => simp [h y rfl]
 cases op with
 | alloc | ready | waits => rfl
 | build _ ps => simp only [execOp]; rw [hp (ps := ps) h]
 | buildSlice _ _ ps => simp only [execOp]; rw [hp (ps := ps) h]
 | makeFunc fn f c =>
  simp only [Op.operands, Array.mem_append] at h
  simp only [execOp]; rw [hm (l := f) fun x hx => h x (.inl hx), hm (l := c) fun x hx => h x (.inr hx)]
 | makeMap t r =>
  simp only [execOp]; rw [ho (x := r) fun y hy => h y (by simp [Op.operands]; exact hy)]
 | slice t x l h' m =>
  simp only [execOp]
  rw [h x (by simp [Op.operands]), ho (x := l) fun y hy => h y (by simp [Op.operands]; exact .inr (.inl hy)), ho (x := h') fun y hy => h y (by simp [Op.operands]; exact .inr (.inr (.inl hy))), ho (x := m) fun y hy => h y (by simp [Op.operands]; exact .inr (.inr (.inr hy)))]
 | call c => simp only [execOp]; rw [hr (c := c) h]
 | go c => simp only [execOp]; rw [hr (c := c) h]
 | defer c => simp only [execOp]; rw [hr (c := c) h]
 | select cs b => exact absurd rfl (hs cs b)
 | _ => simp [Op.operands] at h <;> simp [execOp, h]
theorem eval_put {a : Act} {d : Nat} {v : Value} {x : Operand} (h : x ≠ .tmp d) : (a.put (some d) v).eval x = a.eval x := by
 cases x with
 | tmp s =>
  have : d ≠ s := fun h' => h (by rw [h'])
  simp [Act.eval, Act.put, Array.getElem?_setIfInBounds_ne this]
 | _ => rfl
theorem put_put {a : Act} {d : Nat} {o : Option Tmp} {v x : Value} (h : o ≠ some d) : (a.put (some d) v).put o x = (a.put o x).put (some d) v := by
 cases o with
 | none => rfl
 | some e =>
  have : d ≠ e := fun h' => h (by rw [h'])
  simp only [Act.put]
  rw [Array.setIfInBounds_comm _ _ this]
structure Front (ops : Array Oper) (j : Nat) (p : Oper) (d : Nat) : Prop where
 here : ops[j]? = some p
 guard : p.guard = none
 dst : p.dst = some d
 sel : ∀ cs b, p.op ≠ .select cs b
 other : ∀ i o, ops[i]? = some o -> i ≠ j -> (∀ cs b, o.op ≠ .select cs b) /\ o.dst ≠ some d /\ (d ∈ slotsOf o -> reach ops ops.size i j = true) /\ (∀ s, o.dst = some s -> s ∈ slotsOf p -> reach ops ops.size j i = true \/ reach ops ops.size i j = true) /\ (∀ g b, o.guard = some (g, b) -> guardSlot ops g ≠ some d)
theorem mem_slots {o : Oper} {s : Nat} (h : Operand.tmp s ∈ o.op.operands) : s ∈ slotsOf o := by
 unfold slotsOf
 exact List.mem_filterMap.2 ⟨.tmp s, by simpa using h, rfl⟩
theorem wanted_put {o : Oper} {a : Act} {d : Nat} {v : Value} (h : ∀ g b, o.guard = some (g, b) -> guardSlot ops g ≠ some d) : Region.wanted o (yielded ops (a.put (some d) v).tmps) = Region.wanted o (yielded ops a.tmps) := by
 unfold Region.wanted
 cases hg : o.guard with
 | none => rfl
 | some p =>
  obtain ⟨g, b⟩ := p
  have := h g b hg
  have e : yielded ops (a.put (some d) v).tmps g = yielded ops a.tmps g := by
   unfold guardSlot at this
   unfold yielded
   cases hs : (ops[g]?).bind (·.dst) with
   | none => rfl
   | some s =>
    rw [hs] at this
    have hds : d ≠ s := fun h' => this (by rw [h'])
    simp only [Act.put, Option.bind_some, Array.getElem?_setIfInBounds_ne hds]
  simp [e]
theorem wpOp_swap {Q : Exit -> Act -> World -> Prop} (hQ : ∀ e a w, e ≠ .normal -> ¬ Q e a w) {i d : Nat} {o : Oper} {a : Act} {w : World} {v : Value} {K K' : Act -> World -> Prop}
  (ho : ops[i]? = some o) (hs : ∀ cs b, o.op ≠ .select cs b) (hd : o.dst ≠ some d) (hr : d ∉ slotsOf o) (hg : ∀ g b, o.guard = some (g, b) -> guardSlot ops g ≠ some d)
  (hK : ∀ ds x w', K (({ a with defers := ds } : Act).put o.dst x |>.put (some d) v) w' -> K' (({ a with defers := ds } : Act).put o.dst x) w')
  (h : Go.wpOp P ops Q i K (a.put (some d) v) w) : Go.wpOp P ops Q i K' a w := by
 have he : execOp (a.put (some d) v).eval o = execOp a.eval o := exec_congr hs fun x hx => eval_put fun hxd => hr (mem_slots (by rw [<- hxd]; exact hx))
 have hout : ¬ LetsOut Q := fun ⟨a, w, h⟩ => hQ _ _ _ (by simp) h
 have hk : ∀ x w', K ((a.put (some d) v).put o.dst x) w' -> K' (a.put o.dst x) w' := fun x w' h => hK a.defers x w' (by rw [put_put hd] at h; exact h)
 simp only [Go.wpOp, ho, wanted_put hg] at h ⊢
 split
 ·rename_i hw
  simp only [hw, if_true] at h
  rcases h with h | ⟨_, h⟩
  ·refine .inl ?_
   simp only [Oper.wp, he] at h ⊢
   generalize (execOp a.eval o).run P w = r at *
   cases r with
   | ok n w' =>
    cases n <;> simp only [Oper.upon] at h ⊢
    case value => exact hk _ _ h
    case skip => exact hk _ _ h
    case defer D =>
     refine hK (D :: a.defers) _ _ ?_
     have : ({ (a.put (some d) v) with defers := D :: (a.put (some d) v).defers } : Act) = ({ a with defers := D :: a.defers } : Act).put (some d) v := rfl
     rw [this, put_put hd] at h; exact h
    case enter =>
     refine Calls.mono h fun e w'' h => ?_
     rcases e with _ | _ | _
     ·exact hk _ _ h
     ·exact absurd h (hQ _ _ _ (by simp))
     ·exact absurd h hout
    case row => exact Rows.mono h fun _ _ h => hk _ _ h
   | halt x w' =>
    cases x <;> simp only [Oper.upon] at h ⊢
    exact absurd h (hQ _ _ _ (by simp))
  ·exact absurd h hout
 ·rename_i hw
  simp only [hw] at h
  exact hk _ _ h
theorem front_run {Q : Exit -> Act -> World -> Prop} (hQ : ∀ e a w, e ≠ .normal -> ¬ Q e a w) {j d : Nat} {p : Oper} (hf : Front ops j p d) :
  ∀ (fuel : Nat) (listed : Array Bool) (a : Act) (w : World) (v : Value), listed.size = ops.size -> Closed ops (fun k => listed.getD k false) -> j ∈ Region.ready .any ops listed ->
   (∀ w', (execOp a.eval p).run P w' = .ok (.value v) w') -> wpAny P .any ops Q fuel (listed.setIfInBounds j true) (a.put (some d) v) w -> wpAny P .any ops Q (fuel + 1) listed a w := by
 intro fuel
 have key : ∀ {listed : Array Bool} {i : Nat}, listed.size = ops.size -> i ∈ Region.ready .any ops listed -> j ∈ Region.ready .any ops listed -> i ≠ j -> i ∈ Region.ready .any ops (listed.setIfInBounds j true) := by
  intro listed i hsz hi hj hij
  obtain ⟨o, ho, h1, h2⟩ := (ready_iff hsz).1 hi
  obtain ⟨p', hp', _⟩ := (ready_iff hsz).1 hj
  have hjl : j < listed.size := by rw [hsz]; exact (Array.getElem?_eq_some_iff.1 hp').1
  refine (ready_iff (by simpa using hsz)).2 ⟨o, ho, ?_, fun k hk => ?_⟩
  ·rw [set_getD hjl, if_neg (Ne.symm hij)]; exact h1
  ·rw [set_getD hjl]; split
   ·rfl
   ·exact h2 k hk
 have first : ∀ (fuel : Nat) (listed : Array Bool) (a : Act) (w : World) (v : Value), (∀ w', (execOp a.eval p).run P w' = .ok (.value v) w') -> wpAny P .any ops Q fuel (listed.setIfInBounds j true) (a.put (some d) v) w ->
   Go.wpOp P ops Q j (wpAny P .any ops Q fuel (listed.setIfInBounds j true)) a w := by
  intro fuel listed a w v hex h
  simp only [Go.wpOp, hf.here]
  rw [if_pos (by simp [Region.wanted, hf.guard])]
  refine .inl ?_
  simp only [Oper.wp, hex w, Oper.upon, hf.dst]
  exact h
 induction fuel with
 | zero =>
  intro listed a w v hsz hc hj hex h
  refine ⟨fun hr => absurd hj (by rw [hr]; simp), fun i hi => ?_⟩
  by_cases hij : i = j
  ·subst hij; exact first 0 listed a w v hex h
  ·exact absurd (key hsz hi hj hij) (by rw [h.1]; simp)
 | succ fuel ih =>
  intro listed a w v hsz hc hj hex h
  refine ⟨fun hr => absurd hj (by rw [hr]; simp), fun i hi => ?_⟩
  by_cases hij : i = j
  ·subst hij; exact first (fuel + 1) listed a w v hex h
  ·obtain ⟨o, ho, h1, h2⟩ := (ready_iff hsz).1 hi
   obtain ⟨p', hp', k1, k2⟩ := (ready_iff hsz).1 hj
   rw [hf.here] at hp'; cases hp'
   have hjl : j < listed.size := by rw [hsz]; exact (Array.getElem?_eq_some_iff.1 hf.here).1
   have hil : i < listed.size := by rw [hsz]; exact (Array.getElem?_eq_some_iff.1 ho).1
   obtain ⟨s1, s2, s3, s4, s5⟩ := hf.other i o ho hij
   have hr : d ∉ slotsOf o := fun hm => by
    have := reach_listed hc ops.size i j o ho h2 (s3 hm)
    rw [k1] at this; cases this
   have hr' : ∀ s, o.dst = some s -> s ∉ slotsOf p := fun s hs hm => by
    rcases s4 s hs hm with s4 | s4
    ·have := reach_listed hc ops.size j i p hf.here k2 s4
     rw [h1] at this; cases this
    ·have := reach_listed hc ops.size i j o ho h2 s4
     rw [k1] at this; cases this
   refine wpOp_swap hQ ho s1 s2 hr s5 (fun ds x w' hk => ?_) (h.2 i (key hsz hi hj hij))
   rw [Array.setIfInBounds_comm _ _ (Ne.symm hij)] at hk
   refine ih _ _ _ v (by simpa using hsz) (hc.step hil ho h2) ((ready_iff (by simpa using hsz)).2 ⟨p, hf.here, by rw [set_getD hil, if_neg hij]; exact k1, fun k hk' => ?_⟩) (fun w' => ?_) hk
   ·rw [set_getD hil]; split
    ·rfl
    ·exact k2 k hk'
   ·rw [<- hex w']
    congr 1
    refine exec_congr hf.sel fun x hx => ?_
    cases hod : o.dst with
    | none => cases x <;> rfl
    | some e =>
     rw [eval_put (fun hxe => hr' e hod (mem_slots (by rw [<- hxe]; exact hx)))]
     cases x <;> rfl
def isSlice : AV -> Bool
 | .sl _ _ _ => true
 | .so _ _ => true
 | _ => false
def frontV (P : Program) (op : Op) (σ : St) (K : AV -> Prop) : Prop :=
 match op with
 | .move x => K (σ.ev x)
 | .indexAddr T x i => isSlice (σ.ev x) = true /\ evIndexAddr P T (σ.ev x) (σ.ev i) K
 | _ => False
def walkT (P : Program) (ops : Array Oper) (F : List Nat) : Nat -> List Oper -> St -> (St -> Prop) -> Prop
 | _, [], σ, K => K σ
 | k, o :: l, σ, K => if F.contains k = true then walkT P ops F (k + 1) l σ K else opsA P ops [o] σ fun σ' => walkT P ops F (k + 1) l σ' K
def walkX (P : Program) (ops : Array Oper) (F : List Nat) (m : Nat) : Nat -> List Oper -> St -> (St -> Prop) -> Prop
 | k, [], σ, K => walkT P ops F k [] σ K
 | k, o :: l, σ, K => if k < m then
   (if F.contains k = true then match o.dst with
    | some d => d < σ.n /\ walkX P ops F m (k + 1) l (σ.put (some d) (σ.ev (.tmp d))) K
    | none => False
   else headOp P o σ fun σ' => walkX P ops F m (k + 1) l σ' K)
  else walkT P ops F k (o :: l) σ K
def frontsA (P : Program) (ops : Array Oper) : List Nat -> St -> (St -> Prop) -> Prop
 | [], σ, K => K σ
 | j :: F, σ, K => match ops[j]? with
  | some ⟨some d, op, _, _, _, _⟩ => d < σ.n /\ frontV P op σ fun y => frontsA P ops F (σ.put (some d) y) K
  | _ => False
def noSel (o : Oper) : Bool :=
 match o.op with
 | .select _ _ => false
 | _ => true
theorem noSel_of {o : Oper} (h : noSel o = true) : ∀ cs b, o.op ≠ .select cs b := fun cs b he => by simp [noSel, he] at h
def frontOk (ops : Array Oper) (j : Nat) (p : Oper) : Bool :=
 p.guard.isNone && noSel p && match p.dst with
 | none => false
 | some d => (List.range ops.size).all fun i => i == j || match ops[i]? with
  | none => false
  | some o => noSel o && (o.dst != some d && ((!(slotsOf o).contains d || reach ops ops.size i j) && ((match o.dst with
   | none => true
   | some s => !(slotsOf p).contains s || (reach ops ops.size j i || reach ops ops.size i j)) && match o.guard with
   | none => true
   | some (g, _) => guardSlot ops g != some d)))
theorem frontOk_front {j : Nat} {p : Oper} (hj : ops[j]? = some p) (h : frontOk ops j p = true) : ∃ d, Front ops j p d := by
 simp only [frontOk, Bool.and_eq_true] at h
 obtain ⟨⟨h1, h2⟩, h3⟩ := h
 split at h3
 ·cases h3
 ·rename_i d hd
  refine ⟨d, hj, by simpa using h1, hd, noSel_of h2, fun i o ho hij => ?_⟩
  simp only [List.all_eq_true, List.mem_range] at h3
  have := h3 i (Array.getElem?_eq_some_iff.1 ho).1
  simp only [ho, Bool.or_eq_true, beq_iff_eq, hij, false_or, Bool.and_eq_true, bne_iff_ne, ne_eq, Bool.not_eq_true'] at this
  obtain ⟨g1, g2, g3, g4, g5⟩ := this
  refine ⟨noSel_of g1, g2, fun hm => ?_, fun s hs hm => ?_, fun g b hg => ?_⟩
  ·exact g3.resolve_left (by simpa using hm)
  ·rw [hs] at g4
   simp only [Bool.or_eq_true, Bool.not_eq_true'] at g4
   exact g4.resolve_left (by simpa using hm)
  ·rw [hg] at g5; simpa using g5
theorem wpAny_normal {Q : Exit -> Act -> World -> Prop} : ∀ (fuel : Nat) (listed : Array Bool) (a : Act) (w : World), wpAny P .any ops (fun e a w => e = .normal /\ Q e a w) fuel listed a w -> wpAny P .any ops Q fuel listed a w := by
 have hop : ∀ {i : Nat} {K K' : Act -> World -> Prop} {a : Act} {w : World}, (∀ a w, K a w -> K' a w) -> Go.wpOp P ops (fun e a w => e = .normal /\ Q e a w) i K a w -> Go.wpOp P ops Q i K' a w := by
  intro i K K' a w hk h
  have hout : ¬ LetsOut (fun e a w => e = .normal /\ Q e a w) := fun ⟨_, _, h, _⟩ => by cases h
  unfold Go.wpOp at h ⊢
  split
  ·rename_i ho; simp only [ho] at h; exact hk _ _ h
  ·rename_i o ho
   simp only [ho] at h
   split
   ·rename_i hw
    simp only [hw, if_true] at h
    rcases h with h | ⟨_, h⟩
    ·refine .inl ?_
     simp only [Oper.wp] at h ⊢
     generalize (execOp a.eval o).run P w = r at *
     cases r with
     | ok n w' =>
      cases n <;> simp only [Oper.upon] at h ⊢
      case value => exact hk _ _ h
      case skip => exact hk _ _ h
      case defer => exact hk _ _ h
      case enter =>
       refine Calls.mono h fun e w'' h => ?_
       rcases e with _ | _ | _
       ·exact hk _ _ h
       ·exact absurd h.1 (by simp)
       ·exact absurd h hout
      case row => exact Rows.mono h fun _ _ h => hk _ _ h
     | halt x w' =>
      cases x <;> simp only [Oper.upon] at h ⊢
      exact absurd h.1 (by simp)
    ·exact absurd h hout
   ·rename_i hw
    simp only [hw] at h
    exact hk _ _ h
 intro fuel
 induction fuel with
 | zero => exact fun listed a w h => ⟨h.1, h.2.2⟩
 | succ fuel ih => exact fun listed a w h => ⟨fun hr => (h.1 hr).2, fun i hi => hop (fun a w h => ih _ a w h) (h.2 i hi)⟩
end
section
variable {P : Program} {n : Nat} {t : List (Nat × AV)} {b : List (List AV)} {F : List Nat} {m k j : Nat} {ops : Array Oper} {l : List Oper}
variable {d : Nat} {T : TypeId} {pos : String} {af : Array Edge} {g : Option (Nat × Bool)} {K : St -> Prop}
def fAt (P : Program) (o : Option Oper) (σ : St) (K : St -> Prop) : Prop :=
 match o with
 | some ⟨some d, op, _, _, _, _⟩ => d < σ.n /\ frontV P op σ fun y => K (σ.put (some d) y)
 | _ => False
@[congr] theorem fAt_congr {o o' : Option Oper} {K : St -> Prop} {σ σ' : St} (h1 : o = o') (h : mkd σ = σ') : fAt P o σ K = fAt P o' σ' K := by subst_vars; rfl
@[congr] theorem frontsA_congr {K : St -> Prop} {σ σ' : St} (h : mkd σ = σ') : frontsA P ops F σ K = frontsA P ops F σ' K := by subst_vars; rfl
@[congr] theorem walkX_congr {K : St -> Prop} {σ σ' : St} {k' : Nat} (h1 : k = k') (h : mkd σ = σ') : walkX P ops F m k l σ K = walkX P ops F m k' l σ' K := by subst_vars; rfl
@[congr] theorem walkT_congr {K : St -> Prop} {σ σ' : St} {k' : Nat} (h1 : k = k') (h : mkd σ = σ') : walkT P ops F k l σ K = walkT P ops F k' l σ' K := by subst_vars; rfl
@[go_sem] theorem frontsA_nil : frontsA P ops [] ⟨n, t, b⟩ K = K ⟨n, t, b⟩ := rfl
@[go_sem] theorem fAt_move {x : Operand} : fAt P (some ⟨some d, .move x, T, pos, af, g⟩) ⟨n, t, b⟩ K = andK (d < n) (K (St.put ⟨n, t, b⟩ (some d) (St.ev ⟨n, t, b⟩ x))) := rfl
def selK (c : Bool) (p q : Prop) : Prop := match c with | true => p | false => q
@[congr] theorem selK_congr {c c' : Bool} {p q : Prop} (h : mkd c = c') : selK c p q = selK c' p q := by subst_vars; rfl
@[go_sem] theorem selK_true {p q : Prop} : selK true p q = p := rfl
@[go_sem] theorem selK_false {p q : Prop} : selK false p q = q := rfl
theorem selK_ite {c : Bool} {p q : Prop} : selK c p q = if c = true then p else q := by cases c <;> simp [selK]
theorem selK_dec {c : Prop} [Decidable c] {p q : Prop} : selK (decide c) p q = if c then p else q := by by_cases c <;> simp [selK, *]
@[go_sem] theorem walkT_nil : walkT P ops F k [] ⟨n, t, b⟩ K = K ⟨n, t, b⟩ := rfl
@[go_sem] theorem walkT_cons {o : Oper} : walkT P ops F k (o :: l) ⟨n, t, b⟩ K = selK (F.contains k) (walkT P ops F (k + 1) l ⟨n, t, b⟩ K) (opsA P ops [o] ⟨n, t, b⟩ fun σ' => walkT P ops F (k + 1) l σ' K) := by rw [selK_ite]; rfl
@[go_sem] theorem walkX_nil : walkX P ops F m k [] ⟨n, t, b⟩ K = K ⟨n, t, b⟩ := rfl
@[go_sem] theorem walkX_some {op : Op} : walkX P ops F m k (⟨some d, op, T, pos, af, g⟩ :: l) ⟨n, t, b⟩ K = selK (decide (k < m)) (selK (F.contains k) (andK (d < n) (walkX P ops F m (k + 1) l (St.put ⟨n, t, b⟩ (some d) (St.ev ⟨n, t, b⟩ (.tmp d))) K)) (headOp P ⟨some d, op, T, pos, af, g⟩ ⟨n, t, b⟩ fun σ' => walkX P ops F m (k + 1) l σ' K)) (walkT P ops F k (⟨some d, op, T, pos, af, g⟩ :: l) ⟨n, t, b⟩ K) := by rw [selK_dec, selK_ite]; rfl
@[go_sem] theorem walkX_none {op : Op} : walkX P ops F m k (⟨none, op, T, pos, af, g⟩ :: l) ⟨n, t, b⟩ K = selK (decide (k < m)) (selK (F.contains k) False (headOp P ⟨none, op, T, pos, af, g⟩ ⟨n, t, b⟩ fun σ' => walkX P ops F m (k + 1) l σ' K)) (walkT P ops F k (⟨none, op, T, pos, af, g⟩ :: l) ⟨n, t, b⟩ K) := by rw [selK_dec, selK_ite]; rfl
attribute [go_sem] decide_true decide_false isSlice List.getElem?_cons_succ List.getElem?_cons_zero
end
@[go_sem] theorem freeB_app {d : Nat} : ∀ (x y : List (List AV)), freeB d (x ++ y) = (freeB d x && freeB d y)
 | [], y => by simp [freeB]
 | c :: x, y => by rw [List.cons_append, freeB, freeB, freeB_app x y, Bool.and_assoc]
@[go_sem] theorem mapB_app {f : AV -> AV} : ∀ (x y : List (List AV)), mapB f (x ++ y) = mapB f x ++ mapB f y
 | [], y => rfl
 | c :: x, y => by rw [List.cons_append, mapB, mapB, mapB_app x y]; rfl
theorem leB_app : ∀ {x y x' y' : List (List AV)}, leB x x' -> leB y y' -> leB (x ++ y) (x' ++ y')
 | [], y, [], y', _, h => h
 | [], y, c :: x', y', h, _ => by simp [leB] at h
 | c :: x, y, [], y', h, _ => by simp [leB] at h
 | c :: x, y, c' :: x', y', h, h2 => by
  simp only [leB] at h
  simp only [List.cons_append, leB]
  exact ⟨h.1, leB_app h.2 h2⟩
theorem leC_self : ∀ l : List AV, leC l l
 | [] => trivial
 | x :: l => ⟨leV_refl x, leC_self l⟩
theorem leB_self : ∀ l : List (List AV), leB l l
 | [] => trivial
 | x :: l => ⟨leC_self x, leB_self l⟩
def Rk (c k : Nat) : List (List AV) := List.replicate k (List.replicate c .any)
theorem Rk_len (c k : Nat) : (Rk c k).length = k := by simp [Rk]
theorem Rk_succ (c k : Nat) : Rk c (k + 1) = Rk c k ++ [List.replicate c .any] := by unfold Rk; rw [List.replicate_succ']
theorem Rk_succ2 (c k : Nat) : Rk c (k + 1 + 1) = Rk c k ++ [List.replicate c .any, List.replicate c .any] := by rw [Rk_succ, Rk_succ, List.append_assoc]; rfl
theorem mapTops_rep {f : AV -> AV} (hf : f .any = .any) : ∀ c, mapTops f (List.replicate c .any) = List.replicate c .any
 | 0 => rfl
 | c + 1 => by rw [List.replicate_succ, mapTops, mapTops_rep hf c]; simp [AV.mapTop, hf]
theorem mapB_Rk {f : AV -> AV} (hf : f .any = .any) (c : Nat) : ∀ k, mapB f (Rk c k) = Rk c k
 | 0 => rfl
 | k + 1 => by
  have := mapB_Rk hf c k
  unfold Rk at *; rw [List.replicate_succ, mapB, this, mapTops_rep hf]
@[go_sem] theorem mapB_kill_Rk {t c k : Nat} : mapB (killLeaf t) (Rk c k) = Rk c k := mapB_Rk rfl c k
@[go_sem] theorem mapB_freeze_Rk {p : Nat -> Bool} {c k : Nat} : mapB (freezeLeaf p) (Rk c k) = Rk c k := mapB_Rk rfl c k
theorem freeA_rep {d : Nat} : ∀ c, allLeafs (freeLeaf d) (List.replicate c .any) = true
 | 0 => rfl
 | c + 1 => by rw [List.replicate_succ, allLeafs, freeA_rep c]; rfl
@[go_sem] theorem freeB_Rk {d c : Nat} : ∀ {k : Nat}, freeB d (Rk c k) = true
 | 0 => rfl
 | k + 1 => by
  have := freeB_Rk (d := d) (c := c) (k := k)
  unfold Rk at *; rw [List.replicate_succ, freeB, this, freeA_rep]; rfl
@[go_sem] theorem leB_Rk {c k : Nat} : leB (Rk c k) (Rk c k) = True := eq_true (leB_self _)
@[go_sem] theorem leB_RkS {c k : Nat} {x : List (List AV)} : leB (Rk c k ++ x) (Rk c k ++ x) = True := eq_true (leB_self _)
theorem leB_RkA {c k : Nat} {x y : List (List AV)} (h : leB x y) : leB (Rk c k ++ x) (Rk c k ++ y) := leB_app (leB_self _) h
@[go_sem] theorem leB_Rk1 {k : Nat} {x : AV} : leB (Rk 1 k ++ [[x]]) (Rk 1 k ++ [List.replicate 1 .any]) = True := eq_true (leB_RkA ⟨⟨leV_any _, trivial⟩, trivial⟩)
@[go_sem] theorem leB_Rk2 {k : Nat} {x y z u : AV} : leB (Rk 2 k ++ [[x, y], [z, u]]) (Rk 2 k ++ [List.replicate 2 .any, List.replicate 2 .any]) = True := eq_true (leB_RkA ⟨⟨leV_any _, leV_any _, trivial⟩, ⟨leV_any _, leV_any _, trivial⟩, trivial⟩)
theorem app_at {α : Type} {B L : List α} {n i : Nat} (h : B.length = n) : (B ++ L)[n + i]? = L[i]? := by
 rw [List.getElem?_append_right (by omega), h, Nat.add_sub_cancel_left]
theorem app_at0 {α : Type} {B L : List α} {n : Nat} (h : B.length = n) : (B ++ L)[n]? = L[0]? := app_at (i := 0) h
theorem app_at1 {α : Type} {B L : List α} {n : Nat} (h : B.length = n) : (B ++ L)[n + 1]? = L[1]? := app_at (i := 1) h
theorem app_set0 {α : Type} {B L : List α} {n : Nat} {z : α} (h : B.length = n) : (B ++ L).set n z = B ++ L.set 0 z := by
 rw [List.set_append_right _ _ (by omega), h, Nat.sub_self]
theorem app_set1 {α : Type} {B L : List α} {n : Nat} {z : α} (h : B.length = n) : (B ++ L).set (n + 1) z = B ++ L.set 1 z := by
 rw [List.set_append_right _ _ (by omega), h, Nat.add_sub_cancel_left]
theorem leV_tup {xs ys : List AV} (h : leC xs ys) : leV (.tup xs) (.tup ys) := leV_sem fun G w v hv => by
 obtain ⟨vs, rfl, h2⟩ := hv.tup_inv
 have := leC_pw h h2
 exact .tup _ _ this.1 this.2
theorem Con.weak {P : Program} {f : FuncId} {args : List AV} {bx : List (List AV)} {post post' : AV -> List (List AV) -> Prop} (h : Con P f args bx post) (hp : ∀ r b, post r b -> ∃ r', post' r' b /\ leV r r') : Con P f args bx post' :=
 ⟨h.1, fun G w vs h1 h2 h3 h4 h5 => (h.2 G w vs h1 h2 h3 h4 h5).mono fun _ _ ⟨v, r, bx', G', he, hq, hv, rest⟩ => by
  obtain ⟨r', hq', hle⟩ := hp _ _ hq
  exact ⟨v, r', bx', G', he, hq', hv.le hle, rest⟩⟩
inductive Tr where
 | done
 /-- an operation that only names a place: taken at once -/
 | front (j : Nat) (t : Tr)
 | one (j : Nat) (t : Tr)
 /-- an operation that only adds, taken as in a region's head -/
 | hd (j : Nat) (t : Tr)
 | alt (a b : Tr)
 /-- what bears tag a bears b from here on -/
 | retag (a b : Nat) (t : Tr)
def Tr.cover : Tr -> List Nat
 | .one j _ => [j]
 | .hd j _ => [j]
 | .alt a b => a.cover ++ b.cover
 | _ => []
def readyIn (ops : Array Oper) (L : List Nat) (i : Nat) : Bool :=
 !L.contains i && match ops[i]? with
 | none => false
 | some o => (edges o).all fun k => L.contains k
def covers (ops : Array Oper) (L : List Nat) (c : List Nat) : Bool := ((List.range ops.size).any fun i => !L.contains i) && (List.range ops.size).all fun i => !readyIn ops L i || c.contains i
def trOk (ops : Array Oper) : Bool -> List Nat -> Tr -> Bool
 | top, L, .done => top && (List.range ops.size).all fun i => L.contains i
 | top, L, .front j t => top && (readyIn ops L j && ((match ops[j]? with | some p => frontOk ops j p | none => false) && trOk ops true (j :: L) t))
 | top, L, .one j t => (!top || covers ops L [j]) && trOk ops true (j :: L) t
 | top, L, .hd j t => (!top || covers ops L [j]) && trOk ops true (j :: L) t
 | top, L, .retag _ _ t => top && trOk ops true L t
 | top, L, .alt a b => (!top || covers ops L (a.cover ++ b.cover)) && (trOk ops false L a && trOk ops false L b)
def treeOk (ops : Array Oper) (t : Tr) : Bool :=
 ((List.range ops.size).all fun i => match ops[i]? with | none => false | some o => (edges o).all fun k => decide (k < i)) && trOk ops true [] t
def evBinSc (P : Program) (op : BinOp) (T : TypeId) (x y : AV) (K : AV -> Prop) : Prop :=
 match x, y with
 | .sc u, .sc v => evBin P op T u v fun r => K (.sc r)
 | _, _ => False
@[go_sem] theorem evBinSc_sc {P : Program} {op : BinOp} {T : TypeId} {u v : Value} {K : AV -> Prop} : evBinSc P op T (.sc u) (.sc v) K = evBin P op T u v fun r => K (.sc r) := rfl
@[congr] theorem evBinSc_congr {P : Program} {op : BinOp} {T : TypeId} {x x' y y' : AV} {K : AV -> Prop} (h1 : mkd x = x') (h : y = y') : evBinSc P op T x y K = evBinSc P op T x' y' K := by subst_vars; rfl
def frontW (P : Program) (op : Op) (σ : St) (K : AV -> Prop) : Prop :=
 match op with
 | .fieldAddr T x f => evFieldAddr P T (σ.ev x) f K
 | .binOp op T x y _ => evBinSc P op T (σ.ev x) (σ.ev y) K
 | op => frontV P op σ K
theorem frontV_sound' {P : Program} {p : Oper} {σ : St} {K : AV -> Prop} (h : frontV P p.op σ K) :
  ∃ y, K y /\ ∀ (G : Nat -> Status) (a : Act) (w : World), Good G w -> (∀ x ∈ p.op.operands, VRel G w (σ.ev x) (a.eval x)) -> ∃ v, VRel G w y v /\ ∀ w', (execOp a.eval p).run P w' = .ok (.value v) w' := by
 unfold frontV at h
 split at h
 ·rename_i x ho
  exact ⟨_, h, fun G a w _ hv => ⟨_, hv x (by simp [ho, Op.operands]), fun w' => by simp [execOp, ho]⟩⟩
 ·rename_i T x i ho
  obtain ⟨hsl, h⟩ := h
  unfold evIndexAddr at h
  split at h
  ·rename_i k n hi
   split at h
   ·rename_i E t es xs hT hx
    obtain ⟨⟨⟨sz, by_, z⟩, hq, rfl⟩, h0, h1, hK⟩ := h
    refine ⟨_, hK, fun G a w hg hv => ?_⟩
    have hu := hv i (by simp [ho, Op.operands]); rw [hi] at hu
    have hu := hu.sc_inv
    have hv' := hv x (by simp [ho, Op.operands]); rw [hx] at hv'
    obtain ⟨ao, c, hvx, h2, h3, _, h4⟩ := hv'.sl_inv
    rcases h4 with rfl | ⟨b, off, vals, rfl, hs⟩
    ·simp at h1; omega
    ·refine ⟨.pointer (some ⟨b, off + n.toNat * sz + 0, none⟩), .pe _ _ _ _ _ _ _ c (by rw [hvx] at hv'; exact hv') (by omega), fun w' => ?_⟩
     simp [execOp, ho, hvx, hu, Instr.indexAt, asIntOf, run_underlying hT, h0, h1, run_sizeOf hq, Addr.add_none]
   ·rename_i E t xs hT hx
    obtain ⟨⟨⟨sz, by_, z⟩, hq, rfl⟩, h0, h1, hK⟩ := h
    refine ⟨_, hK, fun G a w hg hv => ?_⟩
    have hu := hv i (by simp [ho, Op.operands]); rw [hi] at hu
    have hu := hu.sc_inv
    have hv' := hv x (by simp [ho, Op.operands]); rw [hx] at hv'
    obtain ⟨ao, c, hvx, h3, _, h4⟩ := hv'.so_inv
    rcases h4 with rfl | ⟨b, vals, rfl, hs⟩
    ·simp at h1; omega
    ·refine ⟨.pointer (some ⟨b, 0 + n.toNat, none⟩), .po _ _ _ _ _ c (by rw [hvx] at hv'; exact hv') (by omega), fun w' => ?_⟩
     simp [execOp, ho, hvx, hu, Instr.indexAt, asIntOf, run_underlying hT, h0, h1, run_sizeOf hq, Addr.add_none]
   ·rename_i hx
    rw [hx] at hsl; simp [isSlice] at hsl
   ·rename_i len E hT
    exfalso
    obtain ⟨hp, _⟩ := h
    generalize σ.ev x = y at hsl hp
    cases y <;> simp [isSlice, isPtr] at hsl hp
   ·exact h.elim
  ·exact h.elim
 ·exact h.elim
theorem frontW_sound' {P : Program} {p : Oper} {σ : St} {K : AV -> Prop} (h : frontW P p.op σ K) :
  ∃ y, K y /\ ∀ (G : Nat -> Status) (a : Act) (w : World), Good G w -> (∀ x ∈ p.op.operands, VRel G w (σ.ev x) (a.eval x)) -> ∃ v, VRel G w y v /\ ∀ w', (execOp a.eval p).run P w' = .ok (.value v) w' := by
 unfold frontW at h
 split at h
 ·rename_i T x f ho
  obtain ⟨hp, ⟨off, ty⟩, hf, ⟨⟨sz, by_, z⟩, hq, h0⟩, hK⟩ := h
  obtain ⟨fs, fd, hT, hfd, rfl, rfl⟩ := fieldOf_some hf
  refine ⟨_, hK, fun G a w hg hv => ?_⟩
  have hvx := hv x (by simp [ho, Op.operands])
  obtain ⟨b, o, hb, ho'⟩ := hvx.ptr_inv hp
  refine ⟨.pointer (some ⟨b, o + fd.offset, none⟩), ho' _, fun w' => ?_⟩
  simp only at h0 hq
  simp [execOp, ho, hb, Instr.fieldAt, run_underlying hT, hfd, Instr.sureAddr, fieldPlace, run_sizeOf hq, h0, Addr.add_none]
 ·rename_i op T x y T' ho
  unfold evBinSc at h
  split at h
  ·rename_i u v hx hy
   obtain ⟨r, hK, hr⟩ := evBin_sound x y h
   refine ⟨_, hK, fun G a w hg hv => ⟨r, .froz (.sc _), fun w' => ?_⟩⟩
   have hu := hv x (by simp [ho, Op.operands])
   have hw := hv y (by simp [ho, Op.operands])
   rw [hx] at hu
   rw [hy] at hw
   obtain hu := hu.sc_inv
   obtain hw := hw.sc_inv
   have := hr w'
   have h2 : ((Sem.run P (eqGuard op T x y u v) w').andThen fun _ w' => Sem.run P (binOp op T u v) w') = Result.ok r w' := by simpa using this
   simp [execOp, ho, hu, hw]
   generalize Sem.run P (eqGuard op T x y u v) w' = z at h2 ⊢
   cases z <;> simp only [Result.andThen] at h2 ⊢
   all_goals first | (rw [h2]; done) | (cases h2; done) | rfl
  ·exact h.elim
 ·exact frontV_sound' h
theorem frontW_sound {P : Program} {p : Oper} {σ : St} {K : AV -> Prop} (h : frontW P p.op σ K) :
  ∃ y, K y /\ ∀ (G : Nat -> Status) (a : Act) (w : World), Good G w -> (∀ x, VRel G w (σ.ev x) (a.eval x)) -> ∃ v, VRel G w y v /\ ∀ w', (execOp a.eval p).run P w' = .ok (.value v) w' :=
 let ⟨y, h1, h2⟩ := frontW_sound' h
 ⟨y, h1, fun G a w hg hv => h2 G a w hg fun x _ => hv x⟩
def frA (P : Program) (o : Option Oper) (σ : St) (K : St -> Prop) : Prop :=
 match o with
 | some ⟨some d, op, _, _, _, _⟩ => d < σ.n /\ frontW P op σ fun y => K (σ.put (some d) y)
 | _ => False
def stepA (P : Program) (ops : Array Oper) (o : Option Oper) (σ : St) (K : St -> Prop) : Prop :=
 match o with
 | some o => opsA P ops [o] σ K
 | none => False
def stepH (P : Program) (o : Option Oper) (σ : St) (K : St -> Prop) : Prop :=
 match o with
 | some ⟨some d, op, T, pos, af, none⟩ => σ.free d = true /\ headOp P ⟨some d, op, T, pos, af, none⟩ σ K
 | _ => False
def treeA (P : Program) (ops : Array Oper) : Tr -> St -> (St -> Prop) -> Prop
 | .done, σ, K => K σ
 | .front j t, σ, K => frA P ops[j]? σ fun σ' => treeA P ops t σ' K
 | .one j t, σ, K => stepA P ops ops[j]? σ fun σ' => treeA P ops t σ' K
 | .hd j t, σ, K => stepH P ops[j]? σ fun σ' => treeA P ops t σ' K
 | .alt a b, σ, K => treeA P ops a σ K /\ treeA P ops b σ K
 | .retag a b t, σ, K => 2 <= a /\ 2 <= b /\ treeA P ops t (σ.map (retagLeaf a b)) K
section
variable {P : Program} {ops : Array Oper} {G0 : Orig} {w0 : World} {Q : Exit -> Act -> World -> Prop}
theorem one_run {i : Nat} {o : Oper} {σ : St} {K1 : St -> Prop} {KK : Act -> World -> Prop} {G : Nat -> Status} {a : Act} {w : World} (h0 : True) (ho : ops[i]? = some o) (hw : opsA P ops [o] σ K1) (h : SRel G0 w0 σ G a w)
  (hcont : ∀ {σ' G' a' w'}, K1 σ' -> SRel G0 w0 σ' G' a' w' -> KK a' w') : Go.wpOp P ops Q i KK a w := by
 simp only [opsA] at hw
 simp only [Go.wpOp, ho]
 have run : ∀ {σ}, AM.wpOp P o σ K1 -> SRel G0 w0 σ G a w -> o.wp P a w KK Q := fun hw h =>
  wpOp_sound hw h h0 _ _ fun σ' G' a' w' hk hs => hcont hk hs
 cases hg : o.guard with
 | none =>
  simp only [hg] at hw
  rw [if_pos (by simp [Region.wanted, hg])]
  exact .inl (run hw h)
 | some p =>
  obtain ⟨j, want⟩ := p
  simp only [hg] at hw
  cases hgs : guardSlot ops j with
  | none => simp [hgs] at hw
  | some g =>
   simp only [hgs] at hw
   split at hw
   ·rename_i b hb
    have hv := h.slots g
    rw [hb] at hv
    have hy := yielded_bool hgs hv.sc_inv
    by_cases hbw : b = want
    ·subst hbw
     rw [if_pos (by simp [Region.wanted, hg, hy])]
     exact .inl (run (hw.1 rfl) (h.same hb))
    ·rw [if_neg (by simp [Region.wanted, hg, hy, hbw])]
     have hbn : b = !want := by cases b <;> cases want <;> simp_all
     obtain ⟨hdst, hw⟩ := hw.2 hbn
     have hs := (h.same (g := g) (x := .sc (.bool (!want))) (by rw [hb, hbn])).add (.refl G w) h.good (fun _ _ h => h) (d := o.dst) (x := .sc undef) (v := undef) (by rw [put_n]; exact hdst) (.froz (.sc _))
     exact hcont hw hs
   ·rename_i vs hb
    have hv := h.slots g
    rw [hb] at hv
    have hy := yielded_none hgs hv.sc_inv
    rw [if_neg (by simp [Region.wanted, hg, hy])]
    obtain ⟨hdst, hw⟩ := hw
    have hs := h.add (.refl G w) h.good (fun _ _ h => h) (d := o.dst) (x := .sc undef) (v := undef) hdst (.froz (.sc _))
    exact hcont hw hs
   ·exact hw.elim
theorem hd_run {i : Nat} {o : Oper} {σ : St} {K1 : St -> Prop} {KK : Act -> World -> Prop} {G : Nat -> Status} {a : Act} {w : World} (h0 : True) (ho : ops[i]? = some o) (hw : stepH P (some o) σ K1) (h : SRel G0 w0 σ G a w)
  (hcont : ∀ {σ' G' a' w'}, K1 σ' -> SRel G0 w0 σ' G' a' w' -> KK a' w') : Go.wpOp P ops Q i KK a w := by
 unfold stepH at hw
 split at hw
 ·rename_i d op T pos af hoo
  simp only [Option.some.injEq] at hoo
  subst hoo
  obtain ⟨hf, hw⟩ := hw
  obtain ⟨d', y, hd, hdn, hK, hstep⟩ := headOp_sound hw
  obtain rfl : d = d' := by simpa using hd
  obtain ⟨hs, hfr⟩ := h.fresh hf h0
  simp only [Go.wpOp, ho]
  rw [if_pos (by simp [Region.wanted])]
  exact .inl (hstep _ _ a w hs.good hs.boxes (fun _ => hfr) (fun x _ => hs.ev x) _ _ fun v w' G' g1 g2 g3 g4 =>
   hcont hK (hs.add g2 g3 g4.boxes (d := some d) (by simp [dstOk, hdn]) g1))
 ·exact hw.elim
theorem readyIn_iff {listed : Array Bool} {U : List Nat} {L : List Nat} (hl : Left ops listed U) (hlt : ∀ i o, ops[i]? = some o -> ∀ k ∈ edges o, k < i) (hL : ∀ i, i < ops.size -> (listed.getD i false = true ↔ L.contains i = true)) {i : Nat} :
  readyIn ops L i = true ↔ i ∈ Region.ready .any ops listed := by
 rw [ready_iff hl.size]
 unfold readyIn
 cases ho : ops[i]? with
 | none => simp
 | some o =>
  have hi := (Array.getElem?_eq_some_iff.1 ho).1
  have h1 := hL i hi
  simp only [Bool.and_eq_true, Bool.not_eq_true', List.all_eq_true, Option.some.injEq, exists_eq_left']
  refine and_congr ?_ ⟨fun h k hk => ?_, fun h k hk => ?_⟩
  ·cases hb : listed.getD i false <;> cases hc : L.contains i <;> simp_all
  ·exact (hL k (by have := hlt i o ho k hk; omega)).2 (h k hk)
  ·exact (hL k (by have := hlt i o ho k hk; omega)).1 (h k hk)
theorem of_steps {listed : Array Bool} {U : List Nat} {L c : List Nat} {a : Act} {w : World} (hl : Left ops listed U) (hlt : ∀ i o, ops[i]? = some o -> ∀ k ∈ edges o, k < i) (hL : ∀ i, i < ops.size -> (listed.getD i false = true ↔ L.contains i = true))
  (hc : covers ops L c = true) (h : ∀ i ∈ c, i ∈ Region.ready .any ops listed -> Go.wpOp P ops Q i (wpAny P .any ops Q (U.length - 1) (listed.setIfInBounds i true)) a w) : wpAny P .any ops Q U.length listed a w := by
 simp only [covers, Bool.and_eq_true, List.any_eq_true, List.all_eq_true, List.mem_range, Bool.or_eq_true, Bool.not_eq_true'] at hc
 obtain ⟨⟨i, hi, hn⟩, hcov⟩ := hc
 have hUn : U ≠ [] := fun hU => by
  have : i ∈ U := (hl.mem i).2 ⟨hi, by
   cases hb : listed.getD i false
   ·rfl
   ·rw [(hL i hi).1 hb] at hn; cases hn⟩
  rw [hU] at this; simp at this
 obtain ⟨n, hn⟩ : ∃ n, U.length = n + 1 := ⟨U.length - 1, by have := List.length_pos_iff.2 hUn; omega⟩
 rw [hn] at h ⊢
 refine ⟨fun hr => absurd hr (some_ready hl hlt hUn), fun i hi => h i ?_ hi⟩
 obtain ⟨o, ho, _, _⟩ := (ready_iff hl.size).1 hi
 have := (hcov i (Array.getElem?_eq_some_iff.1 ho).1).resolve_left (by rw [(readyIn_iff hl hlt hL).2 hi]; simp)
 simpa using this
theorem tree_run {K : St -> Prop} (h0 : True) (hlt : ∀ i o, ops[i]? = some o -> ∀ k ∈ edges o, k < i) (hN : ∀ e a w, e ≠ .normal -> ¬ Q e a w) (hQ : ∀ σ' G' a' w', K σ' -> SRel G0 w0 σ' G' a' w' -> Q .normal a' w') :
  ∀ (t : Tr) (top : Bool) (L : List Nat) (listed : Array Bool) (U : List Nat) (σ : St) (G : Nat -> Status) (a : Act) (w : World), trOk ops top L t = true -> Left ops listed U -> Closed ops (fun k => listed.getD k false) -> (∀ i, i < ops.size -> (listed.getD i false = true ↔ L.contains i = true)) ->
   treeA P ops t σ K -> SRel G0 w0 σ G a w ->
   (top = true -> wpAny P .any ops Q U.length listed a w) /\ ∀ i ∈ t.cover, i ∈ Region.ready .any ops listed -> Go.wpOp P ops Q i (wpAny P .any ops Q (U.length - 1) (listed.setIfInBounds i true)) a w
 | .done, top, L, listed, U, σ, G, a, w, hok, hl, hc, hL, h, hs => by
  simp only [trOk, Bool.and_eq_true, List.all_eq_true, List.mem_range] at hok
  refine ⟨fun _ => ?_, fun i hi => by simp [Tr.cover] at hi⟩
  have hU : U = [] := by
   apply List.eq_nil_iff_forall_not_mem.2
   intro i hi
   obtain ⟨h1, h2⟩ := (hl.mem i).1 hi
   rw [(hL i h1).2 (hok.2 i h1)] at h2; cases h2
  subst hU
  refine ⟨?_, hQ σ G a w h hs⟩
  apply List.eq_nil_iff_forall_not_mem.2
  intro i hi
  obtain ⟨o, ho, h1, _⟩ := (ready_iff hl.size).1 hi
  have hlt' := (Array.getElem?_eq_some_iff.1 ho).1
  rw [(hL i hlt').2 (hok.2 i hlt')] at h1; cases h1
 | .front j t, top, L, listed, U, σ, G, a, w, hok, hl, hc, hL, h, hs => by
  simp only [trOk, Bool.and_eq_true] at hok
  obtain ⟨_, hr, hf, ht⟩ := hok
  have hready := (readyIn_iff hl hlt hL).1 hr
  refine ⟨fun _ => ?_, fun i hi => by simp [Tr.cover] at hi⟩
  obtain ⟨p, hp, k1, k2⟩ := (ready_iff hl.size).1 hready
  rw [hp] at hf
  obtain ⟨d', hfr⟩ := frontOk_front hp hf
  simp only [treeA, frA, hp] at h
  split at h
  ·rename_i d op T pos af g hj
   cases hj
   obtain ⟨hdn, h⟩ := h
   obtain rfl : d = d' := by simpa using hfr.dst
   have hjs := (Array.getElem?_eq_some_iff.1 hp).1
   have hmem : j ∈ U := (hl.mem j).2 ⟨hjs, k1⟩
   obtain ⟨l1, l2⟩ := hl.step hmem
   have hsz : j < listed.size := by rw [hl.size]; exact hjs
   obtain ⟨y, hK, hy⟩ := frontW_sound (p := ⟨some d, op, T, pos, af, g⟩) h
   obtain ⟨v, hv, hex⟩ := hy G a w hs.good (fun x => hs.ev x)
   have hrun := (tree_run h0 hlt hN hQ t true (j :: L) (listed.setIfInBounds j true) (U.erase j) (σ.put (some d) y) G (a.put (some d) v) w ht l1 (hc.step hsz hp k2) (fun i hi => by
     rw [set_getD hsz]
     by_cases hij : j = i
     ·subst hij; simp
     ·rw [if_neg hij, hL i hi]; simp [Ne.symm hij]) hK
    (hs.add (.refl G w) hs.good (fun _ _ h => h) (by simp [dstOk, hdn]) hv)).1 rfl
   rw [<- l2]
   exact front_run hN hfr _ _ _ _ v hl.size hc hready hex hrun
  ·exact h.elim
 | .one j t, top, L, listed, U, σ, G, a, w, hok, hl, hc, hL, h, hs => by
  simp only [trOk, Bool.and_eq_true, Bool.or_eq_true, Bool.not_eq_true'] at hok
  have key : j ∈ Region.ready .any ops listed -> Go.wpOp P ops Q j (wpAny P .any ops Q (U.length - 1) (listed.setIfInBounds j true)) a w := by
   intro hready
   obtain ⟨o, ho, k1, k2⟩ := (ready_iff hl.size).1 hready
   have hjs := (Array.getElem?_eq_some_iff.1 ho).1
   have hmem : j ∈ U := (hl.mem j).2 ⟨hjs, k1⟩
   obtain ⟨l1, l2⟩ := hl.step hmem
   have hsz : j < listed.size := by rw [hl.size]; exact hjs
   simp only [treeA, stepA, ho] at h
   refine one_run h0 ho h hs fun {σ' G' a' w'} hk hs' => ?_
   have := (tree_run h0 hlt hN hQ t true (j :: L) (listed.setIfInBounds j true) (U.erase j) σ' G' a' w' hok.2 l1 (hc.step hsz ho k2) (fun i hi => by
     rw [set_getD hsz]
     by_cases hij : j = i
     ·subst hij; simp
     ·rw [if_neg hij, hL i hi]; simp [Ne.symm hij]) hk hs').1 rfl
   rw [show U.length - 1 = (U.erase j).length by omega]
   exact this
  refine ⟨fun htop => ?_, fun i hi hr => ?_⟩
  ·refine of_steps hl hlt hL (hok.1.resolve_left (by simp [htop])) fun i hi hr => ?_
   have hij : i = j := by simpa using hi
   subst hij; exact key hr
  ·have hij : i = j := by simpa [Tr.cover] using hi
   subst hij; exact key hr
 | .hd j t, top, L, listed, U, σ, G, a, w, hok, hl, hc, hL, h, hs => by
  simp only [trOk, Bool.and_eq_true, Bool.or_eq_true, Bool.not_eq_true'] at hok
  have key : j ∈ Region.ready .any ops listed -> Go.wpOp P ops Q j (wpAny P .any ops Q (U.length - 1) (listed.setIfInBounds j true)) a w := by
   intro hready
   obtain ⟨o, ho, k1, k2⟩ := (ready_iff hl.size).1 hready
   have hjs := (Array.getElem?_eq_some_iff.1 ho).1
   have hmem : j ∈ U := (hl.mem j).2 ⟨hjs, k1⟩
   obtain ⟨l1, l2⟩ := hl.step hmem
   have hsz : j < listed.size := by rw [hl.size]; exact hjs
   simp only [treeA, ho] at h
   refine hd_run h0 ho h hs fun {σ' G' a' w'} hk hs' => ?_
   have := (tree_run h0 hlt hN hQ t true (j :: L) (listed.setIfInBounds j true) (U.erase j) σ' G' a' w' hok.2 l1 (hc.step hsz ho k2) (fun i hi => by
     rw [set_getD hsz]
     by_cases hij : j = i
     ·subst hij; simp
     ·rw [if_neg hij, hL i hi]; simp [Ne.symm hij]) hk hs').1 rfl
   rw [show U.length - 1 = (U.erase j).length by omega]
   exact this
  refine ⟨fun htop => ?_, fun i hi hr => ?_⟩
  ·refine of_steps hl hlt hL (hok.1.resolve_left (by simp [htop])) fun i hi hr => ?_
   have hij : i = j := by simpa using hi
   subst hij; exact key hr
  ·have hij : i = j := by simpa [Tr.cover] using hi
   subst hij; exact key hr
 | .retag x y t, top, L, listed, U, σ, G, a, w, hok, hl, hc, hL, h, hs => by
  simp only [trOk, Bool.and_eq_true] at hok
  exact ⟨fun _ => (tree_run h0 hlt hN hQ t true L listed U _ _ a w hok.2 hl hc hL h.2.2 (hs.retag h0 h.1 h.2.1)).1 rfl, fun i hi => by simp [Tr.cover] at hi⟩
 | .alt x y, top, L, listed, U, σ, G, a, w, hok, hl, hc, hL, h, hs => by
  simp only [trOk, Bool.and_eq_true, Bool.or_eq_true, Bool.not_eq_true'] at hok
  obtain ⟨hcov, hx, hy⟩ := hok
  have ix := (tree_run h0 hlt hN hQ x false L listed U σ G a w hx hl hc hL h.1 hs).2
  have iy := (tree_run h0 hlt hN hQ y false L listed U σ G a w hy hl hc hL h.2 hs).2
  have key : ∀ i ∈ (Tr.alt x y).cover, i ∈ Region.ready .any ops listed -> Go.wpOp P ops Q i (wpAny P .any ops Q (U.length - 1) (listed.setIfInBounds i true)) a w := fun i hi hr => by
   rcases List.mem_append.1 hi with hi | hi
   ·exact ix i hi hr
   ·exact iy i hi hr
  exact ⟨fun htop => of_steps hl hlt hL (hcov.resolve_left (by simp [htop])) key, key⟩
end
theorem DrawK.treeO {P : Program} {ops : Array Oper} {σ : St} {K : St -> Prop} (t : Tr) (hm : P.follows .mixedOrders = true) (hok : treeOk ops t = true) (h : treeA P ops t σ K) : DrawK P ops σ K := by
 intro G0 w0 G a w id Q h0 hs hQ
 simp only [treeOk, Bool.and_eq_true, List.all_eq_true, List.mem_range] at hok
 refine wp_region_any hm (wpAny_normal _ _ _ _ ?_)
 have hgd : ∀ i, (Array.replicate ops.size false).getD i false = false := fun i => by
  by_cases hi : i < ops.size <;> simp [hi]
 have := (tree_run (P := P) (Q := fun e a w => e = .normal /\ Q e a w) h0 (fun i o ho => by
   have := hok.1 i (Array.getElem?_eq_some_iff.1 ho).1
   rw [ho] at this
   simpa only [List.all_eq_true, decide_eq_true_eq] using this) (fun e a w hn h => hn h.1) (fun σ' G' a' w' hk hs => ⟨rfl, hQ σ' G' a' w' hk hs⟩) t true [] (Array.replicate ops.size false) (List.range ops.size) σ G a _ hok.2
   ⟨by simp, List.nodup_range, fun i => by rw [List.mem_range, hgd]; simp⟩ (fun i o _ hi => absurd (show (Array.replicate ops.size false).getD i false = true from hi) (by rw [hgd]; simp)) (fun i _ => by rw [hgd]; simp) h (hs.drawn (w.drawn + 1))).1 rfl
 simpa using this
theorem DrawK.tree {P : Program} {l : List Oper} {σ : St} {K : St -> Prop} (t : Tr) (hm : P.follows .mixedOrders = true) (hok : treeOk l.toArray t = true) (h : treeA P l.toArray t σ K) : DrawK P l.toArray σ K := DrawK.treeO t hm hok h
section
variable {P : Program} {n : Nat} {t : List (Nat × AV)} {b : List (List AV)} {ops : Array Oper} {l : List Oper} {tr tr' : Tr} {j : Nat}
variable {d : Nat} {T : TypeId} {pos : String} {af : Array Edge} {g : Option (Nat × Bool)} {K : St -> Prop}
@[congr] theorem frA_congr {o o' : Option Oper} {σ σ' : St} (h1 : o = o') (h : mkd σ = σ') : frA P o σ K = frA P o' σ' K := by subst_vars; rfl
@[congr] theorem stepA_congr {o o' : Option Oper} {σ σ' : St} (h1 : o = o') (h : mkd σ = σ') : stepA P ops o σ K = stepA P ops o' σ' K := by subst_vars; rfl
@[congr] theorem treeA_congr {σ σ' : St} (h : mkd σ = σ') : treeA P ops tr σ K = treeA P ops tr σ' K := by subst_vars; rfl
@[go_sem] theorem treeA_done : treeA P ops .done ⟨n, t, b⟩ K = K ⟨n, t, b⟩ := rfl
@[go_sem] theorem treeA_front : treeA P l.toArray (.front j tr) ⟨n, t, b⟩ K = frA P l[j]? ⟨n, t, b⟩ fun σ' => treeA P l.toArray tr σ' K := by rw [<- List.getElem?_toArray]; rfl
@[go_sem] theorem treeA_one : treeA P l.toArray (.one j tr) ⟨n, t, b⟩ K = stepA P l.toArray l[j]? ⟨n, t, b⟩ fun σ' => treeA P l.toArray tr σ' K := by rw [<- List.getElem?_toArray]; rfl
@[go_sem] theorem treeA_alt : treeA P ops (.alt tr tr') ⟨n, t, b⟩ K = andK (treeA P ops tr ⟨n, t, b⟩ K) (treeA P ops tr' ⟨n, t, b⟩ K) := rfl
@[go_sem] theorem treeA_retag {x y : Nat} : treeA P ops (.retag x y tr) ⟨n, t, b⟩ K = andK (2 <= x) (andK (2 <= y) (treeA P ops tr (St.map ⟨n, t, b⟩ (retagLeaf x y)) K)) := rfl
@[go_sem] theorem stepA_some {o : Oper} : stepA P ops (some o) ⟨n, t, b⟩ K = opsA P ops [o] ⟨n, t, b⟩ K := rfl
@[congr] theorem stepH_congr {o o' : Option Oper} {σ σ' : St} (h1 : o = o') (h : mkd σ = σ') : stepH P o σ K = stepH P o' σ' K := by subst_vars; rfl
@[go_sem] theorem treeA_hd : treeA P l.toArray (.hd j tr) ⟨n, t, b⟩ K = stepH P l[j]? ⟨n, t, b⟩ fun σ' => treeA P l.toArray tr σ' K := by rw [<- List.getElem?_toArray]; rfl
@[go_sem] theorem stepH_some {op : Op} : stepH P (some ⟨some d, op, T, pos, af, none⟩) ⟨n, t, b⟩ K = andK (St.free ⟨n, t, b⟩ d = true) (headOp P ⟨some d, op, T, pos, af, none⟩ ⟨n, t, b⟩ K) := rfl
@[go_sem] theorem frA_move {x : Operand} : frA P (some ⟨some d, .move x, T, pos, af, g⟩) ⟨n, t, b⟩ K = andK (d < n) (K (St.put ⟨n, t, b⟩ (some d) (St.ev ⟨n, t, b⟩ x))) := rfl
@[go_sem] theorem frA_binOp {op : BinOp} {T' T'' : TypeId} {x y : Operand} : frA P (some ⟨some d, .binOp op T' x y T'', T, pos, af, g⟩) ⟨n, t, b⟩ K = andK (d < n) (evBinSc P op T' (St.ev ⟨n, t, b⟩ x) (St.ev ⟨n, t, b⟩ y) fun r => K (St.put ⟨n, t, b⟩ (some d) r)) := rfl
@[go_sem] theorem frA_fieldAddr {T' : TypeId} {x : Operand} {f : Nat} : frA P (some ⟨some d, .fieldAddr T' x f, T, pos, af, g⟩) ⟨n, t, b⟩ K = andK (d < n) (evFieldAddr P T' (St.ev ⟨n, t, b⟩ x) f fun r => K (St.put ⟨n, t, b⟩ (some d) r)) := rfl
@[go_sem] theorem frA_indexAddr {T' : TypeId} {x i : Operand} : frA P (some ⟨some d, .indexAddr T' x i, T, pos, af, g⟩) ⟨n, t, b⟩ K = andK (d < n) (andK (isSlice (St.ev ⟨n, t, b⟩ x) = true) (evIndexAddr P T' (St.ev ⟨n, t, b⟩ x) (St.ev ⟨n, t, b⟩ i) fun r => K (St.put ⟨n, t, b⟩ (some d) r))) := by simp [frA, frontW, frontV, andK]
end
end Go.AM
