/-
  The abstract machine: a region that draws its order.
  The abstract machine: a drawn region's head, and calls, as rules.
-/
import Derived.Test.YtpmodjodfimejaaGreatg11
import Derived.Orders
/-! ## AmQ -/
namespace Go.AM
open Go.RowKit
section
variable {P : Program}
def edges (o : Oper) : List Nat := (o.after.toList.filter (Region.binds .any)).map (·.on)
def reach (ops : Array Oper) : Nat → Nat → Nat → Bool
 | 0, _, _ => false
 | f + 1, i, j => match ops[i]? with
  | none => false
  | some o => (edges o).any (fun k => k == j) || (edges o).any (fun k => reach ops f k j)
def slotsOf (o : Oper) : List Nat := o.op.operands.toList.filterMap fun | .tmp t => some t | _ => none
def headOk (ops : Array Oper) (m i : Nat) (o : Oper) : Bool :=
 o.guard.isNone && (edges o).all (fun k => decide (k < i)) &&
 match o.dst with
 | none => false
 | some d => !(slotsOf o).contains d && (List.range m).all fun j => j == i || match ops[j]? with
   | none => false
   | some p => match p.dst with
    | none => false
    | some s => s != d && (!(slotsOf o).contains s || (if j < i then reach ops ops.size i j else reach ops ops.size j i))
def guardS (ops : Array Oper) (o : Oper) : List Nat := match o.guard with
 | none => []
 | some (j, _) => match guardSlot ops j with
  | none => []
  | some g => [g]
def slotsG (ops : Array Oper) (o : Oper) : List Nat := guardS ops o ++ slotsOf o
def headOkG (ops : Array Oper) (m i : Nat) (o : Oper) : Bool :=
 (edges o).all (fun k => decide (k < i)) &&
 match o.dst with
 | none => false
 | some d => !(slotsG ops o).contains d && (List.range m).all fun j => j == i || match ops[j]? with
   | none => false
   | some p => match p.dst with
    | none => false
    | some s => s != d && (!(slotsG ops o).contains s || (if j < i then reach ops ops.size i j else reach ops ops.size j i))
def tailOk (ops : Array Oper) (i : Nat) (o : Oper) : Bool :=
 (edges o).all (fun k => decide (k < i)) && (List.range i).all fun j => reach ops ops.size i j
def drawOk (ops : Array Oper) (m : Nat) : Bool :=
 decide (m ≤ ops.size) && (List.range ops.size).all fun i => match ops[i]? with
  | none => false
  | some o => if i < m then headOkG ops m i o else tailOk ops i o
def Closed (ops : Array Oper) (L : Nat → Bool) : Prop := ∀ i o, ops[i]? = some o → L i = true → ∀ k ∈ edges o, L k = true
theorem reach_listed {ops : Array Oper} {L : Nat → Bool} (hc : Closed ops L) : ∀ (f i j : Nat) o, ops[i]? = some o → (∀ k ∈ edges o, L k = true) → reach ops f i j = true → L j = true
 | 0, _, _, _, _, _, h => by simp [reach] at h
 | f + 1, i, j, o, ho, hl, h => by
  simp only [reach, ho, Bool.or_eq_true, List.any_eq_true, beq_iff_eq] at h
  rcases h with ⟨k, hk, rfl⟩ | ⟨k, hk, hr⟩
  ·exact hl k hk
  ·cases hok : ops[k]? with
   | none => cases f <;> simp [reach, hok] at hr
   | some ok => exact reach_listed hc f k j ok hok (fun k' hk' => hc k ok hok (hl k hk) k' hk') hr
def creates (op : Op) : Bool :=
 match op with
 | .call { callee := .value _, .. } => true
 | op => needsFresh op
def StepOk (P : Program) (o : Oper) (d : Nat) (ρ : Operand → AV) (bx : List (List AV)) (y : AV) : Prop :=
 ∀ (gh : Gh) (G : Nat → Status) (a : Act) (w : World), Good G w → BRel gh G w bx → (creates o.op = true → Fresh d G) → (∀ x ∈ o.op.operands, VRel G w (ρ x) (a.eval x)) →
  ∀ (K' : Act → World → Prop) (Q : Exit → Act → World → Prop), (∀ v w' G', VRel G' w' y v → Ext G w G' w' → Good G' w' → NewTags d G G' → K' (a.put o.dst v) w') → o.wp P a w K' Q
def CallY (P : Program) (f : FuncId) (args : List AV) (d : Nat) (σ : St) (K : St → Prop) : Prop :=
 ∃ r, Con P f (args.map AV.view) [] (fun r' _ => r' = r) ∧ r.allLeaf lt64 = true ∧ (tagss args = [] ∨ r.allLeaf flatLeaf = true) ∧ K (σ.put (some d) (r.shift (64 * (d + 1))))
def headOp (P : Program) (o : Oper) (σ : St) (K : St → Prop) : Prop :=
 match o.dst with
 | none => False
 | some d => d < σ.n ∧ match o.op with
  | .call { callee := .value f, args, argTypes := _ } => match σ.ev f with
   | .fn fid caps => CallY P fid (args.toList.map σ.ev ++ caps) d σ K
   | _ => False
  | op => evOp P d σ.ev σ.boxes o.type op fun r => K (σ.put (some d) r)
def knownB (want : Bool) : AV → Option Bool
 | .sc (.bool c) => some c
 | .sc (.tuple _) => some (!want)
 | _ => none
def headG (P : Program) (ops : Array Oper) (o : Oper) (σ : St) (K : St → Prop) : Prop :=
 match o.guard with
 | none => headOp P o σ K
 | some (j, want) => ∃ g c, guardSlot ops j = some g ∧ knownB want (σ.get g) = some c ∧ ((c == want) = true → headOp P o σ K) ∧ ((c == want) = false → ∃ d, o.dst = some d ∧ d < σ.n ∧ K (σ.put (some d) (.sc undef)))
def headA (P : Program) (ops : Array Oper) : List Oper → St → (St → Prop) → Prop
 | [], σ, K => K σ
 | o :: r, σ, K => headG P ops o σ fun σ' => headA P ops r σ' K
theorem back_ext {d : Nat} {G G' : Nat → Status} {w w' : World} (h : Good G w) (hf : Fresh d G) (hG : Good G' w') (e1 : w'.os = w.os) (e2 : w'.tape = w.tape) (e3 : w'.output = w.output) (e4 : w.heap.size ≤ w'.heap.size) (e6 : ∀ b, b < w.heap.size → w'.heap[b]? = w.heap[b]?) :
  Ext G w (backG d w.heap.size G G') w' ∧ Good (backG d w.heap.size G G') w' ∧ NewTags d G (backG d w.heap.size G G') := by
 have htag : ∀ b t, backG d w.heap.size G G' b = .tag t → (b < w.heap.size ∧ G b = .tag t) ∨ (¬ b < w.heap.size ∧ root t / 64 = d + 1 ∧ G' b = .tag (t - 64 * (d + 1))) := by
  intro b t hb
  unfold backG at hb
  split at hb
  ·exact .inl ⟨by assumption, hb⟩
  ·rename_i hn
   split at hb <;> try (cases hb; done)
   rename_i t' ht'
   split at hb
   ·cases hb; exact .inr ⟨hn, by have := hf.1; unfold root at *; omega, by rw [ht']; congr 1; omega⟩
   ·cases hb
 have hbox : ∀ b i, backG d w.heap.size G G' b = .box i → G b = .box i := by
  intro b i hb
  unfold backG at hb
  split at hb
  ·exact hb
  ·split at hb <;> first | (cases hb; done) | (split at hb <;> cases hb)
 refine ⟨⟨e1, e2, e3, e4, fun b hb => by simp [backG, hb], e6⟩, ⟨fun b hb => ?_, fun b b' t h1 h2 => ?_, fun b b' i h1 h2 => h.boxes b b' i (hbox b i h1) (hbox b' i h2)⟩, ⟨fun b t hb => ?_, hbox⟩⟩
 ·unfold backG at hb
  split at hb
  ·omega
  ·exact hG.lt b fun h' => hb (by simp [h'])
 ·rcases htag b t h1 with ⟨_, h1⟩ | ⟨_, h1, g1⟩ <;> rcases htag b' t h2 with ⟨_, h2⟩ | ⟨_, h2, g2⟩
  ·exact h.tags b b' t h1 h2
  ·exact absurd h2 (hf.2 b t h1)
  ·exact absurd h1 (hf.2 b' t h2)
  ·exact hG.tags b b' _ g1 g2
 ·rcases htag b t hb with ⟨_, h⟩ | ⟨_, h, _⟩
  ·exact .inl h
  ·exact .inr h
theorem headOp_sound {o : Oper} {σ : St} {K : St → Prop} (h : headOp P o σ K) : ∃ d y, o.dst = some d ∧ d < σ.n ∧ K (σ.put (some d) y) ∧ StepOk P o d σ.ev σ.boxes y := by
 unfold headOp at h
 split at h
 ·exact h.elim
 ·rename_i d hd
  obtain ⟨hdn, h⟩ := h
  split at h
  ·rename_i f args As ho
   split at h
   ·rename_i fid caps hf
    obtain ⟨r, ⟨⟨fn, hfn, hname, hbody⟩, hcon⟩, hlt, hts, hk⟩ := h
    refine ⟨d, _, hd, hdn, hk, fun gh G a w hg hb hfr hv K' Q hK => ?_⟩
    have hfr := hfr (by simp [creates, ho])
    have hff := hv f (by simp [ho, Op.operands, Call.operands])
    rw [hf] at hff
    obtain ⟨vs, hfe, hcaps⟩ := hff.fn_inv
    have hgv := hg.view (ts := tagss (args.toList.map σ.ev ++ caps))
    have hva0 : PW (VRel G w) (args.toList.map σ.ev ++ caps) (args.map a.eval ++ vs).toList := by
     rw [Array.toList_append, Array.toList_map]
     refine PW.append ⟨by simp, fun j x u hx hu => ?_⟩ (hcaps.mono fun x y _ hr => .froz hr)
     simp only [List.getElem?_map] at hx hu
     cases hj : args.toList[j]? with
     | none => simp [hj] at hx
     | some c =>
      simp [hj] at hx hu; subst hx; subst hu
      have hc : c ∈ args.toList := List.mem_of_getElem? hj
      exact hv c (by simp [ho, Op.operands, Call.operands]; exact .inr (by simpa using hc))
    have hva : PW (VRel (viewG (tagss (args.toList.map σ.ev ++ caps)) G) w) ((args.toList.map σ.ev ++ caps).map AV.view) (args.map a.eval ++ vs).toList := by
     refine ⟨by simpa using hva0.1, fun j x u hx hu => ?_⟩
     rw [List.getElem?_map] at hx
     cases hj : (args.toList.map σ.ev ++ caps)[j]? with
     | none => simp [hj] at hx
     | some y =>
      simp [hj] at hx; subst hx
      exact (hva0.2 j y u hj hu).view (tags_in _ y (tagss_mem (List.mem_of_getElem? hj)))
    have hrun : (execOp a.eval o).run P w = .ok (.enter fid (args.map a.eval ++ vs)) w := by
     have hname' : ¬ fn.name = "runtime.NumGoroutine" := by simpa using hname
     have hbody' : ¬ fn.body = none := by intro h; rw [h] at hbody; simp at hbody
     simp [execOp, ho, resolve, hfe, Deferred.ofValue, invoke, callFunc, hfn, hname', hbody']
    unfold Oper.wp
    rw [hrun, Oper.upon_enter]
    refine (hcon _ w _ hgv.1 hgv.2.1 (fun b i hb => absurd hb (hgv.2.2 b i)) ⟨fun i vs hv => by simp [noGh] at hv, fun i cs hi => by simp at hi⟩ hva).mono ?_
    rintro e w' ⟨v, r', bx', G', rfl, rfl, hr, hG', _, _, e1, e2, e3, e4, e5, e6⟩
    have e6' : ∀ b, b < w.heap.size → w'.heap[b]? = w.heap[b]? := fun b hb => e6 b hb (fun i => hgv.2.2 b i)
    obtain ⟨k1, k2, k3⟩ := back_ext (d := d) hg hfr hG' e1 e2 e3 e4 e6'
    have hback := hr.back (d := d) (G := G) (Gc := viewG (tagss (args.toList.map σ.ev ++ caps)) G) (w := w) hlt hfr.1 e5 hgv.2.1 (by
     rcases hts with hts | hts
     ·refine .inl fun b _ hb => ?_
      unfold Stable viewG at *
      split at hb
      ·assumption
      ·rw [hts] at hb; simp at hb
      ·cases hb
     ·exact .inr hts)
    exact hK v w' _ hback k1 k2 k3
   ·exact h.elim
  ·rename_i hnc
   obtain ⟨r, hk, hr⟩ := evOp_sound h
   refine ⟨d, r, hd, hdn, hk, fun gh G a w hg hb hfr hv K' Q hK => ?_⟩
   obtain ⟨v, w', G', g1, g2, g3, g4, g5⟩ := hr o gh G w a.eval rfl hg (fun h => hfr (by unfold creates; split; rfl; exact h)) hb hv
   unfold Oper.wp
   rw [g1, Oper.upon_value]
   exact hK v w' G' g2 g3 g4 g5
def StepG (P : Program) (ops : Array Oper) (o : Oper) (d : Nat) (σ : St) (bx : List (List AV)) (y : AV) : Prop :=
 (o.guard = none ∧ StepOk P o d σ.ev bx y) ∨ (∃ j want g c, o.guard = some (j, want) ∧ guardSlot ops j = some g ∧ σ.get g = .sc (.bool c) ∧ ((c = want ∧ StepOk P o d σ.ev bx y) ∨ (c ≠ want ∧ y = .sc undef))) ∨ ∃ j want g vs, o.guard = some (j, want) ∧ guardSlot ops j = some g ∧ σ.get g = .sc (.tuple vs) ∧ y = .sc undef
theorem headG_sound {ops : Array Oper} {o : Oper} {σ : St} {K : St → Prop} (h : headG P ops o σ K) : ∃ d y, o.dst = some d ∧ d < σ.n ∧ K (σ.put (some d) y) ∧ StepG P ops o d σ σ.boxes y := by
 unfold headG at h
 split at h
 ·rename_i hg
  obtain ⟨d, y, h1, h2, h3, h4⟩ := headOp_sound h
  exact ⟨d, y, h1, h2, h3, .inl ⟨hg, h4⟩⟩
 ·rename_i j want hg
  obtain ⟨g, c, e1, e2, e3, e4⟩ := h
  have e2' : σ.get g = .sc (.bool c) ∨ ((∃ vs, σ.get g = .sc (.tuple vs)) ∧ c = !want) := by
   revert e2; unfold knownB; split
   ·rename_i h; intro e; cases e; exact .inl h
   ·rename_i h; intro e; cases e; exact .inr ⟨⟨_, h⟩, rfl⟩
   ·intro e; cases e
  rcases e2' with e2' | ⟨⟨vs, e2'⟩, rfl⟩
  ·by_cases hc : c = want
   ·obtain ⟨d, y, h1, h2, h3, h4⟩ := headOp_sound (e3 (by simpa using hc))
    exact ⟨d, y, h1, h2, h3, .inr (.inl ⟨j, want, g, c, hg, e1, e2', .inl ⟨hc, h4⟩⟩)⟩
   ·obtain ⟨d, h1, h2, h3⟩ := e4 (by simpa using hc)
    exact ⟨d, _, h1, h2, h3, .inr (.inl ⟨j, want, g, c, hg, e1, e2', .inr ⟨hc, rfl⟩⟩)⟩
  ·obtain ⟨d, h1, h2, h3⟩ := e4 (by cases want <;> rfl)
   exact ⟨d, _, h1, h2, h3, .inr (.inr ⟨j, want, g, vs, hg, e1, e2', rfl⟩)⟩
def puts (σ : St) : List (Nat × AV) → St
 | [] => σ
 | p :: r => puts (σ.put (some p.1) p.2) r
theorem headA_vals {ops : Array Oper} : ∀ (l : List Oper) (σ : St) (K : St → Prop), headA P ops l σ K → ∃ vs : List (Nat × AV), vs.length = l.length ∧ K (puts σ vs) ∧
  ∀ i o, l[i]? = some o → ∃ d y, vs[i]? = some (d, y) ∧ o.dst = some d ∧ d < σ.n ∧ StepG P ops o d (puts σ (vs.take i)) σ.boxes y
 | [], σ, K, h => ⟨[], rfl, h, fun i o hi => by simp at hi⟩
 | o :: l, σ, K, h => by
  obtain ⟨d, y, h1, h2, h3, h4⟩ := headG_sound h
  obtain ⟨vs, g1, g2, g3⟩ := headA_vals l _ K h3
  refine ⟨(d, y) :: vs, by simp [g1], g2, fun i o' hi => ?_⟩
  cases i with
  | zero => simp at hi; subst hi; exact ⟨d, y, rfl, h1, h2, h4⟩
  | succ i =>
   obtain ⟨d', y', k1, k2, k3, k4⟩ := g3 i o' (by simpa using hi)
   rw [put_n] at k3; rw [put_boxes] at k4
   exact ⟨d', y', by simpa using k1, k2, k3, k4⟩
structure At (vs : List (Nat × AV)) (L : Nat → Bool) (σ τ : St) : Prop where
 n : τ.n = σ.n
 boxes : τ.boxes = σ.boxes
 dst : ∀ (i d : Nat) (y : AV), vs[i]? = some (d, y) → τ.get d = if L i = true then y else σ.get d
 rest : ∀ s : Nat, (∀ (i d : Nat) (y : AV), vs[i]? = some (d, y) → d ≠ s) → τ.get s = σ.get s
def Apart (vs : List (Nat × AV)) : Prop := ∀ (i j d : Nat) (y : AV) (d' : Nat) (y' : AV), vs[i]? = some (d, y) → vs[j]? = some (d', y') → i ≠ j → d ≠ d'
theorem get_put {σ : St} {d s : Nat} {x : AV} : (σ.put (some d) x).get s = if d = s then x else σ.get s := by simp only [St.put, St.get, lookT_put]
theorem puts_at : ∀ (k : Nat) (vs : List (Nat × AV)) (σ : St), Apart vs → At vs (fun i => decide (i < k)) σ (puts σ (vs.take k))
 | 0, vs, σ, _ => ⟨rfl, rfl, fun i d y _ => by simp [puts], fun s _ => by simp [puts]⟩
 | k + 1, [], σ, _ => ⟨rfl, rfl, fun i d y h => by simp at h, fun s _ => by simp [puts]⟩
 | k + 1, p :: vs, σ, ha => by
  have ha' : Apart vs := fun i j d y d' y' h1 h2 hij => ha (i + 1) (j + 1) d y d' y' (by simpa using h1) (by simpa using h2) (by omega)
  have ih := puts_at k vs (σ.put (some p.1) p.2) ha'
  simp only [List.take_succ_cons, puts]
  refine ⟨by rw [ih.n, put_n], by rw [ih.boxes, put_boxes], fun i d y h => ?_, fun s h => ?_⟩
  ·cases i with
   | zero =>
    simp at h; subst h
    rw [ih.rest d (fun i d' y' hi => (ha 0 (i + 1) d y d' y' rfl (by simpa using hi) (by omega)).symm), get_put]
    simp
   | succ i =>
    have h' : vs[i]? = some (d, y) := by simpa using h
    rw [ih.dst i d y h', get_put]
    have hne : p.1 ≠ d := ha 0 (i + 1) p.1 p.2 d y rfl h (by omega)
    simp [hne]
  ·rw [ih.rest s (fun i d y hi => h (i + 1) d y (by simpa using hi)), get_put]
   rw [if_neg (h 0 p.1 p.2 rfl)]
theorem At.step {vs : List (Nat × AV)} {L L' : Nat → Bool} {σ τ : St} {i d : Nat} {y : AV} (h : At vs L σ τ) (ha : Apart vs) (hi : vs[i]? = some (d, y)) (hL : ∀ j, j ≠ i → L' j = L j) (hLi : L' i = true) : At vs L' σ (τ.put (some d) y) := by
 refine ⟨by rw [put_n, h.n], by rw [put_boxes, h.boxes], fun j d' y' hj => ?_, fun s hs => ?_⟩
 ·rw [get_put]
  by_cases hij : j = i
  ·subst hij; rw [hi] at hj; cases hj; simp [hLi]
  ·rw [if_neg (ha i j d y d' y' hi hj (Ne.symm hij)), h.dst j d' y' hj, hL j hij]
 ·rw [get_put, if_neg (hs i d y hi), h.rest s hs]
theorem SRel.slotsEq {G0 w0 σ τ G a w} (h : SRel G0 w0 σ G a w) (hn : τ.n = σ.n) (hb : τ.boxes = σ.boxes) (hs : ∀ s, τ.get s = σ.get s) : SRel G0 w0 τ G a w :=
 { h with
  slots := fun s => by rw [hs s]; exact h.slots s
  boxes := by rw [hb]; exact h.boxes
  blt := by rw [hb]; exact h.blt
  size := by rw [hn]; exact h.size }
theorem SRel.drawn {G0 w0 σ G a w} (h : SRel G0 w0 σ G a w) (n : Nat) : SRel G0 w0 σ G a { w with drawn := n } := by
 have hm : ∀ {x v}, VRel G w x v → VRel G { w with drawn := n } x v := fun hr => hr.mono (fun _ _ => rfl) (fun _ _ _ => rfl)
 exact { h with
  good := ⟨h.good.lt, h.good.tags, h.good.boxes⟩
  slots := fun s => hm (h.slots s)
  boxes := ⟨h.boxes.low, fun i cs hi => (h.boxes.cell i cs hi).same (fun x v hr => hm hr) (fun b h1 => ⟨h1, rfl⟩) fun h0 => h0⟩
  hsize := h.hsize
  keep := h.keep }
def creators (ops : Array Oper) (m : Nat) : List Nat := (ops.toList.take m).filterMap fun o => if creates o.op = true then o.dst else none
def freeAll (σ : St) : List Nat → Bool
 | [] => true
 | d :: r => σ.free d && freeAll σ r
theorem freeAll_mem {σ : St} : ∀ {l : List Nat}, freeAll σ l = true → ∀ d ∈ l, σ.free d = true
 | x :: r, h, d, hd => by
  simp only [freeAll, Bool.and_eq_true] at h
  rcases List.mem_cons.1 hd with rfl | hd
  ·exact h.1
  ·exact freeAll_mem h.2 d hd
theorem killR_fresh {d d' : Nat} {G : Nat → Status} (h : Fresh d' G) : Fresh d' (killR d G) := ⟨h.1, fun b t hb => h.2 b t (killR_tag hb).1⟩
theorem SRel.freshAll {G0 w0 σ a w} (h0 : True) : ∀ (l : List Nat) (G : Nat → Status), SRel G0 w0 σ G a w → freeAll σ l = true → ∃ G', SRel G0 w0 σ G' a w ∧ (∀ d ∈ l, Fresh d G') ∧ ∀ d, Fresh d G → Fresh d G'
 | [], G, h, _ => ⟨G, h, fun d hd => by simp at hd, fun _ h => h⟩
 | d :: r, G, h, hf => by
  simp only [freeAll, Bool.and_eq_true] at hf
  obtain ⟨k1, k2⟩ := h.fresh hf.1 h0
  obtain ⟨G', g1, g2, g3⟩ := SRel.freshAll h0 r _ k1 hf.2
  refine ⟨G', g1, fun d' hd' => ?_, fun d' hd' => g3 d' (killR_fresh hd')⟩
  rcases List.mem_cons.1 hd' with rfl | hd'
  ·exact g3 _ k2
  ·exact g2 d' hd'
theorem NewTags.fresh {d d' : Nat} {G G' : Nat → Status} (h : NewTags d G G') (hne : d ≠ d') (hf : Fresh d' G) : Fresh d' G' := by
 refine ⟨hf.1, fun b t hb => ?_⟩
 rcases h.tags b t hb with h | h
 ·exact hf.2 b t h
 ·omega
section
variable {ops : Array Oper} {m : Nat} {vs : List (Nat × AV)} {σ : St} {K : St → Prop} {G0 : Orig} {w0 : World} {Q : Exit → Act → World → Prop}
theorem binds_edges {o : Oper} {L : Nat → Bool} : (∀ e ∈ o.after, Region.binds .any e = true → L e.on = true) ↔ ∀ k ∈ edges o, L k = true := by
 unfold edges
 constructor
 ·intro h k hk
  obtain ⟨e, he, rfl⟩ := List.mem_map.1 hk
  have := List.mem_filter.1 he
  exact h e (by simpa using this.1) this.2
 ·intro h e he hb
  exact h e.on (List.mem_map.2 ⟨e, List.mem_filter.2 ⟨by simpa using he, hb⟩, rfl⟩)
theorem ready_iff {i : Nat} {listed : Array Bool} (hs : listed.size = ops.size) : i ∈ Region.ready .any ops listed ↔
  ∃ o, ops[i]? = some o ∧ listed.getD i false = false ∧ ∀ k ∈ edges o, listed.getD k false = true := by
 rw [mem_ready]
 constructor
 ·rintro ⟨h1, o, ho, h2⟩
  refine ⟨o, ho, ?_, binds_edges.1 h2⟩
  have hlt : i < listed.size := by rw [hs]; exact (Array.getElem?_eq_some_iff.1 ho).1
  simpa [hlt] using h1
 ·rintro ⟨o, ho, h1, h2⟩
  refine ⟨?_, o, ho, binds_edges.2 h2⟩
  have hlt : i < listed.size := by rw [hs]; exact (Array.getElem?_eq_some_iff.1 ho).1
  simpa [hlt] using h1
theorem set_getD {i j : Nat} {listed : Array Bool} (hi : i < listed.size) : (listed.setIfInBounds i true).getD j false = if i = j then true else listed.getD j false := by
 by_cases h : i = j
 ·subst h; simp [hi]
 ·simp [h, Array.getElem?_setIfInBounds_ne h]
structure Left (ops : Array Oper) (listed : Array Bool) (U : List Nat) : Prop where
 size : listed.size = ops.size
 nodup : U.Nodup
 mem : ∀ i, i ∈ U ↔ i < ops.size ∧ listed.getD i false = false
theorem Left.step {listed : Array Bool} {U : List Nat} {i : Nat} (h : Left ops listed U) (hi : i ∈ U) : Left ops (listed.setIfInBounds i true) (U.erase i) ∧ (U.erase i).length + 1 = U.length := by
 have hlt := ((h.mem i).1 hi).1
 refine ⟨⟨by simpa using h.size, h.nodup.erase i, fun j => ?_⟩, ?_⟩
 ·rw [h.nodup.mem_erase_iff, h.mem j, set_getD (by rw [h.size]; exact hlt)]
  constructor
  ·rintro ⟨h1, h2, h3⟩; exact ⟨h2, by rw [if_neg (Ne.symm h1)]; exact h3⟩
  ·rintro ⟨h1, h2⟩
   by_cases hij : i = j
   ·rw [if_pos hij] at h2; cases h2
   ·rw [if_neg hij] at h2; exact ⟨Ne.symm hij, h1, h2⟩
 ·rw [List.length_erase_of_mem hi]
  have : 0 < U.length := List.length_pos_of_mem hi
  omega
theorem Closed.step {listed : Array Bool} {i : Nat} {o : Oper} (hc : Closed ops (fun k => listed.getD k false)) (hlt : i < listed.size) (ho : ops[i]? = some o) (hl : ∀ k ∈ edges o, listed.getD k false = true) :
  Closed ops (fun k => (listed.setIfInBounds i true).getD k false) := by
 intro j oj hoj hj k hk
 simp only [set_getD hlt] at hj ⊢
 by_cases hik : i = k
 ·rw [if_pos hik]
 ·rw [if_neg hik]
  by_cases hij : i = j
  ·subst hij; rw [ho] at hoj; cases hoj; exact hl k hk
  ·rw [if_neg hij] at hj; exact hc j oj hoj hj k hk
theorem some_ready {listed : Array Bool} {U : List Nat} (h : Left ops listed U) (hlt : ∀ i o, ops[i]? = some o → ∀ k ∈ edges o, k < i) (hne : U ≠ []) : Region.ready .any ops listed ≠ [] := by
 obtain ⟨u, hu⟩ := List.exists_mem_of_ne_nil U hne
 have key : ∀ n, ∀ u ∈ U, u ≤ n → ∃ i, i ∈ Region.ready .any ops listed := by
  intro n
  induction n with
  | zero =>
   intro u hu hn
   have := (h.mem u).1 hu
   obtain ⟨o, ho⟩ : ∃ o, ops[u]? = some o := ⟨ops[u], by simp [this.1]⟩
   exact ⟨u, (ready_iff h.size).2 ⟨o, ho, this.2, fun k hk => by have := hlt u o ho k hk; omega⟩⟩
  | succ n ih =>
   intro u hu hn
   have hm := (h.mem u).1 hu
   obtain ⟨o, ho⟩ : ∃ o, ops[u]? = some o := ⟨ops[u], by simp [hm.1]⟩
   by_cases hall : ∀ k ∈ edges o, listed.getD k false = true
   ·exact ⟨u, (ready_iff h.size).2 ⟨o, ho, hm.2, hall⟩⟩
   ·have : ∃ k, k ∈ edges o ∧ listed.getD k false = false := by
     apply Classical.byContradiction
     intro hcon
     exact hall fun k hk => by
      cases hb : listed.getD k false
      ·exact absurd ⟨k, hk, hb⟩ hcon
      ·rfl
    obtain ⟨k, hk, hkf⟩ := this
    have hku := hlt u o ho k hk
    exact ih k ((h.mem k).2 ⟨by omega, hkf⟩) (by omega)
 obtain ⟨i, hi⟩ := key u u hu (Nat.le_refl u)
 exact fun h => by rw [h] at hi; simp at hi
structure Plan (ops : Array Oper) (m : Nat) : Prop where
 le : m ≤ ops.size
 lt : ∀ i o, ops[i]? = some o → ∀ k ∈ edges o, k < i
 head : ∀ i o, ops[i]? = some o → i < m → ∃ d, o.dst = some d ∧ d ∉ slotsG ops o ∧ ∀ j p s, j < m → j ≠ i → ops[j]? = some p → p.dst = some s → s ≠ d ∧ (s ∈ slotsG ops o → if j < i then reach ops ops.size i j = true else reach ops ops.size j i = true)
 tail : ∀ i o, ops[i]? = some o → m ≤ i → ∀ j, j < i → reach ops ops.size i j = true
theorem drawOk_plan (h : drawOk ops m = true) : Plan ops m := by
 simp only [drawOk, Bool.and_eq_true, decide_eq_true_eq, List.all_eq_true, List.mem_range] at h
 obtain ⟨h1, h2⟩ := h
 have hof : ∀ i o, ops[i]? = some o → (if i < m then headOkG ops m i o else tailOk ops i o) = true := fun i o ho => by
  have := h2 i (Array.getElem?_eq_some_iff.1 ho).1
  rw [ho] at this; simpa using this
 refine ⟨h1, fun i o ho k hk => ?_, fun i o ho hi => ?_, fun i o ho hi j hj => ?_⟩
 ·have := hof i o ho
  split at this
  ·simp only [headOkG, Bool.and_eq_true, List.all_eq_true, decide_eq_true_eq] at this
   exact this.1 k hk
  ·simp only [tailOk, Bool.and_eq_true, List.all_eq_true, decide_eq_true_eq] at this
   exact this.1 k hk
 ·have := hof i o ho
  rw [if_pos hi] at this
  simp only [headOkG, Bool.and_eq_true] at this
  obtain ⟨_, g3⟩ := this
  split at g3
  ·cases g3
  ·rename_i d hd
   simp only [Bool.and_eq_true, List.all_eq_true, List.mem_range, Bool.not_eq_true', Bool.or_eq_true, beq_iff_eq] at g3
   refine ⟨d, hd, by simpa using g3.1, fun j p s hj hji hp hs => ?_⟩
   have := (g3.2 j hj).resolve_left hji
   simp only [hp, hs, Bool.and_eq_true, bne_iff_ne, ne_eq, Bool.or_eq_true, Bool.not_eq_true'] at this
   refine ⟨this.1, fun hm => ?_⟩
   have h' := this.2.resolve_left (by simpa using hm)
   split at h'
   ·rename_i hlt; rw [if_pos hlt]; exact h'
   ·rename_i hlt; rw [if_neg hlt]; exact h'
 ·have := hof i o ho
  rw [if_neg (by omega)] at this
  simp only [tailOk, Bool.and_eq_true, List.all_eq_true, List.mem_range] at this
  exact this.2 j hj
theorem tail_run (hp : Plan ops m) (h0 : True) (hQ : ∀ σ' G' a' w', K σ' → SRel G0 w0 σ' G' a' w' → Q .normal a' w') :
  ∀ (fuel k : Nat) (listed : Array Bool) (U : List Nat) (σ : St) (G : Nat → Status) (a : Act) (w : World), Left ops listed U → U.length = fuel → m ≤ k → (∀ i, i < ops.size → (listed.getD i false = true ↔ i < k)) → k ≤ ops.size →
   Closed ops (fun k => listed.getD k false) → opsA P ops (ops.toList.drop k) σ K → SRel G0 w0 σ G a w → wpAny P .any ops Q fuel listed a w := by
 intro fuel
 induction fuel with
 | zero =>
  intro k listed U σ G a w hl hU hmk hk hks hc hw h
  have hUn : U = [] := List.eq_nil_of_length_eq_zero hU
  subst hUn
  have hkk : k = ops.size := by
   apply Classical.byContradiction
   intro hne
   have hlt : k < ops.size := by omega
   have : listed.getD k false = false := by
    cases hb : listed.getD k false
    ·rfl
    ·have := (hk k hlt).1 hb; omega
   have := (hl.mem k).2 ⟨hlt, this⟩
   simp at this
  subst hkk
  refine ⟨?_, ?_⟩
  ·apply List.eq_nil_iff_forall_not_mem.2
   intro i hi
   obtain ⟨o, ho, h1, _⟩ := (ready_iff hl.size).1 hi
   have := (hl.mem i).2 ⟨(Array.getElem?_eq_some_iff.1 ho).1, h1⟩
   simp at this
  ·have hd : ops.toList.drop ops.size = [] := by simp
   rw [hd] at hw
   exact hQ σ G a w hw h
 | succ fuel ih =>
  intro k listed U σ G a w hl hU hmk hk hks hc hw h
  have hUn : U ≠ [] := by intro h; rw [h] at hU; simp at hU
  refine ⟨fun hr => absurd hr (some_ready hl hp.lt hUn), fun i hi => ?_⟩
  obtain ⟨o, ho, h1, h2⟩ := (ready_iff hl.size).1 hi
  have hlt := (Array.getElem?_eq_some_iff.1 ho).1
  have hki : ¬ i < k := fun h => by have := (hk i hlt).2 h; rw [h1] at this; cases this
  have hik : i = k := by
   apply Classical.byContradiction
   intro hne
   have hlk : k < i := by omega
   have := reach_listed hc ops.size i k o ho h2 (hp.tail i o ho (by omega) k hlk)
   have := (hk k (by omega)).1 this
   omega
  subst hik
  have hdrop : ops.toList.drop i = o :: ops.toList.drop (i + 1) := by
   have hlt' : i < ops.toList.length := by simpa using hlt
   rw [List.drop_eq_getElem_cons hlt']
   have : ops.toList[i] = o := by
    have := Array.getElem?_eq_some_iff.1 ho
    simpa using this.2
   rw [this]
  rw [hdrop] at hw
  have hmem : i ∈ U := (hl.mem i).2 ⟨hlt, h1⟩
  obtain ⟨l1, l2⟩ := hl.step hmem
  have hsz : i < listed.size := by rw [hl.size]; exact hlt
  have hk' : ∀ j, j < ops.size → ((listed.setIfInBounds i true).getD j false = true ↔ j < i + 1) := fun j hj => by
   rw [set_getD hsz]
   by_cases hij : i = j
   ·subst hij; simp
   ·rw [if_neg hij, hk j hj]; omega
  have hcont : ∀ {σ' G' a' w'}, opsA P ops (ops.toList.drop (i + 1)) σ' K → SRel G0 w0 σ' G' a' w' → wpAny P .any ops Q fuel (listed.setIfInBounds i true) a' w' := fun hk2 hs2 =>
   ih (i + 1) _ _ _ _ _ _ l1 (by omega) (by omega) hk' (by omega) (hc.step hsz ho h2) hk2 hs2
  simp only [opsA] at hw
  simp only [Go.wpOp, ho]
  have run : ∀ {σ}, AM.wpOp P o σ (fun σ' => opsA P ops (ops.toList.drop (i + 1)) σ' K) → SRel G0 w0 σ G a w → o.wp P a w (wpAny P .any ops Q fuel (listed.setIfInBounds i true)) Q := fun hw h =>
   wpOp_sound hw h h0 _ _ fun σ' G' a' w' hk hs => hcont hk hs
  cases hg : o.guard with
  | none =>
   simp only [hg] at hw
   rw [if_pos (by simp [Region.wanted, hg])]
   exact .inl (run hw h)
  | some p =>
   obtain ⟨j, want⟩ := p
   simp only [hg] at hw
   cases hgs : guardSlot ops j with
   | none => simp [hgs] at hw
   | some g =>
    simp only [hgs] at hw
    split at hw
    ·rename_i b hb
     have hv := h.slots g
     rw [hb] at hv
     have hy := yielded_bool hgs hv.sc_inv
     by_cases hbw : b = want
     ·subst hbw
      rw [if_pos (by simp [Region.wanted, hg, hy])]
      exact .inl (run (hw.1 rfl) (h.same hb))
     ·rw [if_neg (by simp [Region.wanted, hg, hy, hbw])]
      have hbn : b = !want := by cases b <;> cases want <;> simp_all
      obtain ⟨hdst, hw⟩ := hw.2 hbn
      have hs := (h.same (g := g) (x := .sc (.bool (!want))) (by rw [hb, hbn])).add (.refl G w) h.good (fun _ _ h => h) (d := o.dst) (x := .sc undef) (v := undef) (by rw [put_n]; exact hdst) (.froz (.sc _))
      exact hcont hw hs
    ·rename_i vs hb
     have hv := h.slots g
     rw [hb] at hv
     have hy := yielded_none hgs hv.sc_inv
     rw [if_neg (by simp [Region.wanted, hg, hy])]
     obtain ⟨hdst, hw⟩ := hw
     have hs := h.add (.refl G w) h.good (fun _ _ h => h) (d := o.dst) (x := .sc undef) (v := undef) hdst (.froz (.sc _))
     exact hcont hw hs
    ·exact hw.elim
theorem head_run (hp : Plan ops m) (h0 : True) (hQ : ∀ σ' G' a' w', K σ' → SRel G0 w0 σ' G' a' w' → Q .normal a' w') (hvl : vs.length = m) (hap : Apart vs)
  (hK : opsA P ops (ops.toList.drop m) (puts σ vs) K)
  (hst : ∀ i o, i < m → ops[i]? = some o → ∃ d y, vs[i]? = some (d, y) ∧ o.dst = some d ∧ d < σ.n ∧ StepG P ops o d (puts σ (vs.take i)) σ.boxes y) :
  ∀ (fuel : Nat) (listed : Array Bool) (U : List Nat) (τ : St) (G : Nat → Status) (a : Act) (w : World), Left ops listed U → U.length = fuel → (∀ i, m ≤ i → listed.getD i false = false) →
   Closed ops (fun k => listed.getD k false) → At vs (fun i => listed.getD i false) σ τ → SRel G0 w0 τ G a w →
   (∀ i o d, ops[i]? = some o → i < m → o.dst = some d → creates o.op = true → listed.getD i false = false → Fresh d G) → wpAny P .any ops Q fuel listed a w := by
 intro fuel
 induction fuel with
 | zero =>
  intro listed U τ G a w hl hU hm hc hat h hfr
  have hUn : U = [] := List.eq_nil_of_length_eq_zero hU
  subst hUn
  have hall : ∀ i, i < ops.size → listed.getD i false = true := fun i hi => by
   cases hb : listed.getD i false
   ·have := (hl.mem i).2 ⟨hi, hb⟩; simp at this
   ·rfl
  have hms : m = ops.size := by
   apply Classical.byContradiction
   intro hne
   have := hp.le
   have h1 := hall m (by omega)
   rw [hm m (Nat.le_refl m)] at h1; cases h1
  have heq : SRel G0 w0 (puts σ vs) G a w := by
   have hpa := puts_at m vs σ hap
   rw [List.take_of_length_le (by omega)] at hpa
   refine h.slotsEq (by rw [hpa.n, hat.n]) (by rw [hpa.boxes, hat.boxes]) fun s => ?_
   by_cases hs : ∀ (i d : Nat) (y : AV), vs[i]? = some (d, y) → d ≠ s
   ·rw [hpa.rest s hs, hat.rest s hs]
   ·have : ∃ (i : Nat) (y : AV), vs[i]? = some (s, y) := by
     apply Classical.byContradiction
     intro hcon
     exact hs fun i d y hi hds => hcon ⟨i, y, by rw [← hds]; exact hi⟩
    obtain ⟨i, y, hi⟩ := this
    have hil : i < m := by rw [← hvl]; exact (List.getElem?_eq_some_iff.1 hi).1
    rw [hpa.dst i s y hi, hat.dst i s y hi]
    simp [hil, hall i (by omega)]
  exact tail_run (P := P) hp h0 hQ 0 m listed [] (puts σ vs) G a w hl rfl (Nat.le_refl m) (fun i hi => by simp [hall i hi]; omega) hp.le hc hK heq
 | succ fuel ih =>
  intro listed U τ G a w hl hU hm hc hat h hfr
  have hUn : U ≠ [] := by intro h; rw [h] at hU; simp at hU
  by_cases hdone : ∀ i, i < m → listed.getD i false = true
  ·have heq : SRel G0 w0 (puts σ vs) G a w := by
    have hpa := puts_at m vs σ hap
    rw [List.take_of_length_le (by omega)] at hpa
    refine h.slotsEq (by rw [hpa.n, hat.n]) (by rw [hpa.boxes, hat.boxes]) fun s => ?_
    by_cases hs : ∀ (i d : Nat) (y : AV), vs[i]? = some (d, y) → d ≠ s
    ·rw [hpa.rest s hs, hat.rest s hs]
    ·have : ∃ (i : Nat) (y : AV), vs[i]? = some (s, y) := by
      apply Classical.byContradiction
      intro hcon
      exact hs fun i d y hi hds => hcon ⟨i, y, by rw [← hds]; exact hi⟩
     obtain ⟨i, y, hi⟩ := this
     have hil : i < m := by rw [← hvl]; exact (List.getElem?_eq_some_iff.1 hi).1
     rw [hpa.dst i s y hi, hat.dst i s y hi]
     simp [hil, hdone i hil]
   refine tail_run (P := P) hp h0 hQ (fuel + 1) m listed U (puts σ vs) G a w hl hU (Nat.le_refl m) (fun i hi => ⟨fun hb => ?_, fun hlt => hdone i hlt⟩) hp.le hc hK heq
   apply Classical.byContradiction
   intro hge
   rw [hm i (by omega)] at hb; cases hb
  ·refine ⟨fun hr => absurd hr (some_ready hl hp.lt hUn), fun i hi => ?_⟩
   obtain ⟨o, ho, h1, h2⟩ := (ready_iff hl.size).1 hi
   have hlt := (Array.getElem?_eq_some_iff.1 ho).1
   have him : i < m := by
    apply Classical.byContradiction
    intro hge
    exact hdone fun j hj => reach_listed hc ops.size i j o ho h2 (hp.tail i o ho (by omega) j (by omega))
   obtain ⟨d, y, hv, hd, hdn, hstep⟩ := hst i o him ho
   obtain ⟨d', hd', hself, hpair⟩ := hp.head i o ho him
   rw [hd] at hd'; cases hd'
   have hmem : i ∈ U := (hl.mem i).2 ⟨hlt, h1⟩
   obtain ⟨l1, l2⟩ := hl.step hmem
   have hsz : i < listed.size := by rw [hl.size]; exact hlt
   have hsame : ∀ s ∈ slotsG ops o, (puts σ (vs.take i)).get s = τ.get s := by
    intro s hsm
    have hpa := puts_at i vs σ hap
    by_cases hs : ∀ (i d : Nat) (y : AV), vs[i]? = some (d, y) → d ≠ s
    ·rw [hpa.rest s hs, hat.rest s hs]
    ·have : ∃ (j : Nat) (y : AV), vs[j]? = some (s, y) := by
      apply Classical.byContradiction
      intro hcon
      exact hs fun i d y hi hds => hcon ⟨i, y, by rw [← hds]; exact hi⟩
     obtain ⟨j, y', hj⟩ := this
     have hjl : j < m := by rw [← hvl]; exact (List.getElem?_eq_some_iff.1 hj).1
     obtain ⟨p, hpj⟩ : ∃ p, ops[j]? = some p := ⟨ops[j]'(by have := hp.le; omega), by have := hp.le; simp [show j < ops.size by omega]⟩
     obtain ⟨d'', y'', hv'', hds'', _⟩ := hst j p hjl hpj
     rw [hj] at hv''; cases hv''
     have hji : j ≠ i := fun hji => by subst hji; rw [hv] at hj; cases hj; exact hself hsm
     have hre := (hpair j p s hjl hji hpj hds'').2 hsm
     rw [hpa.dst j s y' hj, hat.dst j s y' hj]
     by_cases hjlt : j < i
     ·rw [if_pos hjlt] at hre
      have := reach_listed hc ops.size i j o ho h2 hre
      simp [hjlt, this]
     ·rw [if_neg hjlt] at hre
      have hjf : listed.getD j false = false := by
       cases hb : listed.getD j false
       ·rfl
       ·have := reach_listed hc ops.size j i p hpj (fun k hk => hc j p hpj hb k hk) hre
        rw [h1] at this; cases this
      simp [hjlt, hjf]
   have hops : ∀ x ∈ o.op.operands, VRel G w ((puts σ (vs.take i)).ev x) (a.eval x) := by
    intro x hx
    have hrel := h.ev x
    suffices (puts σ (vs.take i)).ev x = τ.ev x by rw [this]; exact hrel
    cases x with
    | tmp s =>
     simp only [St.ev]
     refine hsame s (List.mem_append.2 (.inr ?_))
     unfold slotsOf
     exact List.mem_filterMap.2 ⟨.tmp s, by simpa using hx, rfl⟩
    | const v => rfl
    | func f => rfl
    | global g => rfl
   have hgo : ∀ {G' a' w'} (hs' : SRel G0 w0 (τ.put (some d) y) G' a' w') (g4 : NewTags d G G'), wpAny P .any ops Q fuel (listed.setIfInBounds i true) a' w' := by
    intro G' a' w' hs' g4
    refine ih _ _ _ G' _ _ l1 (by omega) (fun j hj => ?_) (hc.step hsz ho h2) (hat.step hap hv (fun j hj => ?_) ?_) hs' (fun j oj dj hoj hjm hdj hcr hjf => ?_)
    ·rw [set_getD hsz, if_neg (by omega)]; exact hm j hj
    ·simp only [set_getD hsz]; rw [if_neg (Ne.symm hj)]
    ·simp only [set_getD hsz]; simp
    ·rw [set_getD hsz] at hjf
     by_cases hij : i = j
     ·rw [if_pos hij] at hjf; cases hjf
     ·rw [if_neg hij] at hjf
      have hne := (hpair j oj dj hjm (Ne.symm hij) hoj hdj).1
      exact g4.fresh (Ne.symm hne) (hfr j oj dj hoj hjm hdj hcr hjf)
   have hrun : StepOk P o d (puts σ (vs.take i)).ev σ.boxes y → o.wp P a w (wpAny P .any ops Q fuel (listed.setIfInBounds i true)) Q := fun hstep =>
    hstep _ G a w h.good (by rw [← hat.boxes]; exact h.boxes) (fun hcr => hfr i o d ho him hd hcr h1) hops _ _ fun v w' G' g1 g2 g3 g4 =>
     hgo (by rw [hd]; exact h.add g2 g3 g4.boxes (by simp [dstOk, hat.n, hdn]) g1) g4
   simp only [Go.wpOp, ho]
   rcases hstep with ⟨hg, hstep⟩ | ⟨j, want, g, c, hg, hgs, hgv, hc2⟩ | ⟨j, want, g, vs', hg, hgs, hgv, rfl⟩
   ·rw [if_pos (by simp [Region.wanted, hg])]
    exact .inl (hrun hstep)
   ·have hgm : g ∈ slotsG ops o := by simp [slotsG, guardS, hg, hgs]
    have hv2 := h.slots g
    rw [← hsame g hgm, hgv] at hv2
    have hy := yielded_bool hgs hv2.sc_inv
    rcases hc2 with ⟨rfl, hstep⟩ | ⟨hne, rfl⟩
    ·rw [if_pos (by simp [Region.wanted, hg, hy])]
     exact .inl (hrun hstep)
    ·rw [if_neg (by simp [Region.wanted, hg, hy, hne])]
     have hs' := h.add (.refl G w) h.good (fun _ _ h => h) (d := o.dst) (x := .sc undef) (v := undef) (by rw [hd]; simp [dstOk, hat.n, hdn]) (.froz (.sc _))
     refine hgo (G' := G) (by rw [hd] at hs' ⊢; exact hs') ⟨fun b t hb => .inl hb, fun b i hb => hb⟩
   ·have hgm : g ∈ slotsG ops o := by simp [slotsG, guardS, hg, hgs]
    have hv2 := h.slots g
    rw [← hsame g hgm, hgv] at hv2
    have hy := yielded_none hgs hv2.sc_inv
    rw [if_neg (by simp [Region.wanted, hg, hy])]
    have hs' := h.add (.refl G w) h.good (fun _ _ h => h) (d := o.dst) (x := .sc undef) (v := undef) (by rw [hd]; simp [dstOk, hat.n, hdn]) (.froz (.sc _))
    exact hgo (G' := G) (by rw [hd] at hs' ⊢; exact hs') ⟨fun b t hb => .inl hb, fun b i hb => hb⟩
theorem DrawK.intro (m : Nat) (hm : P.follows .mixedOrders = true) (hok : drawOk ops m = true) (hfree : freeAll σ (creators ops m) = true) (h : headA P ops (ops.toList.take m) σ fun σ' => opsA P ops (ops.toList.drop m) σ' K) : DrawK P ops σ K := by
 intro G0 w0 G a w id Q h0 hs hQ
 have hp := drawOk_plan hok
 obtain ⟨vs, hvl, hK, hst⟩ := headA_vals _ _ _ h
 have hlen : (ops.toList.take m).length = m := by have := hp.le; simp; omega
 have hst' : ∀ i o, i < m → ops[i]? = some o → ∃ d y, vs[i]? = some (d, y) ∧ o.dst = some d ∧ d < σ.n ∧ StepG P ops o d (puts σ (vs.take i)) σ.boxes y := fun i o hi ho => by
  refine hst i o ?_
  rw [List.getElem?_take, if_pos hi]
  simpa using ho
 have hap : Apart vs := by
  intro i j d y d' y' h1 h2 hij
  have hil : i < m := by have := (List.getElem?_eq_some_iff.1 h1).1; omega
  have hjl : j < m := by have := (List.getElem?_eq_some_iff.1 h2).1; omega
  have hle := hp.le
  obtain ⟨oi, hoi⟩ : ∃ p, ops[i]? = some p := ⟨ops[i]'(by omega), by simp [show i < ops.size by omega]⟩
  obtain ⟨oj, hoj⟩ : ∃ p, ops[j]? = some p := ⟨ops[j]'(by omega), by simp [show j < ops.size by omega]⟩
  obtain ⟨_, _, k1, k2, _⟩ := hst' i oi hil hoi
  obtain ⟨_, _, k3, k4, _⟩ := hst' j oj hjl hoj
  rw [h1] at k1; cases k1
  rw [h2] at k3; cases k3
  obtain ⟨d1, e1, _, e2⟩ := hp.head j oj hoj hjl
  rw [k4] at e1; cases e1
  exact (e2 i oi d hil hij hoi k2).1
 refine wp_region_any hm ?_
 obtain ⟨G', g1, g2, _⟩ := (hs.drawn (w.drawn + 1)).freshAll h0 (creators ops m) G hfree
 have hgd : ∀ i, (Array.replicate ops.size false).getD i false = false := fun i => by
  by_cases hi : i < ops.size <;> simp [hi]
 refine head_run (P := P) hp h0 hQ (by omega) hap hK hst' ops.size (Array.replicate ops.size false) (List.range ops.size) σ G' a _ ⟨by simp, List.nodup_range, fun i => ?_⟩ (by simp) (fun i _ => hgd i) (fun i o _ hi => absurd (show (Array.replicate ops.size false).getD i false = true from hi) (by rw [hgd]; simp)) ⟨rfl, rfl, fun i d y _ => by simp only [hgd]; simp, fun _ _ => rfl⟩ g1 (fun i o d ho hi hd hcr _ => ?_)
 ·rw [List.mem_range, hgd]; simp
 ·refine g2 d ?_
  unfold creators
  refine List.mem_filterMap.2 ⟨o, ?_, by rw [if_pos hcr]; exact hd⟩
  refine List.mem_of_getElem? (i := i) ?_
  rw [List.getElem?_take, if_pos hi]; simpa using ho
end
end
end Go.AM

/-! ## AmS -/
namespace Go.AM
open Go.RowKit
section
variable {P : Program} {n : Nat} {t : List (Nat × AV)} {b : List (List AV)}
variable {d : Nat} {T : TypeId} {pos : String} {af : Array Edge} {g : Option (Nat × Bool)} {K : St → Prop}
@[congr] theorem headOp_congr {o : Oper} {K : St → Prop} {σ σ' : St} (h : mkd σ = σ') : headOp P o σ K = headOp P o σ' K := by subst_vars; rfl
@[congr] theorem CallY_congr {f : FuncId} {args args' : List AV} {d : Nat} {K : St → Prop} {σ σ' : St} (h1 : mkd args = args') (h : σ = σ') : CallY P f args d σ K = CallY P f args' d σ' K := by subst_vars; rfl
@[go_sem] theorem knownB_bool {c want : Bool} : knownB want (.sc (.bool c)) = some c := rfl
@[go_sem] theorem knownB_undef {want : Bool} : knownB want (.sc undef) = some (!want) := rfl
@[go_sem] theorem headOp_move {x : Operand} : headOp P ⟨some d, .move x, T, pos, af, g⟩ ⟨n, t, b⟩ K = andK (d < n) (K (St.put ⟨n, t, b⟩ (some d) (typed P d T (St.ev ⟨n, t, b⟩ x)))) := rfl
@[go_sem] theorem headOp_assign {x : Operand} : headOp P ⟨some d, .assign x, T, pos, af, g⟩ ⟨n, t, b⟩ K = andK (d < n) (K (St.put ⟨n, t, b⟩ (some d) (typed P d T (St.ev ⟨n, t, b⟩ x)))) := rfl
@[go_sem] theorem headOp_pick {c x y : Operand} : headOp P ⟨some d, .pick c x y, T, pos, af, g⟩ ⟨n, t, b⟩ K = andK (d < n) (onBool (St.ev ⟨n, t, b⟩ c) fun v => both v (K (St.put ⟨n, t, b⟩ (some d) (St.ev ⟨n, t, b⟩ x))) (K (St.put ⟨n, t, b⟩ (some d) (St.ev ⟨n, t, b⟩ y)))) := by
 simp only [headOp, evOp, andK, onBool, both]
 cases St.ev ⟨n, t, b⟩ c <;> simp
 rename_i v; cases v <;> simp
 rename_i v; intro _; cases v <;> simp
@[go_sem] theorem headOp_load {T' : TypeId} {x : Operand} : headOp P ⟨some d, .load T' x, T, pos, af, g⟩ ⟨n, t, b⟩ K = andK (d < n) (evLoad P b T' (St.ev ⟨n, t, b⟩ x) fun r => K (St.put ⟨n, t, b⟩ (some d) r)) := by simp [headOp, evOp, andK]
@[go_sem] theorem headOp_nilCheck {x : Operand} : headOp P ⟨some d, .nilCheck x, T, pos, af, g⟩ ⟨n, t, b⟩ K = andK (d < n) (andK ((isPtr (St.ev ⟨n, t, b⟩ x) || isFn (St.ev ⟨n, t, b⟩ x)) = true) (K (St.put ⟨n, t, b⟩ (some d) (St.ev ⟨n, t, b⟩ x)))) := by simp [headOp, evOp, andK]
@[go_sem] theorem headOp_binOp {op : BinOp} {T' T'' : TypeId} {x y : Operand} : headOp P ⟨some d, .binOp op T' x y T'', T, pos, af, g⟩ ⟨n, t, b⟩ K = andK (d < n) (evBinOp P op T' (St.ev ⟨n, t, b⟩ x) (St.ev ⟨n, t, b⟩ y) fun r => K (St.put ⟨n, t, b⟩ (some d) r)) := by simp [headOp, evOp, andK]
@[go_sem] theorem headOp_unOp {op : UnOp} {T' : TypeId} {x : Operand} : headOp P ⟨some d, .unOp op T' x, T, pos, af, g⟩ ⟨n, t, b⟩ K = andK (d < n) (evUn op (St.ev ⟨n, t, b⟩ x) fun r => K (St.put ⟨n, t, b⟩ (some d) r)) := by simp [headOp, evOp, andK]
@[go_sem] theorem headOp_convert {T' T'' : TypeId} {x : Operand} : headOp P ⟨some d, .convert T' T'' x, T, pos, af, g⟩ ⟨n, t, b⟩ K = andK (d < n) (evConv P T' T'' (St.ev ⟨n, t, b⟩ x) fun r => K (St.put ⟨n, t, b⟩ (some d) r)) := by simp [headOp, evOp, andK]
@[go_sem] theorem headOp_slice {T' : TypeId} {x : Operand} {lo hi mx : Option Operand} : headOp P ⟨some d, .slice T' x lo hi mx, T, pos, af, g⟩ ⟨n, t, b⟩ K = andK (d < n) (evSlice P T' (St.ev ⟨n, t, b⟩ x) (lo.map (St.ev ⟨n, t, b⟩)) (hi.map (St.ev ⟨n, t, b⟩)) (mx.map (St.ev ⟨n, t, b⟩)) fun r => K (St.put ⟨n, t, b⟩ (some d) r)) := by simp [headOp, evOp, andK]
@[go_sem] theorem headOp_fieldAddr {T' : TypeId} {x : Operand} {f : Nat} : headOp P ⟨some d, .fieldAddr T' x f, T, pos, af, g⟩ ⟨n, t, b⟩ K = andK (d < n) (evFieldAddr P T' (St.ev ⟨n, t, b⟩ x) f fun r => K (St.put ⟨n, t, b⟩ (some d) r)) := by simp [headOp, evOp, andK]
@[go_sem] theorem headOp_indexAddr {T' : TypeId} {x i : Operand} : headOp P ⟨some d, .indexAddr T' x i, T, pos, af, g⟩ ⟨n, t, b⟩ K = andK (d < n) (evIndexAddr P T' (St.ev ⟨n, t, b⟩ x) (St.ev ⟨n, t, b⟩ i) fun r => K (St.put ⟨n, t, b⟩ (some d) r)) := by simp [headOp, evOp, andK]
@[go_sem] theorem headOp_extract {x : Operand} {i : Nat} : headOp P ⟨some d, .extract x i, T, pos, af, g⟩ ⟨n, t, b⟩ K = andK (d < n) (evExtract (St.ev ⟨n, t, b⟩ x) i fun r => K (St.put ⟨n, t, b⟩ (some d) r)) := by simp [headOp, evOp, andK]
@[go_sem] theorem headOp_build {T' : TypeId} {ps : List (Nat × Operand)} : headOp P ⟨some d, .build T' ps.toArray, T, pos, af, g⟩ ⟨n, t, b⟩ K = andK (d < n) (evBuild P T' (evParts ⟨n, t, b⟩ ps) fun r => K (St.put ⟨n, t, b⟩ (some d) r)) := by simp [headOp, evOp, andK, evParts_eq]
@[go_sem] theorem headOp_buildSlice {T' : TypeId} {len : Nat} {ps : List (Nat × Operand)} : headOp P ⟨some d, .buildSlice T' len ps.toArray, T, pos, af, g⟩ ⟨n, t, b⟩ K = andK (d < n) (evBuildSlice P d T' len (evParts ⟨n, t, b⟩ ps) fun r => K (St.put ⟨n, t, b⟩ (some d) r)) := by simp [headOp, evOp, andK, evParts_eq]
@[go_sem] theorem headOp_makeSlice {T' : TypeId} {l c : Operand} : headOp P ⟨some d, .makeSlice T' l c, T, pos, af, g⟩ ⟨n, t, b⟩ K = andK (d < n) ((evMake P d T' (St.ev ⟨n, t, b⟩ l) (St.ev ⟨n, t, b⟩ c) fun r => K (St.put ⟨n, t, b⟩ (some d) r))) := by simp [headOp, evOp, andK]
@[go_sem] theorem headOp_alloc {T' : TypeId} : headOp P ⟨some d, .alloc T', T, pos, af, g⟩ ⟨n, t, b⟩ K = andK (d < n) (caseO (tinfo P T') fun q => caseO q.2.2 fun z => andK (zeroOk q.1 z = true) (K (St.put ⟨n, t, b⟩ (some d) (.pe (64 * (d + 1)) q.1 [ofConst z] 0 0)))) := by
 simp [headOp, evOp, evAllocE, andK, caseO]
@[go_sem] theorem headOp_len {x : Operand} {T' : TypeId} : headOp P ⟨some d, .call ⟨.builtin .len, [x].toArray, [T'].toArray⟩, T, pos, af, g⟩ ⟨n, t, b⟩ K = andK (d < n) (evLenM P T' (St.ev ⟨n, t, b⟩ x) fun r => K (St.put ⟨n, t, b⟩ (some d) r)) := by simp [headOp, evOp, andK]
@[go_sem] theorem headOp_max {x y : Operand} {As : Array TypeId} : headOp P ⟨some d, .call ⟨.builtin .max, [x, y].toArray, As⟩, T, pos, af, g⟩ ⟨n, t, b⟩ K = andK (d < n) (evMax (St.ev ⟨n, t, b⟩ x) (St.ev ⟨n, t, b⟩ y) fun r => K (St.put ⟨n, t, b⟩ (some d) r)) := by simp [headOp, evOp, andK]
@[go_sem] theorem headOp_append {x y : Operand} {T' T'' : TypeId} : headOp P ⟨some d, .call ⟨.builtin .append, [x, y].toArray, [T', T''].toArray⟩, T, pos, af, g⟩ ⟨n, t, b⟩ K = andK (d < n) (evAppendX P d T' T'' (St.ev ⟨n, t, b⟩ x) (St.ev ⟨n, t, b⟩ y) fun r => K (St.put ⟨n, t, b⟩ (some d) r)) := by simp [headOp, evOp, andK]
@[go_sem] theorem headOp_call {f : FuncId} {args : List Operand} {As : Array TypeId} : headOp P ⟨some d, .call ⟨.value (.func f), args.toArray, As⟩, T, pos, af, g⟩ ⟨n, t, b⟩ K = andK (d < n) (CallY P f (evAll ⟨n, t, b⟩ args) d ⟨n, t, b⟩ K) := by simp [headOp, andK, St.ev, evAll_eq]
def crs : List Oper → List Nat
 | [] => []
 | o :: r => if creates o.op = true then (match o.dst with | some d => d :: crs r | none => crs r) else crs r
theorem crs_eq : ∀ l : List Oper, crs l = l.filterMap fun o => if creates o.op = true then o.dst else none
 | [] => rfl
 | o :: r => by
  rw [crs, crs_eq r, List.filterMap_cons]
  split
  ·cases o.dst <;> rfl
  ·rfl
attribute [go_sem] crs creates needsFresh
def headT (P : Program) (ops : Array Oper) : Nat → List Oper → St → (St → Prop) → Prop
 | 0, l, σ, K => opsA P ops l σ K
 | _ + 1, [], σ, K => K σ
 | m + 1, o :: l, σ, K => headG P ops o σ fun σ' => headT P ops m l σ' K
theorem headT_eq {ops : Array Oper} {K : St → Prop} : ∀ (m : Nat) (l : List Oper) (σ : St), headT P ops m l σ K = headA P ops (l.take m) σ fun σ' => opsA P ops (l.drop m) σ' K
 | 0, l, σ => by cases l <;> rfl
 | _ + 1, [], σ => rfl
 | m + 1, o :: l, σ => by
  show (headG P ops o σ fun σ' => headT P ops m l σ' K) = headG P ops o σ fun σ' => headA P ops (l.take m) σ' fun σ' => opsA P ops (l.drop m) σ' K
  have : (fun σ' => headT P ops m l σ' K) = fun σ' => headA P ops (l.take m) σ' fun σ' => opsA P ops (l.drop m) σ' K := funext fun σ' => headT_eq m l σ'
  rw [this]
@[congr] theorem headT_congr {ops : Array Oper} {m : Nat} {l : List Oper} {K : St → Prop} {σ σ' : St} (h : mkd σ = σ') : headT P ops m l σ K = headT P ops m l σ' K := by subst_vars; rfl
@[go_sem] theorem headT_zero {ops : Array Oper} {l : List Oper} {K : St → Prop} : headT P ops 0 l ⟨n, t, b⟩ K = opsA P ops l ⟨n, t, b⟩ K := rfl
@[go_sem] theorem headT_succ {ops : Array Oper} {m : Nat} {dst : Option Tmp} {op : Op} {l : List Oper} {K : St → Prop} : headT P ops (m + 1) (⟨dst, op, T, pos, af, none⟩ :: l) ⟨n, t, b⟩ K = headOp P ⟨dst, op, T, pos, af, none⟩ ⟨n, t, b⟩ fun σ' => headT P ops m l σ' K := rfl
@[go_sem] theorem headT_guard {ops : Array Oper} {m : Nat} {op : Op} {l : List Oper} {K : St → Prop} {j : Nat} {want : Bool} : headT P ops (m + 1) (⟨some d, op, T, pos, af, some (j, want)⟩ :: l) ⟨n, t, b⟩ K = caseO (guardSlot ops j) fun g => caseO (knownB want (lookT t g)) fun c =>
  both (c == want) (headOp P ⟨some d, op, T, pos, af, some (j, want)⟩ ⟨n, t, b⟩ fun σ' => headT P ops m l σ' K) (andK (d < n) (headT P ops m l (St.put ⟨n, t, b⟩ (some d) (.sc undef)) K)) := by
 simp only [headT, headG, caseO, both, andK, St.get]
 apply propext
 constructor
 ·rintro ⟨g, c, h1, h2, h3, h4⟩
  refine ⟨g, h1, c, h2, h3, fun hc => ?_⟩
  obtain ⟨d', hd, h5, h6⟩ := h4 hc
  cases hd
  exact ⟨h5, h6⟩
 ·rintro ⟨g, h1, c, h2, h3, h4⟩
  exact ⟨g, c, h1, h2, h3, fun hc => ⟨d, rfl, (h4 hc).1, (h4 hc).2⟩⟩
theorem DrawK.walk {l : List Oper} {σ : St} (m : Nat) (hm : P.follows .mixedOrders = true) (hok : drawOk l.toArray m = true)
  (h : andK (freeAll σ (crs (l.take m)) = true) (headT P l.toArray m l σ K)) : DrawK P l.toArray σ K :=
 DrawK.intro m hm hok (by rw [crs_eq] at h; exact h.1) (by rw [headT_eq] at h; exact h.2)
theorem CallU.free {f : FuncId} {args args' : List AV} {post : AV → List (List AV) → Prop} {σ : St} (hcon : Con P f args' [] post) (hc : σ.free d = true ∧ d < σ.n ∧ dedup (pbss args) = [] ∧ tagss args = []) (ha : mapTops viewLeaf args = args')
  (hk : ∀ r bx, post r bx → r.allLeaf lt64 = true ∧ K (σ.put (some d) (r.shift (64 * (d + 1))))) : CallU P f args d σ K := by
 unfold CallU
 rw [hc.2.2.1]
 refine .inl ⟨hc.1, hc.2.1, ?_⟩
 have : args.map AV.view = args' := by rw [← ha, mapTops_eq]; rfl
 rw [this]
 exact hcon.mono fun r bx h => ⟨(hk r bx h).1, .free hc.2.2.2 (hk r bx h).2⟩
theorem CallU.flat {f : FuncId} {args args' : List AV} {post : AV → List (List AV) → Prop} {σ : St} (hcon : Con P f args' [] post) (hc : σ.free d = true ∧ d < σ.n ∧ dedup (pbss args) = []) (ha : mapTops viewLeaf args = args')
  (hk : ∀ r bx, post r bx → r.allLeaf lt64 = true ∧ r.allLeaf flatLeaf = true ∧ K (σ.put (some d) (r.shift (64 * (d + 1))))) : CallU P f args d σ K := by
 unfold CallU
 rw [hc.2.2]
 refine .inl ⟨hc.1, hc.2.1, ?_⟩
 have : args.map AV.view = args' := by rw [← ha, mapTops_eq]; rfl
 rw [this]
 exact hcon.mono fun r bx h => ⟨(hk r bx h).1, .flat (hk r bx h).2.1 (hk r bx h).2.2⟩
theorem CallU.freeze {f : FuncId} {args args' : List AV} {post : AV → List (List AV) → Prop} {σ : St} (hcon : Con P f args' [] post) (hc : σ.free d = true ∧ d < σ.n ∧ dedup (pbss args) = []) (ha : mapTops viewLeaf args = args')
  (hk : ∀ r bx, post r bx → r.allLeaf lt64 = true ∧ K ((σ.map (freezeLeaf fun t => (tagss args).contains t)).put (some d) (r.shift (64 * (d + 1))))) : CallU P f args d σ K := by
 unfold CallU
 rw [hc.2.2]
 refine .inl ⟨hc.1, hc.2.1, ?_⟩
 have : args.map AV.view = args' := by rw [← ha, mapTops_eq]; rfl
 rw [this]
 exact hcon.mono fun r bx h => ⟨(hk r bx h).1, .freeze (hk r bx h).2⟩
theorem CallU.boxes {f : FuncId} {args args' : List AV} {i : Nat} {is : List Nat} {bx0 bx : List (List AV)} {post : AV → List (List AV) → Prop} {σ : St} (hcon : Con P f args' bx post) (hi : dedup (pbss args) = i :: is) (hb : getAll σ.boxes (i :: is) = some bx0)
  (hc : σ.free d = true ∧ d < σ.n ∧ allLeafs noTag args = true ∧ nodupB (i :: is) = true ∧ allNoTags bx0 = true) (ha : mapTops (pbIn (i :: is)) args = args') (hbx : mapB (pbIn (i :: is)) bx0 = bx)
  (hk : ∀ r bx', post r bx' → r.allLeaf lt64b = true ∧ allNoTags bx' = true ∧ K (St.put ⟨σ.n, σ.tmps, setAll (i :: is) (mapB (outLeaf (64 * (d + 1)) (i :: is) σ.boxes.length) (bx'.take (i :: is).length)) σ.boxes ++ mapB (outLeaf (64 * (d + 1)) (i :: is) σ.boxes.length) (bx'.drop (i :: is).length)⟩ (some d) (r.mapTop (outLeaf (64 * (d + 1)) (i :: is) σ.boxes.length)))) : CallU P f args d σ K := by
 unfold CallU
 rw [hi]
 exact .inl ⟨hc.1, hc.2.1, hc.2.2.1, hc.2.2.2.1, bx0, hb, hc.2.2.2.2, by rw [ha, hbx]; exact hcon.mono hk⟩
theorem CallU.news {f : FuncId} {args args' : List AV} {bx0 bx : List (List AV)} {post : AV → List (List AV) → Prop} {σ : St} (hcon : Con P f args' bx post) (hi : dedup (pbss args) = []) (hb : getAll σ.boxes [] = some bx0)
  (hc : σ.free d = true ∧ d < σ.n ∧ allLeafs noTag args = true ∧ nodupB [] = true ∧ allNoTags bx0 = true) (ha : mapTops (pbIn []) args = args') (hbx : mapB (pbIn []) bx0 = bx)
  (hk : ∀ r bx', post r bx' → r.allLeaf lt64b = true ∧ allNoTags bx' = true ∧ K (St.put ⟨σ.n, σ.tmps, setAll [] (mapB (outLeaf (64 * (d + 1)) [] σ.boxes.length) (bx'.take ([] : List Nat).length)) σ.boxes ++ mapB (outLeaf (64 * (d + 1)) [] σ.boxes.length) (bx'.drop ([] : List Nat).length)⟩ (some d) (r.mapTop (outLeaf (64 * (d + 1)) [] σ.boxes.length)))) : CallU P f args d σ K := by
 unfold CallU
 rw [hi]
 exact .inr (.inl ⟨hc.1, hc.2.1, hc.2.2.1, hc.2.2.2.1, bx0, hb, hc.2.2.2.2, by rw [ha, hbx]; exact hcon.mono hk⟩)
theorem CallU.look {f : FuncId} {args args' : List AV} {post : AV → List (List AV) → Prop} {σ : St} (hcon : Con P f args' [] post) (hc : σ.free d = true ∧ d < σ.n) (ha : mapTops (viewV σ.boxes) args = args')
  (hk : ∀ r bx, post r bx → r.allLeaf lt64 = true ∧ r.allLeaf flatLeaf = true ∧ K (σ.put (some d) (r.shift (64 * (d + 1))))) : CallU P f args d σ K := by
 have h : CallV P f args d σ K := ⟨hc.1, hc.2, by rw [ha]; exact hcon.mono hk⟩
 unfold CallU
 split
 ·exact .inr (.inr (.inr (.inr h)))
 ·exact .inr (.inl h)
theorem CallU.hide (L : List Nat) (args0 : List AV) {f : FuncId} {args args' : List AV} {i : Nat} {is : List Nat} {bx0 bx : List (List AV)} {post : AV → List (List AV) → Prop} {σ : St} (hcon : Con P f args' bx post) (hi : dedup (pbss args) = i :: is) (hle : leC (mapTops (freezeLeaf fun t => L.contains t) args) args0)
  (hf : σ.free d = true) (hb : getAll (σ.map (freezeLeaf fun t => L.contains t)).boxes (i :: is) = some bx0)
  (hc : (σ.map (freezeLeaf fun t => L.contains t)).free d = true ∧ d < σ.n ∧ allLeafs noTag args0 = true ∧ nodupB (i :: is) = true ∧ allNoTags bx0 = true) (ha : mapTops (pbIn (i :: is)) args0 = args') (hbx : mapB (pbIn (i :: is)) bx0 = bx)
  (hk : ∀ r bx', post r bx' → r.allLeaf lt64b = true ∧ allNoTags bx' = true ∧ K (St.put ⟨σ.n, (σ.map (freezeLeaf fun t => L.contains t)).tmps, setAll (i :: is) (mapB (outLeaf (64 * (d + 1)) (i :: is) (σ.map (freezeLeaf fun t => L.contains t)).boxes.length) (bx'.take (i :: is).length)) (σ.map (freezeLeaf fun t => L.contains t)).boxes ++ mapB (outLeaf (64 * (d + 1)) (i :: is) (σ.map (freezeLeaf fun t => L.contains t)).boxes.length) (bx'.drop (i :: is).length)⟩ (some d) (r.mapTop (outLeaf (64 * (d + 1)) (i :: is) (σ.map (freezeLeaf fun t => L.contains t)).boxes.length)))) : CallU P f args d σ K := by
 unfold CallU
 rw [hi]
 exact .inr (.inr (.inr ⟨hf, _, args0, fun _ _ _ => leC_pw hle, hc.1, hc.2.1, hc.2.2.1, hc.2.2.2.1, bx0, hb, hc.2.2.2.2, by rw [ha, hbx]; exact hcon.mono hk⟩))
attribute [go_sem] inX okX
attribute [go_sem] viewV viewCap allFzV
attribute [go_sem] giveLeaf giveOf lookG posG
theorem CallY.mk {f : FuncId} {args args' : List AV} {r : AV} {σ : St} (hcon : Con P f args' [] fun r' _ => r' = r) (ha : mapTops viewLeaf args = args') (hr : r.allLeaf lt64 = true) (ht : tagss args = [] ∨ r.allLeaf flatLeaf = true) (hk : K (σ.put (some d) (r.shift (64 * (d + 1))))) : CallY P f args d σ K := by
 have : args.map AV.view = args' := by rw [← ha, mapTops_eq]; rfl
 exact ⟨r, by rw [this]; exact hcon, hr, ht, hk⟩
attribute [go_sem] pbIn outLeaf lt64b getAll setAll nodupB allNoTags pbss AV.pbs dedup freeAll
attribute [go_sem] List.take_zero List.drop_zero List.drop_succ_cons List.drop_nil List.contains_cons List.contains_nil List.nil_append List.cons_append List.set_cons_zero List.set_cons_succ List.map_map
@[go_sem] theorem modify_one {α : Type} (x : α) (f : α → α) : [x].modify 0 f = [f x] := rfl
attribute [go_sem] copyLeaf mvLeaf
end
end Go.AM
