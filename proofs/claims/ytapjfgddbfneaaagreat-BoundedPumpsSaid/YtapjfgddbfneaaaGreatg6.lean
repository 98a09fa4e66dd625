/- AmU Am2 Am1 AmW AmZ Am0 Am4 LInv CmA CmB0 Ty LCand CmD CmE CmF CmG CmH -/
import Derived.Test.YtapjfgddbfneaaaGreatg5
import Derived.Test.YtapjfgddbfneaaaGreatg3
import Derived.Shelf.Sort.Plain
import Derived.Shelf.Slices.CompactI
import Derived.Maps.Views
import Derived.Test.YtapjfgddbfneaaaGreatRows
import Derived.Test.YtapjfgddbfneaaaGreatProg
namespace Go.AM
open Go.RowKit
section
variable {P : Program} {ops : Array Oper}
theorem exec_congr {ρ ρ' : Operand -> Value} {o : Oper} (hs : ∀ cs b, o.op ≠ .select cs b) (h : ∀ x ∈ o.op.operands, ρ x = ρ' x) : execOp ρ o = execOp ρ' o := by
 obtain ⟨d, op, T, pos, af, g⟩ := o
 have hm : ∀ {l : Array Operand}, (∀ x ∈ l, ρ x = ρ' x) -> l.map ρ = l.map ρ' := fun h => Array.map_congr_left h
 have hr : ∀ {c : Call}, (∀ x ∈ c.operands, ρ x = ρ' x) -> resolve ρ c T = resolve ρ' c T := by
  intro c hc
  obtain ⟨cl, args, As⟩ := c
  have ha : args.map ρ = args.map ρ' := hm fun x hx => hc x (by simp [Call.operands, hx])
  cases cl with
  | value f => simp only [resolve, ha, hc f (by simp [Call.operands])]
  | invoke r nm => simp only [resolve, ha, hc r (by simp [Call.operands])]
  | builtin b => simp only [resolve, ha]
 have hp : ∀ {ps : Array (Nat × Operand)}, (∀ x ∈ (ps.toList.map (·.2)).toArray, ρ x = ρ' x) -> (ps.map fun (i, x) => (i, ρ x)) = ps.map fun (i, x) => (i, ρ' x) := by
  intro ps h
  refine Array.map_congr_left fun p hp => ?_
  obtain ⟨i, x⟩ := p
  have e := h x (by simp only [List.mem_toArray, List.mem_map, Array.mem_toList_iff]; exact ⟨(i, x), hp, rfl⟩)
  simp only [e]
 have ho : ∀ {x : Option Operand}, (∀ y ∈ x, ρ y = ρ' y) -> x.map ρ = x.map ρ' := by
  intro x h; cases x with
  | none => rfl
  | some y => simp [h y rfl]
 cases op with
 | alloc | ready | waits => rfl
 | build _ ps => simp only [execOp]; rw [hp (ps := ps) h]
 | buildSlice _ _ ps => simp only [execOp]; rw [hp (ps := ps) h]
 | makeFunc fn f c =>
  simp only [Op.operands, Array.mem_append] at h
  simp only [execOp]; rw [hm (l := f) fun x hx => h x (.inl hx), hm (l := c) fun x hx => h x (.inr hx)]
 | makeMap t r =>
  simp only [execOp]; rw [ho (x := r) fun y hy => h y (by simp [Op.operands]; exact hy)]
 | slice t x l h' m =>
  simp only [execOp]
  rw [h x (by simp [Op.operands]), ho (x := l) fun y hy => h y (by simp [Op.operands]; exact .inr (.inl hy)), ho (x := h') fun y hy => h y (by simp [Op.operands]; exact .inr (.inr (.inl hy))), ho (x := m) fun y hy => h y (by simp [Op.operands]; exact .inr (.inr (.inr hy)))]
 | call c => simp only [execOp]; rw [hr (c := c) h]
 | go c => simp only [execOp]; rw [hr (c := c) h]
 | defer c => simp only [execOp]; rw [hr (c := c) h]
 | select cs b => exact absurd rfl (hs cs b)
 | _ => simp [Op.operands] at h <;> simp [execOp, h]
theorem eval_put {a : Act} {d : Nat} {v : Value} {x : Operand} (h : x ≠ .tmp d) : (a.put (some d) v).eval x = a.eval x := by
 cases x with
 | tmp s =>
  have : d ≠ s := fun h' => h (by rw [h'])
  simp [Act.eval, Act.put, Array.getElem?_setIfInBounds_ne this]
 | _ => rfl
theorem put_put {a : Act} {d : Nat} {o : Option Tmp} {v x : Value} (h : o ≠ some d) : (a.put (some d) v).put o x = (a.put o x).put (some d) v := by
 cases o with
 | none => rfl
 | some e =>
  have : d ≠ e := fun h' => h (by rw [h'])
  simp only [Act.put]
  rw [Array.setIfInBounds_comm _ _ this]
structure Front (ops : Array Oper) (j : Nat) (p : Oper) (d : Nat) : Prop where
 here : ops[j]? = some p
 guard : p.guard = none
 dst : p.dst = some d
 sel : ∀ cs b, p.op ≠ .select cs b
 other : ∀ i o, ops[i]? = some o -> i ≠ j -> (∀ cs b, o.op ≠ .select cs b) /\ o.dst ≠ some d /\ (d ∈ slotsOf o -> reach ops ops.size i j = true) /\ (∀ s, o.dst = some s -> s ∈ slotsOf p -> reach ops ops.size j i = true \/ reach ops ops.size i j = true) /\ (∀ g b, o.guard = some (g, b) -> guardSlot ops g ≠ some d)
theorem mem_slots {o : Oper} {s : Nat} (h : Operand.tmp s ∈ o.op.operands) : s ∈ slotsOf o := by
 unfold slotsOf
 exact List.mem_filterMap.2 ⟨.tmp s, by simpa using h, rfl⟩
theorem wanted_put {o : Oper} {a : Act} {d : Nat} {v : Value} (h : ∀ g b, o.guard = some (g, b) -> guardSlot ops g ≠ some d) : Region.wanted o (yielded ops (a.put (some d) v).tmps) = Region.wanted o (yielded ops a.tmps) := by
 unfold Region.wanted
 cases hg : o.guard with
 | none => rfl
 | some p =>
  obtain ⟨g, b⟩ := p
  have := h g b hg
  have e : yielded ops (a.put (some d) v).tmps g = yielded ops a.tmps g := by
   unfold guardSlot at this
   unfold yielded
   cases hs : (ops[g]?).bind (·.dst) with
   | none => rfl
   | some s =>
    rw [hs] at this
    have hds : d ≠ s := fun h' => this (by rw [h'])
    simp only [Act.put, Option.bind_some, Array.getElem?_setIfInBounds_ne hds]
  simp [e]
theorem wpOp_swap {Q : Exit -> Act -> World -> Prop} (hQ : ∀ e a w, e ≠ .normal -> ¬ Q e a w) {i d : Nat} {o : Oper} {a : Act} {w : World} {v : Value} {K K' : Act -> World -> Prop}
  (ho : ops[i]? = some o) (hs : ∀ cs b, o.op ≠ .select cs b) (hd : o.dst ≠ some d) (hr : d ∉ slotsOf o) (hg : ∀ g b, o.guard = some (g, b) -> guardSlot ops g ≠ some d)
  (hK : ∀ ds x w', K (({ a with defers := ds } : Act).put o.dst x |>.put (some d) v) w' -> K' (({ a with defers := ds } : Act).put o.dst x) w')
  (h : Go.wpOp P ops Q i K (a.put (some d) v) w) : Go.wpOp P ops Q i K' a w := by
 have he : execOp (a.put (some d) v).eval o = execOp a.eval o := exec_congr hs fun x hx => eval_put fun hxd => hr (mem_slots (by rw [<- hxd]; exact hx))
 have hout : ¬ LetsOut Q := fun ⟨a, w, h⟩ => hQ _ _ _ (by simp) h
 have hk : ∀ x w', K ((a.put (some d) v).put o.dst x) w' -> K' (a.put o.dst x) w' := fun x w' h => hK a.defers x w' (by rw [put_put hd] at h; exact h)
 simp only [Go.wpOp, ho, wanted_put hg] at h ⊢
 split
 ·rename_i hw
  simp only [hw, if_true] at h
  rcases h with h | ⟨_, h⟩
  ·refine .inl ?_
   simp only [Oper.wp, he] at h ⊢
   generalize (execOp a.eval o).run P w = r at *
   cases r with
   | ok n w' =>
    cases n <;> simp only [Oper.upon] at h ⊢
    case value => exact hk _ _ h
    case skip => exact hk _ _ h
    case defer D =>
     refine hK (D :: a.defers) _ _ ?_
     have : ({ (a.put (some d) v) with defers := D :: (a.put (some d) v).defers } : Act) = ({ a with defers := D :: a.defers } : Act).put (some d) v := rfl
     rw [this, put_put hd] at h; exact h
    case enter =>
     refine Calls.mono h fun e w'' h => ?_
     rcases e with _ | _ | _
     ·exact hk _ _ h
     ·exact absurd h (hQ _ _ _ (by simp))
     ·exact absurd h hout
    case row => exact Rows.mono h fun _ _ h => hk _ _ h
   | halt x w' =>
    cases x <;> simp only [Oper.upon] at h ⊢
    exact absurd h (hQ _ _ _ (by simp))
  ·exact absurd h hout
 ·rename_i hw
  simp only [hw] at h
  exact hk _ _ h
theorem front_run {Q : Exit -> Act -> World -> Prop} (hQ : ∀ e a w, e ≠ .normal -> ¬ Q e a w) {j d : Nat} {p : Oper} (hf : Front ops j p d) :
  ∀ (fuel : Nat) (listed : Array Bool) (a : Act) (w : World) (v : Value), listed.size = ops.size -> Closed ops (fun k => listed.getD k false) -> j ∈ Region.ready .any ops listed ->
   (∀ w', (execOp a.eval p).run P w' = .ok (.value v) w') -> wpAny P .any ops Q fuel (listed.setIfInBounds j true) (a.put (some d) v) w -> wpAny P .any ops Q (fuel + 1) listed a w := by
 intro fuel
 have key : ∀ {listed : Array Bool} {i : Nat}, listed.size = ops.size -> i ∈ Region.ready .any ops listed -> j ∈ Region.ready .any ops listed -> i ≠ j -> i ∈ Region.ready .any ops (listed.setIfInBounds j true) := by
  intro listed i hsz hi hj hij
  obtain ⟨o, ho, h1, h2⟩ := (ready_iff hsz).1 hi
  obtain ⟨p', hp', _⟩ := (ready_iff hsz).1 hj
  have hjl : j < listed.size := by rw [hsz]; exact (Array.getElem?_eq_some_iff.1 hp').1
  refine (ready_iff (by simpa using hsz)).2 ⟨o, ho, ?_, fun k hk => ?_⟩
  ·rw [set_getD hjl, if_neg (Ne.symm hij)]; exact h1
  ·rw [set_getD hjl]; split
   ·rfl
   ·exact h2 k hk
 have first : ∀ (fuel : Nat) (listed : Array Bool) (a : Act) (w : World) (v : Value), (∀ w', (execOp a.eval p).run P w' = .ok (.value v) w') -> wpAny P .any ops Q fuel (listed.setIfInBounds j true) (a.put (some d) v) w ->
   Go.wpOp P ops Q j (wpAny P .any ops Q fuel (listed.setIfInBounds j true)) a w := by
  intro fuel listed a w v hex h
  simp only [Go.wpOp, hf.here]
  rw [if_pos (by simp [Region.wanted, hf.guard])]
  refine .inl ?_
  simp only [Oper.wp, hex w, Oper.upon, hf.dst]
  exact h
 induction fuel with
 | zero =>
  intro listed a w v hsz hc hj hex h
  refine ⟨fun hr => absurd hj (by rw [hr]; simp), fun i hi => ?_⟩
  by_cases hij : i = j
  ·subst hij; exact first 0 listed a w v hex h
  ·exact absurd (key hsz hi hj hij) (by rw [h.1]; simp)
 | succ fuel ih =>
  intro listed a w v hsz hc hj hex h
  refine ⟨fun hr => absurd hj (by rw [hr]; simp), fun i hi => ?_⟩
  by_cases hij : i = j
  ·subst hij; exact first (fuel + 1) listed a w v hex h
  ·obtain ⟨o, ho, h1, h2⟩ := (ready_iff hsz).1 hi
   obtain ⟨p', hp', k1, k2⟩ := (ready_iff hsz).1 hj
   rw [hf.here] at hp'; cases hp'
   have hjl : j < listed.size := by rw [hsz]; exact (Array.getElem?_eq_some_iff.1 hf.here).1
   have hil : i < listed.size := by rw [hsz]; exact (Array.getElem?_eq_some_iff.1 ho).1
   obtain ⟨s1, s2, s3, s4, s5⟩ := hf.other i o ho hij
   have hr : d ∉ slotsOf o := fun hm => by
    have := reach_listed hc ops.size i j o ho h2 (s3 hm)
    rw [k1] at this; cases this
   have hr' : ∀ s, o.dst = some s -> s ∉ slotsOf p := fun s hs hm => by
    rcases s4 s hs hm with s4 | s4
    ·have := reach_listed hc ops.size j i p hf.here k2 s4
     rw [h1] at this; cases this
    ·have := reach_listed hc ops.size i j o ho h2 s4
     rw [k1] at this; cases this
   refine wpOp_swap hQ ho s1 s2 hr s5 (fun ds x w' hk => ?_) (h.2 i (key hsz hi hj hij))
   rw [Array.setIfInBounds_comm _ _ (Ne.symm hij)] at hk
   refine ih _ _ _ v (by simpa using hsz) (hc.step hil ho h2) ((ready_iff (by simpa using hsz)).2 ⟨p, hf.here, by rw [set_getD hil, if_neg hij]; exact k1, fun k hk' => ?_⟩) (fun w' => ?_) hk
   ·rw [set_getD hil]; split
    ·rfl
    ·exact k2 k hk'
   ·rw [<- hex w']
    congr 1
    refine exec_congr hf.sel fun x hx => ?_
    cases hod : o.dst with
    | none => cases x <;> rfl
    | some e =>
     rw [eval_put (fun hxe => hr' e hod (mem_slots (by rw [<- hxe]; exact hx)))]
     cases x <;> rfl
def isSlice : AV -> Bool
 | .sl _ _ _ => true
 | .so _ _ => true
 | _ => false
def frontV (P : Program) (op : Op) (σ : St) (K : AV -> Prop) : Prop :=
 match op with
 | .move x => K (σ.ev x)
 | .indexAddr T x i => isSlice (σ.ev x) = true /\ evIndexAddr P T (σ.ev x) (σ.ev i) K
 | _ => False
theorem frontV_sound {p : Oper} {σ : St} {K : AV -> Prop} (h : frontV P p.op σ K) :
  ∃ y, K y /\ ∀ (G : Nat -> Status) (a : Act) (w : World), Good G w -> (∀ x, VRel G w (σ.ev x) (a.eval x)) -> ∃ v, VRel G w y v /\ ∀ w', (execOp a.eval p).run P w' = .ok (.value v) w' := by
 unfold frontV at h
 split at h
 ·rename_i x ho
  exact ⟨_, h, fun G a w _ hv => ⟨_, hv x, fun w' => by simp [execOp, ho]⟩⟩
 ·rename_i T x i ho
  obtain ⟨hsl, h⟩ := h
  unfold evIndexAddr at h
  split at h
  ·rename_i k n hi
   split at h
   ·rename_i E t es xs hT hx
    obtain ⟨⟨⟨sz, by_, z⟩, hq, rfl⟩, h0, h1, hK⟩ := h
    refine ⟨_, hK, fun G a w hg hv => ?_⟩
    have hu := hv i; rw [hi] at hu
    have hu := hu.sc_inv
    have hv' := hv x; rw [hx] at hv'
    obtain ⟨ao, c, hvx, h2, h3, _, h4⟩ := hv'.sl_inv
    rcases h4 with rfl | ⟨b, off, vals, rfl, hs⟩
    ·simp at h1; omega
    ·refine ⟨.pointer (some ⟨b, off + n.toNat * sz + 0, none⟩), .pe _ _ _ _ _ _ _ c (by rw [hvx] at hv'; exact hv') (by omega), fun w' => ?_⟩
     simp [execOp, ho, hvx, hu, Instr.indexAt, asIntOf, run_underlying hT, h0, h1, run_sizeOf hq, Addr.add_none]
   ·rename_i E t xs hT hx
    obtain ⟨⟨⟨sz, by_, z⟩, hq, rfl⟩, h0, h1, hK⟩ := h
    refine ⟨_, hK, fun G a w hg hv => ?_⟩
    have hu := hv i; rw [hi] at hu
    have hu := hu.sc_inv
    have hv' := hv x; rw [hx] at hv'
    obtain ⟨ao, c, hvx, h3, _, h4⟩ := hv'.so_inv
    rcases h4 with rfl | ⟨b, vals, rfl, hs⟩
    ·simp at h1; omega
    ·refine ⟨.pointer (some ⟨b, 0 + n.toNat, none⟩), .po _ _ _ _ _ c (by rw [hvx] at hv'; exact hv') (by omega), fun w' => ?_⟩
     simp [execOp, ho, hvx, hu, Instr.indexAt, asIntOf, run_underlying hT, h0, h1, run_sizeOf hq, Addr.add_none]
   ·rename_i hx
    rw [hx] at hsl; simp [isSlice] at hsl
   ·rename_i len E hT
    exfalso
    obtain ⟨hp, _⟩ := h
    generalize σ.ev x = y at hsl hp
    cases y <;> simp [isSlice, isPtr] at hsl hp
   ·exact h.elim
  ·exact h.elim
 ·exact h.elim
structure PlanX (ops : Array Oper) (F : List Nat) (m : Nat) : Prop where
 le : m <= ops.size
 lt : ∀ i o, ops[i]? = some o -> ∀ k ∈ edges o, k < i
 head : ∀ i o, ops[i]? = some o -> i < m -> F.contains i = false -> o.guard = none /\ ∃ d, o.dst = some d /\ d ∉ slotsOf o /\ ∀ j p s, j < m -> j ≠ i -> ops[j]? = some p -> p.dst = some s -> s ≠ d /\ (s ∈ slotsOf o -> if j < i then reach ops ops.size i j = true else reach ops ops.size j i = true)
 tail : ∀ i o, ops[i]? = some o -> m <= i -> F.contains i = false -> ∀ j, j < i -> F.contains j = false -> reach ops ops.size i j = true
 front : ∀ i o, ops[i]? = some o -> F.contains i = true -> ∃ d, Front ops i o d
def walkT (P : Program) (ops : Array Oper) (F : List Nat) : Nat -> List Oper -> St -> (St -> Prop) -> Prop
 | _, [], σ, K => K σ
 | k, o :: l, σ, K => if F.contains k = true then walkT P ops F (k + 1) l σ K else opsA P ops [o] σ fun σ' => walkT P ops F (k + 1) l σ' K
theorem tail_runX {F : List Nat} {m : Nat} {G0 : Orig} {w0 : World} {K : St -> Prop} {Q : Exit -> Act -> World -> Prop} (hp : PlanX ops F m) (h0 : True) (hQ : ∀ σ' G' a' w', K σ' -> SRel G0 w0 σ' G' a' w' -> Q .normal a' w') :
  ∀ (r fuel k : Nat) (listed : Array Bool) (U : List Nat) (σ : St) (G : Nat -> Status) (a : Act) (w : World), k + r = ops.size -> Left ops listed U -> U.length = fuel -> m <= k -> (∀ i, i < ops.size -> (listed.getD i false = true ↔ i < k \/ F.contains i = true)) ->
   Closed ops (fun k => listed.getD k false) -> walkT P ops F k (ops.toList.drop k) σ K -> SRel G0 w0 σ G a w -> wpAny P .any ops Q fuel listed a w := by
 intro r
 induction r with
 | zero =>
  intro fuel k listed U σ G a w hkr hl hU hmk hk hc hw h
  have hUn : U = [] := by
   apply List.eq_nil_iff_forall_not_mem.2
   intro i hi
   obtain ⟨h1, h2⟩ := (hl.mem i).1 hi
   have := (hk i h1).2 (.inl (by omega))
   rw [h2] at this; cases this
  subst hUn
  simp at hU; subst hU
  have hkk : k = ops.size := by omega
  subst hkk
  refine ⟨?_, ?_⟩
  ·apply List.eq_nil_iff_forall_not_mem.2
   intro i hi
   obtain ⟨o, ho, h1, _⟩ := (ready_iff hl.size).1 hi
   have := (hl.mem i).2 ⟨(Array.getElem?_eq_some_iff.1 ho).1, h1⟩
   simp at this
  ·have hd : ops.toList.drop ops.size = [] := by simp
   rw [hd] at hw
   exact hQ σ G a w hw h
 | succ r ih =>
  intro fuel k listed U σ G a w hkr hl hU hmk hk hc hw h
  have hltk : k < ops.size := by omega
  obtain ⟨ok, hok⟩ : ∃ o, ops[k]? = some o := ⟨ops[k], by simp [hltk]⟩
  have hdrop : ops.toList.drop k = ok :: ops.toList.drop (k + 1) := by
   have hlt' : k < ops.toList.length := by simpa using hltk
   rw [List.drop_eq_getElem_cons hlt']
   have : ops.toList[k] = ok := by
    have := Array.getElem?_eq_some_iff.1 hok
    simpa using this.2
   rw [this]
  rw [hdrop] at hw
  simp only [walkT] at hw
  split at hw
  ·rename_i hF
   refine ih fuel (k + 1) listed U σ G a w (by omega) hl hU (by omega) (fun i hi => ?_) hc hw h
   rw [hk i hi]
   constructor
   ·rintro (h | h)
    ·exact .inl (by omega)
    ·exact .inr h
   ·rintro (h | h)
    ·by_cases hik : i = k
     ·subst hik; exact .inr hF
     ·exact .inl (by omega)
    ·exact .inr h
  ·rename_i hF
   have hF' : F.contains k = false := by simpa using hF
   have hkf : listed.getD k false = false := by
    cases hb : listed.getD k false
    ·rfl
    ·rcases (hk k hltk).1 hb with h | h
     ·omega
     ·rw [hF'] at h; cases h
   have hmem : k ∈ U := (hl.mem k).2 ⟨hltk, hkf⟩
   have hUn : U ≠ [] := by intro h; rw [h] at hmem; simp at hmem
   obtain ⟨l1, l2⟩ := hl.step hmem
   obtain ⟨f, rfl⟩ : ∃ f, fuel = f + 1 := ⟨fuel - 1, by omega⟩
   refine ⟨fun hr => absurd hr (some_ready hl hp.lt hUn), fun i hi => ?_⟩
   obtain ⟨o, ho, h1, h2⟩ := (ready_iff hl.size).1 hi
   have hlt := (Array.getElem?_eq_some_iff.1 ho).1
   have hni : ¬ (i < k \/ F.contains i = true) := fun h => by have := (hk i hlt).2 h; rw [h1] at this; cases this
   have hiF : F.contains i = false := by
    cases hb : F.contains i
    ·rfl
    ·exact absurd (.inr hb) hni
   have hik : i = k := by
    apply Classical.byContradiction
    intro hne
    have hlk : k < i := by
     have : ¬ i < k := fun h => hni (.inl h)
     omega
    have := reach_listed hc ops.size i k o ho h2 (hp.tail i o ho (by omega) hiF k hlk hF')
    rw [hkf] at this; cases this
   subst hik
   obtain rfl : o = ok := by rw [ho] at hok; exact Option.some.inj hok
   have hsz : i < listed.size := by rw [hl.size]; exact hlt
   have hk' : ∀ j, j < ops.size -> ((listed.setIfInBounds i true).getD j false = true ↔ j < i + 1 \/ F.contains j = true) := fun j hj => by
    rw [set_getD hsz]
    by_cases hij : i = j
    ·subst hij; simp
    ·rw [if_neg hij, hk j hj]
     constructor
     ·rintro (h | h)
      ·exact .inl (by omega)
      ·exact .inr h
     ·rintro (h | h)
      ·exact .inl (by omega)
      ·exact .inr h
   have hcont : ∀ {σ' G' a' w'}, walkT P ops F (i + 1) (ops.toList.drop (i + 1)) σ' K -> SRel G0 w0 σ' G' a' w' -> wpAny P .any ops Q f (listed.setIfInBounds i true) a' w' := fun hk2 hs2 =>
    ih f (i + 1) _ _ _ _ _ _ (by omega) l1 (by omega) (by omega) hk' (hc.step hsz ho h2) hk2 hs2
   simp only [opsA] at hw
   simp only [Go.wpOp, ho]
   have run : ∀ {σ}, AM.wpOp P o σ (fun σ' => walkT P ops F (i + 1) (ops.toList.drop (i + 1)) σ' K) -> SRel G0 w0 σ G a w -> o.wp P a w (wpAny P .any ops Q f (listed.setIfInBounds i true)) Q := fun hw h =>
    wpOp_sound hw h h0 _ _ fun σ' G' a' w' hk hs => hcont hk hs
   cases hg : o.guard with
   | none =>
    simp only [hg] at hw
    rw [if_pos (by simp [Region.wanted, hg])]
    exact .inl (run hw h)
   | some p =>
    obtain ⟨j, want⟩ := p
    simp only [hg] at hw
    cases hgs : guardSlot ops j with
    | none => simp [hgs] at hw
    | some g =>
     simp only [hgs] at hw
     split at hw
     ·rename_i b hb
      have hv := h.slots g
      rw [hb] at hv
      have hy := yielded_bool hgs hv.sc_inv
      by_cases hbw : b = want
      ·subst hbw
       rw [if_pos (by simp [Region.wanted, hg, hy])]
       exact .inl (run (hw.1 rfl) (h.same hb))
      ·rw [if_neg (by simp [Region.wanted, hg, hy, hbw])]
       have hbn : b = !want := by cases b <;> cases want <;> simp_all
       obtain ⟨hdst, hw⟩ := hw.2 hbn
       have hs := (h.same (g := g) (x := .sc (.bool (!want))) (by rw [hb, hbn])).add (.refl G w) h.good (fun _ _ h => h) (d := o.dst) (x := .sc undef) (v := undef) (by rw [put_n]; exact hdst) (.froz (.sc _))
       exact hcont hw hs
     ·rename_i vs hb
      have hv := h.slots g
      rw [hb] at hv
      have hy := yielded_none hgs hv.sc_inv
      rw [if_neg (by simp [Region.wanted, hg, hy])]
      obtain ⟨hdst, hw⟩ := hw
      have hs := h.add (.refl G w) h.good (fun _ _ h => h) (d := o.dst) (x := .sc undef) (v := undef) hdst (.froz (.sc _))
      exact hcont hw hs
     ·exact hw.elim
theorem head_runX {F : List Nat} {m : Nat} {G0 : Orig} {w0 : World} {σ : St} {K : St -> Prop} {Q : Exit -> Act -> World -> Prop} {vs : List (Nat × AV)} (hp : PlanX ops F m) (h0 : True) (hQ : ∀ σ' G' a' w', K σ' -> SRel G0 w0 σ' G' a' w' -> Q .normal a' w') (hvl : vs.length = m) (hap : Apart vs)
  (hK : walkT P ops F m (ops.toList.drop m) (puts σ vs) K)
  (hst : ∀ i o, i < m -> ops[i]? = some o -> ∃ d y, vs[i]? = some (d, y) /\ o.dst = some d /\ d < σ.n /\ (F.contains i = false -> StepOk P o d (puts σ (vs.take i)).ev σ.boxes y)) :
  ∀ (fuel : Nat) (listed : Array Bool) (U : List Nat) (τ : St) (G : Nat -> Status) (a : Act) (w : World), Left ops listed U -> U.length = fuel -> (∀ i, i < ops.size -> m <= i -> (listed.getD i false = true ↔ F.contains i = true)) -> (∀ i, i < ops.size -> F.contains i = true -> listed.getD i false = true) ->
   Closed ops (fun k => listed.getD k false) -> At vs (fun i => listed.getD i false) σ τ -> SRel G0 w0 τ G a w ->
   (∀ i o d, ops[i]? = some o -> i < m -> o.dst = some d -> creates o.op = true -> listed.getD i false = false -> Fresh d G) -> wpAny P .any ops Q fuel listed a w := by
 intro fuel
 induction fuel with
 | zero =>
  intro listed U τ G a w hl hU hm hF hc hat h hfr
  have hUn : U = [] := List.eq_nil_of_length_eq_zero hU
  subst hUn
  have hall : ∀ i, i < ops.size -> listed.getD i false = true := fun i hi => by
   cases hb : listed.getD i false
   ·have := (hl.mem i).2 ⟨hi, hb⟩; simp at this
   ·rfl
  have heq : SRel G0 w0 (puts σ vs) G a w := by
   have hpa := puts_at m vs σ hap
   rw [List.take_of_length_le (by omega)] at hpa
   refine h.slotsEq (by rw [hpa.n, hat.n]) (by rw [hpa.boxes, hat.boxes]) fun s => ?_
   by_cases hs : ∀ (i d : Nat) (y : AV), vs[i]? = some (d, y) -> d ≠ s
   ·rw [hpa.rest s hs, hat.rest s hs]
   ·have : ∃ (i : Nat) (y : AV), vs[i]? = some (s, y) := by
     apply Classical.byContradiction
     intro hcon
     exact hs fun i d y hi hds => hcon ⟨i, y, by rw [<- hds]; exact hi⟩
    obtain ⟨i, y, hi⟩ := this
    have hil : i < m := by rw [<- hvl]; exact (List.getElem?_eq_some_iff.1 hi).1
    rw [hpa.dst i s y hi, hat.dst i s y hi]
    simp [hil, hall i (by have := hp.le; omega)]
  refine tail_runX (P := P) hp h0 hQ (ops.size - m) 0 m listed [] (puts σ vs) G a w (by have := hp.le; omega) hl rfl (Nat.le_refl m) (fun i hi => ⟨fun hb => ?_, fun _ => hall i hi⟩) hc hK heq
  by_cases him : i < m
  ·exact .inl him
  ·exact .inr ((hm i hi (by omega)).1 hb)
 | succ fuel ih =>
  intro listed U τ G a w hl hU hm hF hc hat h hfr
  have hUn : U ≠ [] := by intro h; rw [h] at hU; simp at hU
  by_cases hdone : ∀ i, i < m -> listed.getD i false = true
  ·have heq : SRel G0 w0 (puts σ vs) G a w := by
    have hpa := puts_at m vs σ hap
    rw [List.take_of_length_le (by omega)] at hpa
    refine h.slotsEq (by rw [hpa.n, hat.n]) (by rw [hpa.boxes, hat.boxes]) fun s => ?_
    by_cases hs : ∀ (i d : Nat) (y : AV), vs[i]? = some (d, y) -> d ≠ s
    ·rw [hpa.rest s hs, hat.rest s hs]
    ·have : ∃ (i : Nat) (y : AV), vs[i]? = some (s, y) := by
      apply Classical.byContradiction
      intro hcon
      exact hs fun i d y hi hds => hcon ⟨i, y, by rw [<- hds]; exact hi⟩
     obtain ⟨i, y, hi⟩ := this
     have hil : i < m := by rw [<- hvl]; exact (List.getElem?_eq_some_iff.1 hi).1
     rw [hpa.dst i s y hi, hat.dst i s y hi]
     simp [hil, hdone i hil]
   refine tail_runX (P := P) hp h0 hQ (ops.size - m) (fuel + 1) m listed U (puts σ vs) G a w (by have := hp.le; omega) hl hU (Nat.le_refl m) (fun i hi => ⟨fun hb => ?_, fun hor => ?_⟩) hc hK heq
   ·by_cases him : i < m
    ·exact .inl him
    ·exact .inr ((hm i hi (by omega)).1 hb)
   ·rcases hor with hor | hor
    ·exact hdone i hor
    ·exact hF i hi hor
  ·refine ⟨fun hr => absurd hr (some_ready hl hp.lt hUn), fun i hi => ?_⟩
   obtain ⟨o, ho, h1, h2⟩ := (ready_iff hl.size).1 hi
   have hlt := (Array.getElem?_eq_some_iff.1 ho).1
   have hiF : F.contains i = false := by
    cases hb : F.contains i
    ·rfl
    ·have := hF i hlt hb; rw [h1] at this; cases this
   have him : i < m := by
    apply Classical.byContradiction
    intro hge
    refine hdone fun j hj => ?_
    cases hjF : F.contains j
    ·exact reach_listed hc ops.size i j o ho h2 (hp.tail i o ho (by omega) hiF j (by omega) hjF)
    ·exact hF j (by have := hp.le; omega) hjF
   obtain ⟨d, y, hv, hd, hdn, hstep⟩ := hst i o him ho
   have hstep := hstep hiF
   obtain ⟨hg, d', hd', hself, hpair⟩ := hp.head i o ho him hiF
   rw [hd] at hd'; cases hd'
   have hmem : i ∈ U := (hl.mem i).2 ⟨hlt, h1⟩
   obtain ⟨l1, l2⟩ := hl.step hmem
   have hsz : i < listed.size := by rw [hl.size]; exact hlt
   have hops : ∀ x ∈ o.op.operands, VRel G w ((puts σ (vs.take i)).ev x) (a.eval x) := by
    intro x hx
    have hrel := h.ev x
    suffices (puts σ (vs.take i)).ev x = τ.ev x by rw [this]; exact hrel
    cases x with
    | tmp s =>
     simp only [St.ev]
     have hpa := puts_at i vs σ hap
     have hsm : s ∈ slotsOf o := by
      unfold slotsOf
      exact List.mem_filterMap.2 ⟨.tmp s, by simpa using hx, rfl⟩
     by_cases hs : ∀ (i d : Nat) (y : AV), vs[i]? = some (d, y) -> d ≠ s
     ·rw [hpa.rest s hs, hat.rest s hs]
     ·have : ∃ (j : Nat) (y : AV), vs[j]? = some (s, y) := by
       apply Classical.byContradiction
       intro hcon
       exact hs fun i d y hi hds => hcon ⟨i, y, by rw [<- hds]; exact hi⟩
      obtain ⟨j, y', hj⟩ := this
      have hjl : j < m := by rw [<- hvl]; exact (List.getElem?_eq_some_iff.1 hj).1
      obtain ⟨p, hpj⟩ : ∃ p, ops[j]? = some p := ⟨ops[j]'(by have := hp.le; omega), by have := hp.le; simp [show j < ops.size by omega]⟩
      obtain ⟨d'', y'', hv'', hds'', _⟩ := hst j p hjl hpj
      rw [hj] at hv''; cases hv''
      have hji : j ≠ i := fun hji => by subst hji; rw [hv] at hj; cases hj; exact hself hsm
      have hre := (hpair j p s hjl hji hpj hds'').2 hsm
      rw [hpa.dst j s y' hj, hat.dst j s y' hj]
      by_cases hjlt : j < i
      ·rw [if_pos hjlt] at hre
       have := reach_listed hc ops.size i j o ho h2 hre
       simp [hjlt, this]
      ·rw [if_neg hjlt] at hre
       have hjf : listed.getD j false = false := by
        cases hb : listed.getD j false
        ·rfl
        ·have := reach_listed hc ops.size j i p hpj (fun k hk => hc j p hpj hb k hk) hre
         rw [h1] at this; cases this
       simp [hjlt, hjf]
    | const v => rfl
    | func f => rfl
    | global g => rfl
   simp only [Go.wpOp, ho]
   rw [if_pos (by simp [Region.wanted, hg])]
   refine .inl (hstep _ G a w h.good (by rw [<- hat.boxes]; exact h.boxes) (fun hcr => hfr i o d ho him hd hcr h1) hops _ _ fun v w' G' g1 g2 g3 g4 => ?_)
   have hs' : SRel G0 w0 (τ.put (some d) y) G' (a.put o.dst v) w' := by
    rw [hd]
    exact h.add g2 g3 g4.boxes (by simp [dstOk, hat.n, hdn]) g1
   refine ih _ _ _ G' _ _ l1 (by omega) (fun j hjs hj => ?_) (fun j hjs hj => ?_) (hc.step hsz ho h2) (hat.step hap hv (fun j hj => ?_) ?_) hs' (fun j oj dj hoj hjm hdj hcr hjf => ?_)
   ·rw [set_getD hsz, if_neg (by omega)]; exact hm j hjs hj
   ·rw [set_getD hsz]; split
    ·rfl
    ·exact hF j hjs hj
   ·simp only [set_getD hsz]; rw [if_neg (Ne.symm hj)]
   ·simp only [set_getD hsz]; simp
   ·rw [set_getD hsz] at hjf
    by_cases hij : i = j
    ·rw [if_pos hij] at hjf; cases hjf
    ·rw [if_neg hij] at hjf
     have hne := (hpair j oj dj hjm (Ne.symm hij) hoj hdj).1
     exact g4.fresh (Ne.symm hne) (hfr j oj dj hoj hjm hdj hcr hjf)
def walkX (P : Program) (ops : Array Oper) (F : List Nat) (m : Nat) : Nat -> List Oper -> St -> (St -> Prop) -> Prop
 | k, [], σ, K => walkT P ops F k [] σ K
 | k, o :: l, σ, K => if k < m then
   (if F.contains k = true then match o.dst with
    | some d => d < σ.n /\ walkX P ops F m (k + 1) l (σ.put (some d) (σ.ev (.tmp d))) K
    | none => False
   else headOp P o σ fun σ' => walkX P ops F m (k + 1) l σ' K)
  else walkT P ops F k (o :: l) σ K
theorem walkX_vals {F : List Nat} {m : Nat} {K : St -> Prop} : ∀ (l : List Oper) (k : Nat) (σ : St), k <= m -> m <= k + l.length -> walkX P ops F m k l σ K -> ∃ vs : List (Nat × AV), vs.length = m - k /\ walkT P ops F m (l.drop (m - k)) (puts σ vs) K /\
  ∀ i o, k + i < m -> l[i]? = some o -> ∃ d y, vs[i]? = some (d, y) /\ o.dst = some d /\ d < σ.n /\ (F.contains (k + i) = true -> y = (puts σ (vs.take i)).get d) /\ (F.contains (k + i) = false -> StepOk P o d (puts σ (vs.take i)).ev σ.boxes y)
 | [], k, σ, h1, h2, h => by
  have : m = k := by simp at h2; omega
  subst this
  exact ⟨[], by simp, by simpa [walkX, puts] using h, fun i o hi ho => by simp at ho⟩
 | o :: l, k, σ, h1, h2, h => by
  simp only [walkX] at h
  split at h
  ·rename_i hkm
   have e : m - k = (m - (k + 1)) + 1 := by omega
   have wrap : ∀ {d : Nat} {y : AV}, o.dst = some d -> d < σ.n -> (F.contains k = true -> y = σ.get d) -> (F.contains k = false -> StepOk P o d σ.ev σ.boxes y) -> walkX P ops F m (k + 1) l (σ.put (some d) y) K ->
     ∃ vs : List (Nat × AV), vs.length = m - k /\ walkT P ops F m ((o :: l).drop (m - k)) (puts σ vs) K /\
      ∀ i o', k + i < m -> (o :: l)[i]? = some o' -> ∃ d y, vs[i]? = some (d, y) /\ o'.dst = some d /\ d < σ.n /\ (F.contains (k + i) = true -> y = (puts σ (vs.take i)).get d) /\ (F.contains (k + i) = false -> StepOk P o' d (puts σ (vs.take i)).ev σ.boxes y) := by
    intro d y g1 g2 g3 g4 g5
    obtain ⟨vs, k1, k2, k3⟩ := walkX_vals l (k + 1) _ (by omega) (by simp at h2; omega) g5
    refine ⟨(d, y) :: vs, by simp [k1]; omega, by rw [e, List.drop_succ_cons]; exact k2, fun i o' hi ho => ?_⟩
    cases i with
    | zero =>
     simp at ho; subst ho
     exact ⟨d, y, rfl, g1, g2, g3, g4⟩
    | succ i =>
     obtain ⟨d', y', f1, f2, f3, f4, f5⟩ := k3 i o' (by omega) (by simpa using ho)
     rw [put_n] at f3; rw [put_boxes] at f5
     rw [show k + 1 + i = k + (i + 1) by omega] at f4 f5
     exact ⟨d', y', by simpa using f1, f2, f3, f4, f5⟩
   split at h
   ·rename_i hF
    split at h
    ·rename_i d hd
     exact wrap hd h.1 (fun _ => rfl) (fun hf => by rw [hF] at hf; cases hf) h.2
    ·exact h.elim
   ·rename_i hF
    obtain ⟨d, y, g1, g2, g3, g4⟩ := headOp_sound h
    exact wrap g1 g2 (fun hf => absurd hf hF) (fun _ => g4) g3
  ·have : m = k := by omega
   subst this
   exact ⟨[], by simp, by simpa [puts] using h, fun i o hi ho => by omega⟩
def frontsA (P : Program) (ops : Array Oper) : List Nat -> St -> (St -> Prop) -> Prop
 | [], σ, K => K σ
 | j :: F, σ, K => match ops[j]? with
  | some ⟨some d, op, _, _, _, _⟩ => d < σ.n /\ frontV P op σ fun y => frontsA P ops F (σ.put (some d) y) K
  | _ => False
def noSel (o : Oper) : Bool :=
 match o.op with
 | .select _ _ => false
 | _ => true
theorem noSel_of {o : Oper} (h : noSel o = true) : ∀ cs b, o.op ≠ .select cs b := fun cs b he => by simp [noSel, he] at h
def frontOk (ops : Array Oper) (j : Nat) (p : Oper) : Bool :=
 p.guard.isNone && noSel p && match p.dst with
 | none => false
 | some d => (List.range ops.size).all fun i => i == j || match ops[i]? with
  | none => false
  | some o => noSel o && (o.dst != some d && ((!(slotsOf o).contains d || reach ops ops.size i j) && ((match o.dst with
   | none => true
   | some s => !(slotsOf p).contains s || (reach ops ops.size j i || reach ops ops.size i j)) && match o.guard with
   | none => true
   | some (g, _) => guardSlot ops g != some d)))
def namesOk (ops : Array Oper) : List Nat -> List Nat -> Bool
 | _, [] => true
 | done, j :: F => !done.contains j && (match ops[j]? with | some p => (edges p).all (fun k => done.contains k) | none => false) && namesOk ops (done ++ [j]) F
def drawOkX (ops : Array Oper) (F : List Nat) (m : Nat) : Bool :=
 decide (m <= ops.size) && (namesOk ops [] F && (List.range ops.size).all fun i => match ops[i]? with
  | none => false
  | some o => (edges o).all (fun k => decide (k < i)) && if F.contains i then frontOk ops i o else if i < m then headOk ops m i o else (List.range i).all fun j => F.contains j || reach ops ops.size i j)
theorem frontOk_front {j : Nat} {p : Oper} (hj : ops[j]? = some p) (h : frontOk ops j p = true) : ∃ d, Front ops j p d := by
 simp only [frontOk, Bool.and_eq_true] at h
 obtain ⟨⟨h1, h2⟩, h3⟩ := h
 split at h3
 ·cases h3
 ·rename_i d hd
  refine ⟨d, hj, by simpa using h1, hd, noSel_of h2, fun i o ho hij => ?_⟩
  simp only [List.all_eq_true, List.mem_range] at h3
  have := h3 i (Array.getElem?_eq_some_iff.1 ho).1
  simp only [ho, Bool.or_eq_true, beq_iff_eq, hij, false_or, Bool.and_eq_true, bne_iff_ne, ne_eq, Bool.not_eq_true'] at this
  obtain ⟨g1, g2, g3, g4, g5⟩ := this
  refine ⟨noSel_of g1, g2, fun hm => ?_, fun s hs hm => ?_, fun g b hg => ?_⟩
  ·exact g3.resolve_left (by simpa using hm)
  ·rw [hs] at g4
   simp only [Bool.or_eq_true, Bool.not_eq_true'] at g4
   exact g4.resolve_left (by simpa using hm)
  ·rw [hg] at g5; simpa using g5
theorem drawOkX_plan {F : List Nat} {m : Nat} (h : drawOkX ops F m = true) : PlanX ops F m /\ namesOk ops [] F = true := by
 simp only [drawOkX, Bool.and_eq_true, decide_eq_true_eq, List.all_eq_true, List.mem_range] at h
 obtain ⟨h1, h0, h2⟩ := h
 have hof : ∀ i o, ops[i]? = some o -> (∀ k ∈ edges o, k < i) /\ (if F.contains i = true then frontOk ops i o else if i < m then headOk ops m i o else (List.range i).all fun j => F.contains j || reach ops ops.size i j) = true := fun i o ho => by
  have := h2 i (Array.getElem?_eq_some_iff.1 ho).1
  rw [ho] at this
  simp only [Bool.and_eq_true, List.all_eq_true, decide_eq_true_eq] at this
  exact this
 refine ⟨⟨h1, fun i o ho => (hof i o ho).1, fun i o ho hi hF => ?_, fun i o ho hi hF j hj hjF => ?_, fun i o ho hF => ?_⟩, h0⟩
 ·have := (hof i o ho).2
  rw [if_neg (by rw [hF]; simp), if_pos hi] at this
  simp only [headOk, Bool.and_eq_true] at this
  obtain ⟨⟨g1, _⟩, g3⟩ := this
  refine ⟨by simpa using g1, ?_⟩
  split at g3
  ·cases g3
  ·rename_i d hd
   simp only [Bool.and_eq_true, List.all_eq_true, List.mem_range, Bool.not_eq_true', Bool.or_eq_true, beq_iff_eq] at g3
   refine ⟨d, hd, by simpa using g3.1, fun j p s hj hji hp hs => ?_⟩
   have := (g3.2 j hj).resolve_left hji
   simp only [hp, hs, Bool.and_eq_true, bne_iff_ne, ne_eq, Bool.or_eq_true, Bool.not_eq_true'] at this
   refine ⟨this.1, fun hm => ?_⟩
   have h' := this.2.resolve_left (by simpa using hm)
   split at h'
   ·rename_i hlt; rw [if_pos hlt]; exact h'
   ·rename_i hlt; rw [if_neg hlt]; exact h'
 ·have := (hof i o ho).2
  rw [if_neg (by rw [hF]; simp), if_neg (by omega)] at this
  simp only [List.all_eq_true, List.mem_range, Bool.or_eq_true] at this
  exact (this j hj).resolve_left (by rw [hjF]; simp)
 ·have := (hof i o ho).2
  rw [if_pos hF] at this
  exact frontOk_front ho this
theorem fronts_run {Q : Exit -> Act -> World -> Prop} (hlt : ∀ i o, ops[i]? = some o -> ∀ k ∈ edges o, k < i) (hQ : ∀ e a w, e ≠ .normal -> ¬ Q e a w) {G0 : Orig} {w0 : World} {K : St -> Prop} :
  ∀ (F done : List Nat) (σ : St) (G : Nat -> Status) (a : Act) (w : World) (listed : Array Bool) (U : List Nat), Left ops listed U -> Closed ops (fun k => listed.getD k false) -> (∀ i, i < ops.size -> (listed.getD i false = true ↔ done.contains i = true)) ->
   namesOk ops done F = true -> (∀ j ∈ F, ∀ p, ops[j]? = some p -> ∃ d, Front ops j p d) -> frontsA P ops F σ K -> SRel G0 w0 σ G a w ->
   (∀ σ' a' listed' U', K σ' -> Left ops listed' U' -> Closed ops (fun k => listed'.getD k false) -> (∀ i, i < ops.size -> (listed'.getD i false = true ↔ (done ++ F).contains i = true)) -> SRel G0 w0 σ' G a' w -> wpAny P .any ops Q U'.length listed' a' w) ->
   wpAny P .any ops Q U.length listed a w
 | [], done, σ, G, a, w, listed, U, hl, hc, hd, _, _, h, hs, hk => hk σ a listed U h hl hc (by simpa using hd) hs
 | j :: F, done, σ, G, a, w, listed, U, hl, hc, hd, hr, hf, h, hs, hk => by
  simp only [frontsA] at h
  split at h
  ·rename_i d op T pos af g hj
   obtain ⟨hdn, h⟩ := h
   simp only [namesOk, hj, Bool.and_eq_true, Bool.not_eq_true', List.all_eq_true] at hr
   obtain ⟨⟨hr1, hr2⟩, hr3⟩ := hr
   obtain ⟨d', hfr⟩ := hf j (List.mem_cons_self ..) _ hj
   obtain rfl : d = d' := by simpa using hfr.dst
   have hjs := (Array.getElem?_eq_some_iff.1 hj).1
   have hjf : listed.getD j false = false := by
    cases hb : listed.getD j false
    ·rfl
    ·rw [hd j hjs, hr1] at hb; cases hb
   have hmem : j ∈ U := (hl.mem j).2 ⟨hjs, hjf⟩
   obtain ⟨l1, l2⟩ := hl.step hmem
   have hsz : j < listed.size := by rw [hl.size]; exact hjs
   have hedge : ∀ k ∈ edges (⟨some d, op, T, pos, af, g⟩ : Oper), listed.getD k false = true := fun k hk => by
    have hkd := hr2 k hk
    exact (hd k (by have := hlt j _ hj k hk; omega)).2 hkd
   obtain ⟨y, hK, hy⟩ := frontV_sound (p := ⟨some d, op, T, pos, af, g⟩) h
   obtain ⟨v, hv, hex⟩ := hy G a w hs.good (fun x => hs.ev x)
   have hrun := fronts_run hlt hQ F (done ++ [j]) (σ.put (some d) y) G (a.put (some d) v) w (listed.setIfInBounds j true) (U.erase j) l1 (hc.step hsz hj hedge) (fun i hi => by
     rw [set_getD hsz]
     by_cases hij : j = i
     ·subst hij; simp
     ·rw [if_neg hij, hd i hi]; simp [Ne.symm hij]) hr3 (fun j' hj' => hf j' (List.mem_cons_of_mem _ hj')) hK
    (hs.add (.refl G w) hs.good (fun _ _ h => h) (by simp [dstOk, hdn]) hv)
    (fun σ' a' listed' U' k1 k2 k3 k4 k5 => hk σ' a' listed' U' k1 k2 k3 (by simpa using k4) k5)
   rw [<- l2]
   exact front_run hQ hfr _ _ _ _ v hl.size hc ((ready_iff hl.size).2 ⟨_, hj, hjf, hedge⟩) hex hrun
  ·exact h.elim
theorem wpAny_normal {Q : Exit -> Act -> World -> Prop} : ∀ (fuel : Nat) (listed : Array Bool) (a : Act) (w : World), wpAny P .any ops (fun e a w => e = .normal /\ Q e a w) fuel listed a w -> wpAny P .any ops Q fuel listed a w := by
 have hop : ∀ {i : Nat} {K K' : Act -> World -> Prop} {a : Act} {w : World}, (∀ a w, K a w -> K' a w) -> Go.wpOp P ops (fun e a w => e = .normal /\ Q e a w) i K a w -> Go.wpOp P ops Q i K' a w := by
  intro i K K' a w hk h
  have hout : ¬ LetsOut (fun e a w => e = .normal /\ Q e a w) := fun ⟨_, _, h, _⟩ => by cases h
  unfold Go.wpOp at h ⊢
  split
  ·rename_i ho; simp only [ho] at h; exact hk _ _ h
  ·rename_i o ho
   simp only [ho] at h
   split
   ·rename_i hw
    simp only [hw, if_true] at h
    rcases h with h | ⟨_, h⟩
    ·refine .inl ?_
     simp only [Oper.wp] at h ⊢
     generalize (execOp a.eval o).run P w = r at *
     cases r with
     | ok n w' =>
      cases n <;> simp only [Oper.upon] at h ⊢
      case value => exact hk _ _ h
      case skip => exact hk _ _ h
      case defer => exact hk _ _ h
      case enter =>
       refine Calls.mono h fun e w'' h => ?_
       rcases e with _ | _ | _
       ·exact hk _ _ h
       ·exact absurd h.1 (by simp)
       ·exact absurd h hout
      case row => exact Rows.mono h fun _ _ h => hk _ _ h
     | halt x w' =>
      cases x <;> simp only [Oper.upon] at h ⊢
      exact absurd h.1 (by simp)
    ·exact absurd h hout
   ·rename_i hw
    simp only [hw] at h
    exact hk _ _ h
 intro fuel
 induction fuel with
 | zero => exact fun listed a w h => ⟨h.1, h.2.2⟩
 | succ fuel ih => exact fun listed a w h => ⟨fun hr => (h.1 hr).2, fun i hi => hop (fun a w h => ih _ a w h) (h.2 i hi)⟩
theorem DrawK.front {l : List Oper} {σ : St} {K : St -> Prop} (F : List Nat) (m : Nat) (hm : P.follows .mixedOrders = true) (hok : drawOkX l.toArray F m = true)
  (h : andK (freeAll σ (crs (l.take m)) = true) (frontsA P l.toArray F σ fun σ' => walkX P l.toArray F m 0 l σ' K)) : DrawK P l.toArray σ K := by
 intro G0 w0 G a w id Q h0 hs hQ
 obtain ⟨hfree, h⟩ := h
 obtain ⟨hp, hrow⟩ := drawOkX_plan hok
 refine wp_region_any hm (wpAny_normal _ _ _ _ ?_)
 obtain ⟨G', g1, g2, _⟩ := (hs.drawn (w.drawn + 1)).freshAll h0 (crs (l.take m)) G hfree
 have hgd : ∀ i, (Array.replicate l.toArray.size false).getD i false = false := fun i => by
  by_cases hi : i < l.toArray.size
  ·simp at hi; simp [hi]
  ·simp at hi; simp [hi]
 have hml : m <= l.length := by simpa using hp.le
 have := fronts_run (P := P) (ops := l.toArray) (Q := fun e a w => e = .normal /\ Q e a w) hp.lt (fun e a w he h => he h.1) (G0 := G0) (w0 := w0) (K := fun σ' => walkX P l.toArray F m 0 l σ' K) F [] σ G' a _ (Array.replicate l.toArray.size false) (List.range l.toArray.size)
  ⟨by simp, List.nodup_range, fun i => by rw [List.mem_range, hgd]; simp⟩ (fun i o _ hi => absurd (show (Array.replicate l.toArray.size false).getD i false = true from hi) (by rw [hgd]; simp)) (fun i _ => by rw [hgd]; simp) hrow
  (fun j hj p hjp => hp.front j p hjp (by simpa using hj)) h g1 ?_
 ·simpa using this
 intro σ' a' listed' U' hK k1 k2 k3 k4
 obtain ⟨vs, v1, v2, v3⟩ := walkX_vals l 0 σ' (by omega) (by omega) hK
 have hst : ∀ i o, i < m -> l.toArray[i]? = some o -> ∃ d y, vs[i]? = some (d, y) /\ o.dst = some d /\ d < σ'.n /\ (F.contains i = true -> y = (puts σ' (vs.take i)).get d) /\ (F.contains i = false -> StepOk P o d (puts σ' (vs.take i)).ev σ'.boxes y) := fun i o hi ho => by
  have := v3 i o (by omega) (by simpa using ho)
  simpa using this
 have hvl : vs.length = m := by omega
 have hap : Apart vs := by
  intro i j d y d' y' h1 h2 hij
  have hil : i < m := by have := (List.getElem?_eq_some_iff.1 h1).1; omega
  have hjl : j < m := by have := (List.getElem?_eq_some_iff.1 h2).1; omega
  obtain ⟨oi, hoi⟩ : ∃ p, l.toArray[i]? = some p := ⟨l[i]'(by omega), by simp [show i < l.length by omega]⟩
  obtain ⟨oj, hoj⟩ : ∃ p, l.toArray[j]? = some p := ⟨l[j]'(by omega), by simp [show j < l.length by omega]⟩
  obtain ⟨_, _, k1, k2, _⟩ := hst i oi hil hoi
  obtain ⟨_, _, k3, k4, _⟩ := hst j oj hjl hoj
  rw [h1] at k1; cases k1
  rw [h2] at k3; cases k3
  cases hjF : F.contains j
  ·obtain ⟨_, d1, e1, _, e2⟩ := hp.head j oj hoj hjl hjF
   rw [k4] at e1; cases e1
   exact (e2 i oi d hil hij hoi k2).1
  ·obtain ⟨dj, hfj⟩ := hp.front j oj hoj hjF
   have e1 := hfj.dst
   rw [k4] at e1; cases e1
   have := (hfj.other i oi hoi hij).2.1
   rw [k2] at this
   exact fun h => this (by rw [h])
 refine head_runX (P := P) (σ := σ') (vs := vs) hp h0 (fun σ'' G'' a'' w'' hk hs => ⟨rfl, hQ σ'' G'' a'' w'' hk hs⟩) hvl hap (by simpa using v2) (fun i o hi ho => ?_) U'.length listed' U' σ' G' a' _ k1 rfl (fun i hi _ => by simpa using k3 i hi) (fun i hi hF => (k3 i hi).2 (by simpa using hF)) k2
  ⟨rfl, rfl, fun i d y hi => ?_, fun _ _ => rfl⟩ k4 (fun i o d ho hi hd hcr _ => ?_)
 ·obtain ⟨d, y, e1, e2, e3, _, e4⟩ := hst i o hi ho
  exact ⟨d, y, e1, e2, e3, e4⟩
 ·have him : i < m := by have := (List.getElem?_eq_some_iff.1 hi).1; omega
  obtain ⟨oi, hoi⟩ : ∃ p, l.toArray[i]? = some p := ⟨l[i]'(by omega), by simp [show i < l.length by omega]⟩
  obtain ⟨d', y', e1, e2, e3, e4, _⟩ := hst i oi him hoi
  rw [hi] at e1; cases e1
  split
  ·rename_i hli
   have hF : F.contains i = true := by simpa using (k3 i (by simp; omega)).1 hli
   have := (puts_at i vs σ' hap).dst i d y hi
   rw [if_neg (by simp)] at this
   rw [<- this]; exact (e4 hF).symm
  ·rfl
 ·refine g2 d ?_
  rw [crs_eq]
  refine List.mem_filterMap.2 ⟨o, ?_, by rw [if_pos hcr]; exact hd⟩
  refine List.mem_of_getElem? (i := i) ?_
  rw [List.getElem?_take, if_pos hi]; simpa using ho
end
section
variable {P : Program} {n : Nat} {t : List (Nat × AV)} {b : List (List AV)} {F : List Nat} {m k j : Nat} {ops : Array Oper} {l : List Oper}
variable {d : Nat} {T : TypeId} {pos : String} {af : Array Edge} {g : Option (Nat × Bool)} {K : St -> Prop}
def fAt (P : Program) (o : Option Oper) (σ : St) (K : St -> Prop) : Prop :=
 match o with
 | some ⟨some d, op, _, _, _, _⟩ => d < σ.n /\ frontV P op σ fun y => K (σ.put (some d) y)
 | _ => False
@[congr] theorem fAt_congr {o o' : Option Oper} {K : St -> Prop} {σ σ' : St} (h1 : o = o') (h : mkd σ = σ') : fAt P o σ K = fAt P o' σ' K := by subst_vars; rfl
@[congr] theorem frontsA_congr {K : St -> Prop} {σ σ' : St} (h : mkd σ = σ') : frontsA P ops F σ K = frontsA P ops F σ' K := by subst_vars; rfl
@[congr] theorem walkX_congr {K : St -> Prop} {σ σ' : St} {k' : Nat} (h1 : k = k') (h : mkd σ = σ') : walkX P ops F m k l σ K = walkX P ops F m k' l σ' K := by subst_vars; rfl
@[congr] theorem walkT_congr {K : St -> Prop} {σ σ' : St} {k' : Nat} (h1 : k = k') (h : mkd σ = σ') : walkT P ops F k l σ K = walkT P ops F k' l σ' K := by subst_vars; rfl
@[go_sem] theorem frontsA_nil : frontsA P ops [] ⟨n, t, b⟩ K = K ⟨n, t, b⟩ := rfl
@[go_sem] theorem frontsA_cons : frontsA P l.toArray (j :: F) ⟨n, t, b⟩ K = fAt P l[j]? ⟨n, t, b⟩ fun σ' => frontsA P l.toArray F σ' K := by
 simp only [frontsA, fAt, List.getElem?_toArray]
@[go_sem] theorem fAt_move {x : Operand} : fAt P (some ⟨some d, .move x, T, pos, af, g⟩) ⟨n, t, b⟩ K = andK (d < n) (K (St.put ⟨n, t, b⟩ (some d) (St.ev ⟨n, t, b⟩ x))) := rfl
def selK (c : Bool) (p q : Prop) : Prop := match c with | true => p | false => q
@[congr] theorem selK_congr {c c' : Bool} {p q : Prop} (h : mkd c = c') : selK c p q = selK c' p q := by subst_vars; rfl
@[go_sem] theorem selK_true {p q : Prop} : selK true p q = p := rfl
@[go_sem] theorem selK_false {p q : Prop} : selK false p q = q := rfl
theorem selK_ite {c : Bool} {p q : Prop} : selK c p q = if c = true then p else q := by cases c <;> simp [selK]
theorem selK_dec {c : Prop} [Decidable c] {p q : Prop} : selK (decide c) p q = if c then p else q := by by_cases c <;> simp [selK, *]
@[go_sem] theorem walkT_nil : walkT P ops F k [] ⟨n, t, b⟩ K = K ⟨n, t, b⟩ := rfl
@[go_sem] theorem walkT_cons {o : Oper} : walkT P ops F k (o :: l) ⟨n, t, b⟩ K = selK (F.contains k) (walkT P ops F (k + 1) l ⟨n, t, b⟩ K) (opsA P ops [o] ⟨n, t, b⟩ fun σ' => walkT P ops F (k + 1) l σ' K) := by rw [selK_ite]; rfl
@[go_sem] theorem walkX_nil : walkX P ops F m k [] ⟨n, t, b⟩ K = K ⟨n, t, b⟩ := rfl
@[go_sem] theorem walkX_some {op : Op} : walkX P ops F m k (⟨some d, op, T, pos, af, g⟩ :: l) ⟨n, t, b⟩ K = selK (decide (k < m)) (selK (F.contains k) (andK (d < n) (walkX P ops F m (k + 1) l (St.put ⟨n, t, b⟩ (some d) (St.ev ⟨n, t, b⟩ (.tmp d))) K)) (headOp P ⟨some d, op, T, pos, af, g⟩ ⟨n, t, b⟩ fun σ' => walkX P ops F m (k + 1) l σ' K)) (walkT P ops F k (⟨some d, op, T, pos, af, g⟩ :: l) ⟨n, t, b⟩ K) := by rw [selK_dec, selK_ite]; rfl
@[go_sem] theorem walkX_none {op : Op} : walkX P ops F m k (⟨none, op, T, pos, af, g⟩ :: l) ⟨n, t, b⟩ K = selK (decide (k < m)) (selK (F.contains k) False (headOp P ⟨none, op, T, pos, af, g⟩ ⟨n, t, b⟩ fun σ' => walkX P ops F m (k + 1) l σ' K)) (walkT P ops F k (⟨none, op, T, pos, af, g⟩ :: l) ⟨n, t, b⟩ K) := by rw [selK_dec, selK_ite]; rfl
attribute [go_sem] decide_true decide_false isSlice List.getElem?_cons_succ List.getElem?_cons_zero
end
@[go_sem] theorem freeB_app {d : Nat} : ∀ (x y : List (List AV)), freeB d (x ++ y) = (freeB d x && freeB d y)
 | [], y => by simp [freeB]
 | c :: x, y => by rw [List.cons_append, freeB, freeB, freeB_app x y, Bool.and_assoc]
@[go_sem] theorem mapB_app {f : AV -> AV} : ∀ (x y : List (List AV)), mapB f (x ++ y) = mapB f x ++ mapB f y
 | [], y => rfl
 | c :: x, y => by rw [List.cons_append, mapB, mapB, mapB_app x y]; rfl
theorem leB_app : ∀ {x y x' y' : List (List AV)}, leB x x' -> leB y y' -> leB (x ++ y) (x' ++ y')
 | [], y, [], y', _, h => h
 | [], y, c :: x', y', h, _ => by simp [leB] at h
 | c :: x, y, [], y', h, _ => by simp [leB] at h
 | c :: x, y, c' :: x', y', h, h2 => by
  simp only [leB] at h
  simp only [List.cons_append, leB]
  exact ⟨h.1, leB_app h.2 h2⟩
theorem leC_self : ∀ l : List AV, leC l l
 | [] => trivial
 | x :: l => ⟨leV_refl x, leC_self l⟩
theorem leB_self : ∀ l : List (List AV), leB l l
 | [] => trivial
 | x :: l => ⟨leC_self x, leB_self l⟩
def Rk (c k : Nat) : List (List AV) := List.replicate k (List.replicate c .any)
theorem Rk_len (c k : Nat) : (Rk c k).length = k := by simp [Rk]
theorem Rk_succ (c k : Nat) : Rk c (k + 1) = Rk c k ++ [List.replicate c .any] := by unfold Rk; rw [List.replicate_succ']
theorem mapTops_rep {f : AV -> AV} (hf : f .any = .any) : ∀ c, mapTops f (List.replicate c .any) = List.replicate c .any
 | 0 => rfl
 | c + 1 => by rw [List.replicate_succ, mapTops, mapTops_rep hf c]; simp [AV.mapTop, hf]
theorem mapB_Rk {f : AV -> AV} (hf : f .any = .any) (c : Nat) : ∀ k, mapB f (Rk c k) = Rk c k
 | 0 => rfl
 | k + 1 => by
  have := mapB_Rk hf c k
  unfold Rk at *; rw [List.replicate_succ, mapB, this, mapTops_rep hf]
@[go_sem] theorem mapB_kill_Rk {t c k : Nat} : mapB (killLeaf t) (Rk c k) = Rk c k := mapB_Rk rfl c k
@[go_sem] theorem mapB_put_Rk {t c k : Nat} {P : Program} {a e : TypeId} {D : DataW Unit} : mapB (putMap t P a e D) (Rk c k) = Rk c k := mapB_Rk rfl c k
theorem freeA_rep {d : Nat} : ∀ c, allLeafs (freeLeaf d) (List.replicate c .any) = true
 | 0 => rfl
 | c + 1 => by rw [List.replicate_succ, allLeafs, freeA_rep c]; rfl
@[go_sem] theorem freeB_Rk {d c : Nat} : ∀ {k : Nat}, freeB d (Rk c k) = true
 | 0 => rfl
 | k + 1 => by
  have := freeB_Rk (d := d) (c := c) (k := k)
  unfold Rk at *; rw [List.replicate_succ, freeB, this, freeA_rep]; rfl
@[go_sem] theorem leB_Rk {c k : Nat} : leB (Rk c k) (Rk c k) = True := eq_true (leB_self _)
@[go_sem] theorem leB_RkS {c k : Nat} {x : List (List AV)} : leB (Rk c k ++ x) (Rk c k ++ x) = True := eq_true (leB_self _)
theorem leB_RkA {c k : Nat} {x y : List (List AV)} (h : leB x y) : leB (Rk c k ++ x) (Rk c k ++ y) := leB_app (leB_self _) h
def Jk (cs : List Nat) : List (List AV) := cs.map fun c => List.replicate c .any
theorem Jk_len (cs : List Nat) : (Jk cs).length = cs.length := by simp [Jk]
theorem Jk_app (cs ds : List Nat) : Jk (cs ++ ds) = Jk cs ++ Jk ds := by simp [Jk]
theorem mapB_Jk {f : AV -> AV} (hf : f .any = .any) : ∀ cs, mapB f (Jk cs) = Jk cs
 | [] => rfl
 | c :: cs => by
  have := mapB_Jk hf cs
  unfold Jk at *; rw [List.map_cons, mapB, this, mapTops_rep hf]
@[go_sem] theorem mapB_kill_Jk {t : Nat} {cs : List Nat} : mapB (killLeaf t) (Jk cs) = Jk cs := mapB_Jk rfl cs
@[go_sem] theorem mapB_freeze_Jk {p : Nat -> Bool} {cs : List Nat} : mapB (freezeLeaf p) (Jk cs) = Jk cs := mapB_Jk rfl cs
@[go_sem] theorem mapB_store_Jk {t es i o : Nat} {ys : List AV} {cs : List Nat} : mapB (storeLeaf t es i o ys) (Jk cs) = Jk cs := mapB_Jk rfl cs
@[go_sem] theorem freeB_Jk {d : Nat} : ∀ {cs : List Nat}, freeB d (Jk cs) = true
 | [] => rfl
 | c :: cs => by
  have := freeB_Jk (d := d) (cs := cs)
  unfold Jk at *; rw [List.map_cons, freeB, this, freeA_rep]; rfl
@[go_sem] theorem leB_JkS {cs : List Nat} {x : List (List AV)} : leB (Jk cs ++ x) (Jk cs ++ x) = True := eq_true (leB_self _)
theorem leB_JkA {cs ds : List Nat} {x : List (List AV)} (h : leB x (Jk ds)) : leB (Jk cs ++ x) (Jk (cs ++ ds)) := by rw [Jk_app]; exact leB_app (leB_self _) h
theorem app_at {α : Type} {B L : List α} {n i : Nat} (h : B.length = n) : (B ++ L)[n + i]? = L[i]? := by
 rw [List.getElem?_append_right (by omega), h, Nat.add_sub_cancel_left]
theorem app_at0 {α : Type} {B L : List α} {n : Nat} (h : B.length = n) : (B ++ L)[n]? = L[0]? := app_at (i := 0) h
theorem app_set0 {α : Type} {B L : List α} {n : Nat} {z : α} (h : B.length = n) : (B ++ L).set n z = B ++ L.set 0 z := by
 rw [List.set_append_right _ _ (by omega), h, Nat.sub_self]
theorem leV_ag {xs ys : List AV} (h : leC xs ys) : leV (.ag xs) (.ag ys) := leV_sem fun G w v hv => by
 obtain ⟨vs, rfl, h1, h2⟩ := hv.ag_inv
 have := leC_pw h h2
 exact .ag _ _ this.1 h1 this.2
theorem leV_tup {xs ys : List AV} (h : leC xs ys) : leV (.tup xs) (.tup ys) := leV_sem fun G w v hv => by
 obtain ⟨vs, rfl, h2⟩ := hv.tup_inv
 have := leC_pw h h2
 exact .tup _ _ this.1 this.2
theorem app_setN {α : Type} {B L : List α} {n i : Nat} {z : α} (h : B.length = n) : (B ++ L).set (n + i) z = B ++ L.set i z := by
 rw [List.set_append_right _ _ (by omega), h, Nat.add_sub_cancel_left]
theorem Con.weak {P : Program} {f : FuncId} {args : List AV} {bx : List (List AV)} {post post' : AV -> List (List AV) -> Prop} (h : Con P f args bx post) (hp : ∀ r b, post r b -> ∃ r', post' r' b /\ leV r r') : Con P f args bx post' :=
 ⟨h.1, fun G w vs h1 h2 h3 h4 h5 => (h.2 G w vs h1 h2 h3 h4 h5).mono fun _ _ ⟨v, r, bx', G', he, hq, hv, rest⟩ => by
  obtain ⟨r', hq', hle⟩ := hp _ _ hq
  exact ⟨v, r', bx', G', he, hq', hv.le hle, rest⟩⟩
inductive Tr where
 | done
 /-- an operation that only names a place: taken at once -/
 | front (j : Nat) (t : Tr)
 | one (j : Nat) (t : Tr)
 /-- an operation that only adds, taken as in a region's head -/
 | hd (j : Nat) (t : Tr)
 | alt (a b : Tr)
 /-- what bears tag a bears b from here on -/
 | retag (a b : Nat) (t : Tr)
def Tr.cover : Tr -> List Nat
 | .one j _ => [j]
 | .hd j _ => [j]
 | .alt a b => a.cover ++ b.cover
 | _ => []
def readyIn (ops : Array Oper) (L : List Nat) (i : Nat) : Bool :=
 !L.contains i && match ops[i]? with
 | none => false
 | some o => (edges o).all fun k => L.contains k
def covers (ops : Array Oper) (L : List Nat) (c : List Nat) : Bool := ((List.range ops.size).any fun i => !L.contains i) && (List.range ops.size).all fun i => !readyIn ops L i || c.contains i
def trOk (ops : Array Oper) : Bool -> List Nat -> Tr -> Bool
 | top, L, .done => top && (List.range ops.size).all fun i => L.contains i
 | top, L, .front j t => top && (readyIn ops L j && ((match ops[j]? with | some p => frontOk ops j p | none => false) && trOk ops true (j :: L) t))
 | top, L, .one j t => (!top || covers ops L [j]) && trOk ops true (j :: L) t
 | top, L, .hd j t => (!top || covers ops L [j]) && trOk ops true (j :: L) t
 | top, L, .retag _ _ t => top && trOk ops true L t
 | top, L, .alt a b => (!top || covers ops L (a.cover ++ b.cover)) && (trOk ops false L a && trOk ops false L b)
def treeOk (ops : Array Oper) (t : Tr) : Bool :=
 ((List.range ops.size).all fun i => match ops[i]? with | none => false | some o => (edges o).all fun k => decide (k < i)) && trOk ops true [] t
def evBinSc (P : Program) (op : BinOp) (T : TypeId) (x y : AV) (K : AV -> Prop) : Prop :=
 match x, y with
 | .sc u, .sc v => evBin P op T u v fun r => K (.sc r)
 | _, _ => False
@[go_sem] theorem evBinSc_sc {P : Program} {op : BinOp} {T : TypeId} {u v : Value} {K : AV -> Prop} : evBinSc P op T (.sc u) (.sc v) K = evBin P op T u v fun r => K (.sc r) := rfl
@[congr] theorem evBinSc_congr {P : Program} {op : BinOp} {T : TypeId} {x x' y y' : AV} {K : AV -> Prop} (h1 : mkd x = x') (h : y = y') : evBinSc P op T x y K = evBinSc P op T x' y' K := by subst_vars; rfl
def frontW (P : Program) (op : Op) (σ : St) (K : AV -> Prop) : Prop :=
 match op with
 | .fieldAddr T x f => evFieldAddr P T (σ.ev x) f K
 | .binOp op T x y _ => evBinSc P op T (σ.ev x) (σ.ev y) K
 | .extract x i => evExtract (σ.ev x) i K
 | op => frontV P op σ K
theorem frontV_sound' {P : Program} {p : Oper} {σ : St} {K : AV -> Prop} (h : frontV P p.op σ K) :
  ∃ y, K y /\ ∀ (G : Nat -> Status) (a : Act) (w : World), Good G w -> (∀ x ∈ p.op.operands, VRel G w (σ.ev x) (a.eval x)) -> ∃ v, VRel G w y v /\ ∀ w', (execOp a.eval p).run P w' = .ok (.value v) w' := by
 unfold frontV at h
 split at h
 ·rename_i x ho
  exact ⟨_, h, fun G a w _ hv => ⟨_, hv x (by simp [ho, Op.operands]), fun w' => by simp [execOp, ho]⟩⟩
 ·rename_i T x i ho
  obtain ⟨hsl, h⟩ := h
  unfold evIndexAddr at h
  split at h
  ·rename_i k n hi
   split at h
   ·rename_i E t es xs hT hx
    obtain ⟨⟨⟨sz, by_, z⟩, hq, rfl⟩, h0, h1, hK⟩ := h
    refine ⟨_, hK, fun G a w hg hv => ?_⟩
    have hu := hv i (by simp [ho, Op.operands]); rw [hi] at hu
    have hu := hu.sc_inv
    have hv' := hv x (by simp [ho, Op.operands]); rw [hx] at hv'
    obtain ⟨ao, c, hvx, h2, h3, _, h4⟩ := hv'.sl_inv
    rcases h4 with rfl | ⟨b, off, vals, rfl, hs⟩
    ·simp at h1; omega
    ·refine ⟨.pointer (some ⟨b, off + n.toNat * sz + 0, none⟩), .pe _ _ _ _ _ _ _ c (by rw [hvx] at hv'; exact hv') (by omega), fun w' => ?_⟩
     simp [execOp, ho, hvx, hu, Instr.indexAt, asIntOf, run_underlying hT, h0, h1, run_sizeOf hq, Addr.add_none]
   ·rename_i E t xs hT hx
    obtain ⟨⟨⟨sz, by_, z⟩, hq, rfl⟩, h0, h1, hK⟩ := h
    refine ⟨_, hK, fun G a w hg hv => ?_⟩
    have hu := hv i (by simp [ho, Op.operands]); rw [hi] at hu
    have hu := hu.sc_inv
    have hv' := hv x (by simp [ho, Op.operands]); rw [hx] at hv'
    obtain ⟨ao, c, hvx, h3, _, h4⟩ := hv'.so_inv
    rcases h4 with rfl | ⟨b, vals, rfl, hs⟩
    ·simp at h1; omega
    ·refine ⟨.pointer (some ⟨b, 0 + n.toNat, none⟩), .po _ _ _ _ _ c (by rw [hvx] at hv'; exact hv') (by omega), fun w' => ?_⟩
     simp [execOp, ho, hvx, hu, Instr.indexAt, asIntOf, run_underlying hT, h0, h1, run_sizeOf hq, Addr.add_none]
   ·rename_i hx
    rw [hx] at hsl; simp [isSlice] at hsl
   ·rename_i len E hT
    exfalso
    obtain ⟨hp, _⟩ := h
    generalize σ.ev x = y at hsl hp
    cases y <;> simp [isSlice, isPtr] at hsl hp
   ·exact h.elim
  ·exact h.elim
 ·exact h.elim
theorem frontW_sound' {P : Program} {p : Oper} {σ : St} {K : AV -> Prop} (h : frontW P p.op σ K) :
  ∃ y, K y /\ ∀ (G : Nat -> Status) (a : Act) (w : World), Good G w -> (∀ x ∈ p.op.operands, VRel G w (σ.ev x) (a.eval x)) -> ∃ v, VRel G w y v /\ ∀ w', (execOp a.eval p).run P w' = .ok (.value v) w' := by
 unfold frontW at h
 split at h
 ·rename_i T x f ho
  obtain ⟨hp, ⟨off, ty⟩, hf, ⟨⟨sz, by_, z⟩, hq, h0⟩, hK⟩ := h
  obtain ⟨fs, fd, hT, hfd, rfl, rfl⟩ := fieldOf_some hf
  refine ⟨_, hK, fun G a w hg hv => ?_⟩
  have hvx := hv x (by simp [ho, Op.operands])
  obtain ⟨b, o, hb, ho'⟩ := hvx.ptr_inv hp
  refine ⟨.pointer (some ⟨b, o + fd.offset, none⟩), ho' _, fun w' => ?_⟩
  simp only at h0 hq
  simp [execOp, ho, hb, Instr.fieldAt, run_underlying hT, hfd, Instr.sureAddr, fieldPlace, run_sizeOf hq, h0, Addr.add_none]
 ·rename_i op T x y T' ho
  unfold evBinSc at h
  split at h
  ·rename_i u v hx hy
   obtain ⟨r, hK, hr⟩ := evBin_sound x y h
   refine ⟨_, hK, fun G a w hg hv => ⟨r, .froz (.sc _), fun w' => ?_⟩⟩
   have hu := hv x (by simp [ho, Op.operands])
   have hw := hv y (by simp [ho, Op.operands])
   rw [hx] at hu
   rw [hy] at hw
   obtain hu := hu.sc_inv
   obtain hw := hw.sc_inv
   have := hr w'
   have h2 : ((Sem.run P (eqGuard op T x y u v) w').andThen fun _ w' => Sem.run P (binOp op T u v) w') = Result.ok r w' := by simpa using this
   simp [execOp, ho, hu, hw]
   generalize Sem.run P (eqGuard op T x y u v) w' = z at h2 ⊢
   cases z <;> simp only [Result.andThen] at h2 ⊢
   all_goals first | (rw [h2]; done) | (cases h2; done) | rfl
  ·exact h.elim
 ·rename_i x i ho
  unfold evExtract at h
  split at h
  ·rename_i xs hx
   obtain ⟨y, hy, hK⟩ := h
   refine ⟨y, hK, fun G a w hg hv => ?_⟩
   have hvx := hv x (by simp [ho, Op.operands])
   rw [hx] at hvx
   obtain ⟨vs, hvs, hv'⟩ := hvx.tup_inv
   have hlt : i < vs.toList.length := by rw [<- hv'.1]; exact (List.getElem?_eq_some_iff.1 hy).1
   have hu := List.getElem?_eq_getElem hlt
   refine ⟨vs.toList[i], hv'.2 _ _ _ hy hu, fun w' => ?_⟩
   have : vs[i]? = some vs.toList[i] := by simp
   simp [execOp, ho, hvs, Instr.extract, this]
  ·exact h.elim
 ·exact frontV_sound' h
theorem frontW_sound {P : Program} {p : Oper} {σ : St} {K : AV -> Prop} (h : frontW P p.op σ K) :
  ∃ y, K y /\ ∀ (G : Nat -> Status) (a : Act) (w : World), Good G w -> (∀ x, VRel G w (σ.ev x) (a.eval x)) -> ∃ v, VRel G w y v /\ ∀ w', (execOp a.eval p).run P w' = .ok (.value v) w' :=
 let ⟨y, h1, h2⟩ := frontW_sound' h
 ⟨y, h1, fun G a w hg hv => h2 G a w hg fun x _ => hv x⟩
def frA (P : Program) (o : Option Oper) (σ : St) (K : St -> Prop) : Prop :=
 match o with
 | some ⟨some d, op, _, _, _, _⟩ => d < σ.n /\ frontW P op σ fun y => K (σ.put (some d) y)
 | _ => False
def stepA (P : Program) (ops : Array Oper) (o : Option Oper) (σ : St) (K : St -> Prop) : Prop :=
 match o with
 | some o => opsA P ops [o] σ K
 | none => False
def stepH (P : Program) (o : Option Oper) (σ : St) (K : St -> Prop) : Prop :=
 match o with
 | some ⟨some d, op, T, pos, af, none⟩ => σ.free d = true /\ headOp P ⟨some d, op, T, pos, af, none⟩ σ K
 | _ => False
def treeA (P : Program) (ops : Array Oper) : Tr -> St -> (St -> Prop) -> Prop
 | .done, σ, K => K σ
 | .front j t, σ, K => frA P ops[j]? σ fun σ' => treeA P ops t σ' K
 | .one j t, σ, K => stepA P ops ops[j]? σ fun σ' => treeA P ops t σ' K
 | .hd j t, σ, K => stepH P ops[j]? σ fun σ' => treeA P ops t σ' K
 | .alt a b, σ, K => treeA P ops a σ K /\ treeA P ops b σ K
 | .retag a b t, σ, K => 2 <= a /\ 2 <= b /\ treeA P ops t (σ.map (retagLeaf a b)) K
section
variable {P : Program} {ops : Array Oper} {G0 : Orig} {w0 : World} {Q : Exit -> Act -> World -> Prop}
theorem one_run {i : Nat} {o : Oper} {σ : St} {K1 : St -> Prop} {KK : Act -> World -> Prop} {G : Nat -> Status} {a : Act} {w : World} (h0 : True) (ho : ops[i]? = some o) (hw : opsA P ops [o] σ K1) (h : SRel G0 w0 σ G a w)
  (hcont : ∀ {σ' G' a' w'}, K1 σ' -> SRel G0 w0 σ' G' a' w' -> KK a' w') : Go.wpOp P ops Q i KK a w := by
 simp only [opsA] at hw
 simp only [Go.wpOp, ho]
 have run : ∀ {σ}, AM.wpOp P o σ K1 -> SRel G0 w0 σ G a w -> o.wp P a w KK Q := fun hw h =>
  wpOp_sound hw h h0 _ _ fun σ' G' a' w' hk hs => hcont hk hs
 cases hg : o.guard with
 | none =>
  simp only [hg] at hw
  rw [if_pos (by simp [Region.wanted, hg])]
  exact .inl (run hw h)
 | some p =>
  obtain ⟨j, want⟩ := p
  simp only [hg] at hw
  cases hgs : guardSlot ops j with
  | none => simp [hgs] at hw
  | some g =>
   simp only [hgs] at hw
   split at hw
   ·rename_i b hb
    have hv := h.slots g
    rw [hb] at hv
    have hy := yielded_bool hgs hv.sc_inv
    by_cases hbw : b = want
    ·subst hbw
     rw [if_pos (by simp [Region.wanted, hg, hy])]
     exact .inl (run (hw.1 rfl) (h.same hb))
    ·rw [if_neg (by simp [Region.wanted, hg, hy, hbw])]
     have hbn : b = !want := by cases b <;> cases want <;> simp_all
     obtain ⟨hdst, hw⟩ := hw.2 hbn
     have hs := (h.same (g := g) (x := .sc (.bool (!want))) (by rw [hb, hbn])).add (.refl G w) h.good (fun _ _ h => h) (d := o.dst) (x := .sc undef) (v := undef) (by rw [put_n]; exact hdst) (.froz (.sc _))
     exact hcont hw hs
   ·rename_i vs hb
    have hv := h.slots g
    rw [hb] at hv
    have hy := yielded_none hgs hv.sc_inv
    rw [if_neg (by simp [Region.wanted, hg, hy])]
    obtain ⟨hdst, hw⟩ := hw
    have hs := h.add (.refl G w) h.good (fun _ _ h => h) (d := o.dst) (x := .sc undef) (v := undef) hdst (.froz (.sc _))
    exact hcont hw hs
   ·exact hw.elim
theorem hd_run {i : Nat} {o : Oper} {σ : St} {K1 : St -> Prop} {KK : Act -> World -> Prop} {G : Nat -> Status} {a : Act} {w : World} (h0 : True) (ho : ops[i]? = some o) (hw : stepH P (some o) σ K1) (h : SRel G0 w0 σ G a w)
  (hcont : ∀ {σ' G' a' w'}, K1 σ' -> SRel G0 w0 σ' G' a' w' -> KK a' w') : Go.wpOp P ops Q i KK a w := by
 unfold stepH at hw
 split at hw
 ·rename_i d op T pos af hoo
  simp only [Option.some.injEq] at hoo
  subst hoo
  obtain ⟨hf, hw⟩ := hw
  obtain ⟨d', y, hd, hdn, hK, hstep⟩ := headOp_sound hw
  obtain rfl : d = d' := by simpa using hd
  obtain ⟨hs, hfr⟩ := h.fresh hf h0
  simp only [Go.wpOp, ho]
  rw [if_pos (by simp [Region.wanted])]
  exact .inl (hstep _ _ a w hs.good hs.boxes (fun _ => hfr) (fun x _ => hs.ev x) _ _ fun v w' G' g1 g2 g3 g4 =>
   hcont hK (hs.add g2 g3 g4.boxes (d := some d) (by simp [dstOk, hdn]) g1))
 ·exact hw.elim
theorem readyIn_iff {listed : Array Bool} {U : List Nat} {L : List Nat} (hl : Left ops listed U) (hlt : ∀ i o, ops[i]? = some o -> ∀ k ∈ edges o, k < i) (hL : ∀ i, i < ops.size -> (listed.getD i false = true ↔ L.contains i = true)) {i : Nat} :
  readyIn ops L i = true ↔ i ∈ Region.ready .any ops listed := by
 rw [ready_iff hl.size]
 unfold readyIn
 cases ho : ops[i]? with
 | none => simp
 | some o =>
  have hi := (Array.getElem?_eq_some_iff.1 ho).1
  have h1 := hL i hi
  simp only [Bool.and_eq_true, Bool.not_eq_true', List.all_eq_true, Option.some.injEq, exists_eq_left']
  refine and_congr ?_ ⟨fun h k hk => ?_, fun h k hk => ?_⟩
  ·cases hb : listed.getD i false <;> cases hc : L.contains i <;> simp_all
  ·exact (hL k (by have := hlt i o ho k hk; omega)).2 (h k hk)
  ·exact (hL k (by have := hlt i o ho k hk; omega)).1 (h k hk)
theorem of_steps {listed : Array Bool} {U : List Nat} {L c : List Nat} {a : Act} {w : World} (hl : Left ops listed U) (hlt : ∀ i o, ops[i]? = some o -> ∀ k ∈ edges o, k < i) (hL : ∀ i, i < ops.size -> (listed.getD i false = true ↔ L.contains i = true))
  (hc : covers ops L c = true) (h : ∀ i ∈ c, i ∈ Region.ready .any ops listed -> Go.wpOp P ops Q i (wpAny P .any ops Q (U.length - 1) (listed.setIfInBounds i true)) a w) : wpAny P .any ops Q U.length listed a w := by
 simp only [covers, Bool.and_eq_true, List.any_eq_true, List.all_eq_true, List.mem_range, Bool.or_eq_true, Bool.not_eq_true'] at hc
 obtain ⟨⟨i, hi, hn⟩, hcov⟩ := hc
 have hUn : U ≠ [] := fun hU => by
  have : i ∈ U := (hl.mem i).2 ⟨hi, by
   cases hb : listed.getD i false
   ·rfl
   ·rw [(hL i hi).1 hb] at hn; cases hn⟩
  rw [hU] at this; simp at this
 obtain ⟨n, hn⟩ : ∃ n, U.length = n + 1 := ⟨U.length - 1, by have := List.length_pos_iff.2 hUn; omega⟩
 rw [hn] at h ⊢
 refine ⟨fun hr => absurd hr (some_ready hl hlt hUn), fun i hi => h i ?_ hi⟩
 obtain ⟨o, ho, _, _⟩ := (ready_iff hl.size).1 hi
 have := (hcov i (Array.getElem?_eq_some_iff.1 ho).1).resolve_left (by rw [(readyIn_iff hl hlt hL).2 hi]; simp)
 simpa using this
theorem tree_run {K : St -> Prop} (h0 : True) (hlt : ∀ i o, ops[i]? = some o -> ∀ k ∈ edges o, k < i) (hN : ∀ e a w, e ≠ .normal -> ¬ Q e a w) (hQ : ∀ σ' G' a' w', K σ' -> SRel G0 w0 σ' G' a' w' -> Q .normal a' w') :
  ∀ (t : Tr) (top : Bool) (L : List Nat) (listed : Array Bool) (U : List Nat) (σ : St) (G : Nat -> Status) (a : Act) (w : World), trOk ops top L t = true -> Left ops listed U -> Closed ops (fun k => listed.getD k false) -> (∀ i, i < ops.size -> (listed.getD i false = true ↔ L.contains i = true)) ->
   treeA P ops t σ K -> SRel G0 w0 σ G a w ->
   (top = true -> wpAny P .any ops Q U.length listed a w) /\ ∀ i ∈ t.cover, i ∈ Region.ready .any ops listed -> Go.wpOp P ops Q i (wpAny P .any ops Q (U.length - 1) (listed.setIfInBounds i true)) a w
 | .done, top, L, listed, U, σ, G, a, w, hok, hl, hc, hL, h, hs => by
  simp only [trOk, Bool.and_eq_true, List.all_eq_true, List.mem_range] at hok
  refine ⟨fun _ => ?_, fun i hi => by simp [Tr.cover] at hi⟩
  have hU : U = [] := by
   apply List.eq_nil_iff_forall_not_mem.2
   intro i hi
   obtain ⟨h1, h2⟩ := (hl.mem i).1 hi
   rw [(hL i h1).2 (hok.2 i h1)] at h2; cases h2
  subst hU
  refine ⟨?_, hQ σ G a w h hs⟩
  apply List.eq_nil_iff_forall_not_mem.2
  intro i hi
  obtain ⟨o, ho, h1, _⟩ := (ready_iff hl.size).1 hi
  have hlt' := (Array.getElem?_eq_some_iff.1 ho).1
  rw [(hL i hlt').2 (hok.2 i hlt')] at h1; cases h1
 | .front j t, top, L, listed, U, σ, G, a, w, hok, hl, hc, hL, h, hs => by
  simp only [trOk, Bool.and_eq_true] at hok
  obtain ⟨_, hr, hf, ht⟩ := hok
  have hready := (readyIn_iff hl hlt hL).1 hr
  refine ⟨fun _ => ?_, fun i hi => by simp [Tr.cover] at hi⟩
  obtain ⟨p, hp, k1, k2⟩ := (ready_iff hl.size).1 hready
  rw [hp] at hf
  obtain ⟨d', hfr⟩ := frontOk_front hp hf
  simp only [treeA, frA, hp] at h
  split at h
  ·rename_i d op T pos af g hj
   cases hj
   obtain ⟨hdn, h⟩ := h
   obtain rfl : d = d' := by simpa using hfr.dst
   have hjs := (Array.getElem?_eq_some_iff.1 hp).1
   have hmem : j ∈ U := (hl.mem j).2 ⟨hjs, k1⟩
   obtain ⟨l1, l2⟩ := hl.step hmem
   have hsz : j < listed.size := by rw [hl.size]; exact hjs
   obtain ⟨y, hK, hy⟩ := frontW_sound (p := ⟨some d, op, T, pos, af, g⟩) h
   obtain ⟨v, hv, hex⟩ := hy G a w hs.good (fun x => hs.ev x)
   have hrun := (tree_run h0 hlt hN hQ t true (j :: L) (listed.setIfInBounds j true) (U.erase j) (σ.put (some d) y) G (a.put (some d) v) w ht l1 (hc.step hsz hp k2) (fun i hi => by
     rw [set_getD hsz]
     by_cases hij : j = i
     ·subst hij; simp
     ·rw [if_neg hij, hL i hi]; simp [Ne.symm hij]) hK
    (hs.add (.refl G w) hs.good (fun _ _ h => h) (by simp [dstOk, hdn]) hv)).1 rfl
   rw [<- l2]
   exact front_run hN hfr _ _ _ _ v hl.size hc hready hex hrun
  ·exact h.elim
 | .one j t, top, L, listed, U, σ, G, a, w, hok, hl, hc, hL, h, hs => by
  simp only [trOk, Bool.and_eq_true, Bool.or_eq_true, Bool.not_eq_true'] at hok
  have key : j ∈ Region.ready .any ops listed -> Go.wpOp P ops Q j (wpAny P .any ops Q (U.length - 1) (listed.setIfInBounds j true)) a w := by
   intro hready
   obtain ⟨o, ho, k1, k2⟩ := (ready_iff hl.size).1 hready
   have hjs := (Array.getElem?_eq_some_iff.1 ho).1
   have hmem : j ∈ U := (hl.mem j).2 ⟨hjs, k1⟩
   obtain ⟨l1, l2⟩ := hl.step hmem
   have hsz : j < listed.size := by rw [hl.size]; exact hjs
   simp only [treeA, stepA, ho] at h
   refine one_run h0 ho h hs fun {σ' G' a' w'} hk hs' => ?_
   have := (tree_run h0 hlt hN hQ t true (j :: L) (listed.setIfInBounds j true) (U.erase j) σ' G' a' w' hok.2 l1 (hc.step hsz ho k2) (fun i hi => by
     rw [set_getD hsz]
     by_cases hij : j = i
     ·subst hij; simp
     ·rw [if_neg hij, hL i hi]; simp [Ne.symm hij]) hk hs').1 rfl
   rw [show U.length - 1 = (U.erase j).length by omega]
   exact this
  refine ⟨fun htop => ?_, fun i hi hr => ?_⟩
  ·refine of_steps hl hlt hL (hok.1.resolve_left (by simp [htop])) fun i hi hr => ?_
   have hij : i = j := by simpa using hi
   subst hij; exact key hr
  ·have hij : i = j := by simpa [Tr.cover] using hi
   subst hij; exact key hr
 | .hd j t, top, L, listed, U, σ, G, a, w, hok, hl, hc, hL, h, hs => by
  simp only [trOk, Bool.and_eq_true, Bool.or_eq_true, Bool.not_eq_true'] at hok
  have key : j ∈ Region.ready .any ops listed -> Go.wpOp P ops Q j (wpAny P .any ops Q (U.length - 1) (listed.setIfInBounds j true)) a w := by
   intro hready
   obtain ⟨o, ho, k1, k2⟩ := (ready_iff hl.size).1 hready
   have hjs := (Array.getElem?_eq_some_iff.1 ho).1
   have hmem : j ∈ U := (hl.mem j).2 ⟨hjs, k1⟩
   obtain ⟨l1, l2⟩ := hl.step hmem
   have hsz : j < listed.size := by rw [hl.size]; exact hjs
   simp only [treeA, ho] at h
   refine hd_run h0 ho h hs fun {σ' G' a' w'} hk hs' => ?_
   have := (tree_run h0 hlt hN hQ t true (j :: L) (listed.setIfInBounds j true) (U.erase j) σ' G' a' w' hok.2 l1 (hc.step hsz ho k2) (fun i hi => by
     rw [set_getD hsz]
     by_cases hij : j = i
     ·subst hij; simp
     ·rw [if_neg hij, hL i hi]; simp [Ne.symm hij]) hk hs').1 rfl
   rw [show U.length - 1 = (U.erase j).length by omega]
   exact this
  refine ⟨fun htop => ?_, fun i hi hr => ?_⟩
  ·refine of_steps hl hlt hL (hok.1.resolve_left (by simp [htop])) fun i hi hr => ?_
   have hij : i = j := by simpa using hi
   subst hij; exact key hr
  ·have hij : i = j := by simpa [Tr.cover] using hi
   subst hij; exact key hr
 | .retag x y t, top, L, listed, U, σ, G, a, w, hok, hl, hc, hL, h, hs => by
  simp only [trOk, Bool.and_eq_true] at hok
  exact ⟨fun _ => (tree_run h0 hlt hN hQ t true L listed U _ _ a w hok.2 hl hc hL h.2.2 (hs.retag h0 h.1 h.2.1)).1 rfl, fun i hi => by simp [Tr.cover] at hi⟩
 | .alt x y, top, L, listed, U, σ, G, a, w, hok, hl, hc, hL, h, hs => by
  simp only [trOk, Bool.and_eq_true, Bool.or_eq_true, Bool.not_eq_true'] at hok
  obtain ⟨hcov, hx, hy⟩ := hok
  have ix := (tree_run h0 hlt hN hQ x false L listed U σ G a w hx hl hc hL h.1 hs).2
  have iy := (tree_run h0 hlt hN hQ y false L listed U σ G a w hy hl hc hL h.2 hs).2
  have key : ∀ i ∈ (Tr.alt x y).cover, i ∈ Region.ready .any ops listed -> Go.wpOp P ops Q i (wpAny P .any ops Q (U.length - 1) (listed.setIfInBounds i true)) a w := fun i hi hr => by
   rcases List.mem_append.1 hi with hi | hi
   ·exact ix i hi hr
   ·exact iy i hi hr
  exact ⟨fun htop => of_steps hl hlt hL (hcov.resolve_left (by simp [htop])) key, key⟩
end
theorem DrawK.treeO {P : Program} {ops : Array Oper} {σ : St} {K : St -> Prop} (t : Tr) (hm : P.follows .mixedOrders = true) (hok : treeOk ops t = true) (h : treeA P ops t σ K) : DrawK P ops σ K := by
 intro G0 w0 G a w id Q h0 hs hQ
 simp only [treeOk, Bool.and_eq_true, List.all_eq_true, List.mem_range] at hok
 refine wp_region_any hm (wpAny_normal _ _ _ _ ?_)
 have hgd : ∀ i, (Array.replicate ops.size false).getD i false = false := fun i => by
  by_cases hi : i < ops.size <;> simp [hi]
 have := (tree_run (P := P) (Q := fun e a w => e = .normal /\ Q e a w) h0 (fun i o ho => by
   have := hok.1 i (Array.getElem?_eq_some_iff.1 ho).1
   rw [ho] at this
   simpa only [List.all_eq_true, decide_eq_true_eq] using this) (fun e a w hn h => hn h.1) (fun σ' G' a' w' hk hs => ⟨rfl, hQ σ' G' a' w' hk hs⟩) t true [] (Array.replicate ops.size false) (List.range ops.size) σ G a _ hok.2
   ⟨by simp, List.nodup_range, fun i => by rw [List.mem_range, hgd]; simp⟩ (fun i o _ hi => absurd (show (Array.replicate ops.size false).getD i false = true from hi) (by rw [hgd]; simp)) (fun i _ => by rw [hgd]; simp) h (hs.drawn (w.drawn + 1))).1 rfl
 simpa using this
theorem DrawK.tree {P : Program} {l : List Oper} {σ : St} {K : St -> Prop} (t : Tr) (hm : P.follows .mixedOrders = true) (hok : treeOk l.toArray t = true) (h : treeA P l.toArray t σ K) : DrawK P l.toArray σ K := DrawK.treeO t hm hok h
section
variable {P : Program} {n : Nat} {t : List (Nat × AV)} {b : List (List AV)} {ops : Array Oper} {l : List Oper} {tr tr' : Tr} {j : Nat}
variable {d : Nat} {T : TypeId} {pos : String} {af : Array Edge} {g : Option (Nat × Bool)} {K : St -> Prop}
@[congr] theorem frA_congr {o o' : Option Oper} {σ σ' : St} (h1 : o = o') (h : mkd σ = σ') : frA P o σ K = frA P o' σ' K := by subst_vars; rfl
@[congr] theorem stepA_congr {o o' : Option Oper} {σ σ' : St} (h1 : o = o') (h : mkd σ = σ') : stepA P ops o σ K = stepA P ops o' σ' K := by subst_vars; rfl
@[congr] theorem treeA_congr {σ σ' : St} (h : mkd σ = σ') : treeA P ops tr σ K = treeA P ops tr σ' K := by subst_vars; rfl
@[go_sem] theorem treeA_done : treeA P ops .done ⟨n, t, b⟩ K = K ⟨n, t, b⟩ := rfl
@[go_sem] theorem treeA_front : treeA P l.toArray (.front j tr) ⟨n, t, b⟩ K = frA P l[j]? ⟨n, t, b⟩ fun σ' => treeA P l.toArray tr σ' K := by rw [<- List.getElem?_toArray]; rfl
@[go_sem] theorem treeA_one : treeA P l.toArray (.one j tr) ⟨n, t, b⟩ K = stepA P l.toArray l[j]? ⟨n, t, b⟩ fun σ' => treeA P l.toArray tr σ' K := by rw [<- List.getElem?_toArray]; rfl
@[go_sem] theorem treeA_alt : treeA P ops (.alt tr tr') ⟨n, t, b⟩ K = andK (treeA P ops tr ⟨n, t, b⟩ K) (treeA P ops tr' ⟨n, t, b⟩ K) := rfl
@[go_sem] theorem treeA_retag {x y : Nat} : treeA P ops (.retag x y tr) ⟨n, t, b⟩ K = andK (2 <= x) (andK (2 <= y) (treeA P ops tr (St.map ⟨n, t, b⟩ (retagLeaf x y)) K)) := rfl
@[go_sem] theorem stepA_some {o : Oper} : stepA P ops (some o) ⟨n, t, b⟩ K = opsA P ops [o] ⟨n, t, b⟩ K := rfl
@[congr] theorem stepH_congr {o o' : Option Oper} {σ σ' : St} (h1 : o = o') (h : mkd σ = σ') : stepH P o σ K = stepH P o' σ' K := by subst_vars; rfl
@[go_sem] theorem treeA_hd : treeA P l.toArray (.hd j tr) ⟨n, t, b⟩ K = stepH P l[j]? ⟨n, t, b⟩ fun σ' => treeA P l.toArray tr σ' K := by rw [<- List.getElem?_toArray]; rfl
@[go_sem] theorem stepH_some {op : Op} : stepH P (some ⟨some d, op, T, pos, af, none⟩) ⟨n, t, b⟩ K = andK (St.free ⟨n, t, b⟩ d = true) (headOp P ⟨some d, op, T, pos, af, none⟩ ⟨n, t, b⟩ K) := rfl
@[go_sem] theorem frA_move {x : Operand} : frA P (some ⟨some d, .move x, T, pos, af, g⟩) ⟨n, t, b⟩ K = andK (d < n) (K (St.put ⟨n, t, b⟩ (some d) (St.ev ⟨n, t, b⟩ x))) := rfl
@[go_sem] theorem frA_binOp {op : BinOp} {T' T'' : TypeId} {x y : Operand} : frA P (some ⟨some d, .binOp op T' x y T'', T, pos, af, g⟩) ⟨n, t, b⟩ K = andK (d < n) (evBinSc P op T' (St.ev ⟨n, t, b⟩ x) (St.ev ⟨n, t, b⟩ y) fun r => K (St.put ⟨n, t, b⟩ (some d) r)) := rfl
@[go_sem] theorem frA_extract {x : Operand} {i : Nat} : frA P (some ⟨some d, .extract x i, T, pos, af, g⟩) ⟨n, t, b⟩ K = andK (d < n) (evExtract (St.ev ⟨n, t, b⟩ x) i fun r => K (St.put ⟨n, t, b⟩ (some d) r)) := rfl
@[go_sem] theorem frA_fieldAddr {T' : TypeId} {x : Operand} {f : Nat} : frA P (some ⟨some d, .fieldAddr T' x f, T, pos, af, g⟩) ⟨n, t, b⟩ K = andK (d < n) (evFieldAddr P T' (St.ev ⟨n, t, b⟩ x) f fun r => K (St.put ⟨n, t, b⟩ (some d) r)) := rfl
@[go_sem] theorem frA_indexAddr {T' : TypeId} {x i : Operand} : frA P (some ⟨some d, .indexAddr T' x i, T, pos, af, g⟩) ⟨n, t, b⟩ K = andK (d < n) (andK (isSlice (St.ev ⟨n, t, b⟩ x) = true) (evIndexAddr P T' (St.ev ⟨n, t, b⟩ x) (St.ev ⟨n, t, b⟩ i) fun r => K (St.put ⟨n, t, b⟩ (some d) r))) := by simp [frA, frontW, frontV, andK]
end
theorem freeT_put {d : Nat} {x : AV} (hx : x.allLeaf (freeLeaf d) = true) : ∀ {l : List (Nat × AV)} {s : Nat}, freeT d l = true -> freeT d (putT l s x) = true
 | [], s, _ => by simp [putT, freeT, hx]
 | (s', v) :: r, s, h => by
  simp only [freeT, Bool.and_eq_true] at h
  unfold putT
  split
  ·simp [freeT, hx, h.2]
  ·simp [freeT, h.1, freeT_put hx h.2]
def posE (E : List Nat) (L : Nat -> Bool) : Nat := (E.filter L).length
def EffC (P : Program) (σ0 : St) (i0 : Nat) (o : Oper) (d : Nat) (ρ : Operand -> AV) (c : List AV) (y : AV) (c' : List AV) : Prop :=
 o.guard = none /\ ∃ fid args As r c1, o.op = .call { callee := .value (.func fid), args := args, argTypes := As } /\ dedup (pbss (args.toList.map ρ)) = [i0] /\ allLeafs noTag (args.toList.map ρ) = true /\ allNoTags [c] = true /\
  Con P fid (mapTops (pbIn [i0]) (args.toList.map ρ)) (mapB (pbIn [i0]) [c]) (fun r' bx => r' = r /\ bx = [c1]) /\ r.allLeaf lt64b = true /\ allNoTags [c1] = true /\
  y = r.mapTop (outLeaf (64 * (d + 1)) [i0] σ0.boxes.length) /\ [c'] = mapB (outLeaf (64 * (d + 1)) [i0] σ0.boxes.length) [c1]
def blankC : List Nat -> List AV -> List AV
 | [], c => c
 | _ :: _, c => c.map fun _ => .any
structure AtE (vs : List (Nat × AV)) (E : List Nat) (C : Nat -> List AV) (i0 : Nat) (L : Nat -> Bool) (σ τ : St) : Prop where
 n : τ.n = σ.n
 boxes : τ.boxes = σ.boxes.set i0 (C (posE E L))
 dst : ∀ (i d : Nat) (y : AV), vs[i]? = some (d, y) -> τ.get d = if L i = true then y else σ.get d
 rest : ∀ s : Nat, (∀ (i d : Nat) (y : AV), vs[i]? = some (d, y) -> d ≠ s) -> τ.get s = σ.get s
section
variable {P : Program} {ops : Array Oper} {m : Nat} {vs : List (Nat × AV)} {E : List Nat} {C : Nat -> List AV} {i0 : Nat} {σ : St} {K : St -> Prop} {G0 : Orig} {w0 : World} {Q : Exit -> Act -> World -> Prop}
theorem BRel.blank {gh : Gh} {G : Nat -> Status} {w : World} {bx : List (List AV)} {c c' : List AV} (h : BRel gh G w (bx.set i0 c)) (hl : c.length = c'.length) (he : E = [] -> c = c') : BRel gh G w (bx.set i0 (blankC E c')) := by
 cases E with
 | nil => rw [<- he rfl]; exact h
 | cons e E =>
 refine ⟨fun i vs hv => by have := h.low i vs hv; simpa using this, fun i cs hi => ?_⟩
 rw [List.getElem?_set] at hi
 by_cases hii : i0 = i
 ·subst hii
  rw [if_pos rfl] at hi
  split at hi
  ·rename_i hlt
   cases hi
   have h2 := h.cell i0 c (by rw [List.getElem?_set, if_pos rfl, if_pos hlt])
   refine h2.turn (by simp [blankC, hl]) (fun j x y v h3 h4 hr => ?_) (fun b hb => ⟨hb, rfl⟩) fun h0 => h0
   unfold blankC at h4
   rw [List.getElem?_map] at h4
   cases hc : c'[j]? with
   | none => simp [hc] at h4
   | some z => simp [hc] at h4; subst h4; exact .froz (.any _)
  ·cases hi
 ·rw [if_neg hii] at hi
  exact h.cell i cs (by rw [List.getElem?_set, if_neg hii]; exact hi)
theorem posE_step {L L' : Nat -> Bool} {i : Nat} (hn : E.Nodup) (hL : ∀ j, j ≠ i -> L' j = L j) (h1 : L i = false) (h2 : L' i = true) : posE E L' = posE E L + if i ∈ E then 1 else 0 := by
 unfold posE
 induction E with
 | nil => simp
 | cons e E ih =>
  have hn' := List.nodup_cons.1 hn
  have ih := ih hn'.2
  by_cases he : e = i
  ·subst he
   have hni : e ∉ E := hn'.1
   rw [if_neg hni] at ih
   simp only [List.filter_cons, h1, h2, if_true, Bool.false_eq_true, if_false, List.length_cons, List.mem_cons, true_or, if_true]
   omega
  ·simp only [List.filter_cons, hL e he, List.mem_cons, Ne.symm he, false_or]
   split
   ·simp only [List.length_cons]; omega
   ·exact ih
structure PlanE (ops : Array Oper) (m : Nat) (E : List Nat) : Prop where
 nodup : E.Nodup
 lt : ∀ e ∈ E, e < m
 chain : ∀ e ∈ E, ∀ e' ∈ E, e < e' -> reach ops ops.size e' e = true
def sgIs (sg : Option (Nat × Tr)) (j : Nat) : Bool := match sg with
 | some (x, _) => j == x
 | none => false
def sgA (P : Program) (ops : Array Oper) (sg : Option (Nat × Tr)) (σ : St) (K : St -> Prop) : Prop := match sg with
 | none => True
 | some (x, t) => match ops[x]? with
  | some o => ∃ d, o.dst = some d /\ treeA P ops t (σ.put (some d) .any) K
  | none => False
structure PlanL (ops : Array Oper) (m : Nat) (E LF : List Nat) (tr : Tr) (sg : Option (Nat × Tr)) : Prop where
 le : m <= ops.size
 lt : ∀ i o, ops[i]? = some o -> ∀ k ∈ edges o, k < i
 head : ∀ i o, ops[i]? = some o -> i < m -> ∃ d, o.dst = some d /\ d ∉ slotsG ops o /\ ∀ j p s, j < m -> j ≠ i -> ops[j]? = some p -> p.dst = some s -> s ≠ d /\ (s ∈ slotsG ops o -> if j < i then reach ops ops.size i j = true else reach ops ops.size j i = true)
 tail : ∀ i o, ops[i]? = some o -> m <= i -> ∀ j, j < m -> j ∉ LF -> sgIs sg j = false -> reach ops ops.size i j = true
 fr : ∀ j ∈ LF, j < m /\ j ∉ E /\ ∀ p, ops[j]? = some p -> ∃ d, Front ops j p d
 tr : trOk ops true (List.range m) tr = true
 sg : ∀ x t, sg = some (x, t) -> x < m /\ x ∉ E /\ x ∉ LF /\ (∀ j ∈ LF, ∀ p, ops[j]? = some p -> x ∉ edges p) /\ trOk ops true ((List.range m).filter fun i => !(i == x)) t = true
def FrontC (P : Program) (o : Oper) (ρ : Operand -> AV) (y : AV) : Prop :=
 ∀ (G : Nat -> Status) (a : Act) (w : World), Good G w -> (∀ x ∈ o.op.operands, VRel G w (ρ x) (a.eval x)) -> ∃ v, VRel G w y v /\ ∀ w', (execOp a.eval o).run P w' = .ok (.value v) w'
end
def EffK (P : Program) (n0 i0 : Nat) (o : Oper) (σ : St) (c : List AV) (K : St -> List AV -> Prop) : Prop :=
 ∃ d y c', o.dst = some d /\ d < σ.n /\ EffC P ⟨0, [], List.replicate n0 []⟩ i0 o d σ.ev c y c' /\ c'.length = c.length /\ allLeafs noTag c' = true /\ K (σ.put (some d) y) c'
def frB (P : Program) (o : Oper) (σ : St) (K : St -> Prop) : Prop := frA P (some o) σ K
theorem frB_sound {P : Program} {o : Oper} {σ : St} {K : St -> Prop} (h : frB P o σ K) : ∃ d y, o.dst = some d /\ d < σ.n /\ K (σ.put (some d) y) /\ FrontC P o σ.ev y := by
 unfold frB frA at h
 split at h
 ·rename_i d op T pos af g hj
  cases hj
  obtain ⟨hdn, h⟩ := h
  obtain ⟨y, hK, hy⟩ := frontW_sound' (p := ⟨some d, op, T, pos, af, g⟩) h
  exact ⟨d, y, rfl, hdn, hK, hy⟩
 ·exact h.elim
def cntE (E : List Nat) (i : Nat) : Nat := posE E fun e => decide (e < i)
theorem cntE_succ {E : List Nat} (hn : E.Nodup) (i : Nat) : cntE E (i + 1) = cntE E i + if i ∈ E then 1 else 0 :=
 posE_step hn (fun j hj => by simp only [decide_eq_decide]; omega) (by simp) (by simp)
section
variable {P : Program} {ops : Array Oper} {n0 i0 : Nat} {E LF : List Nat}
def freeBut (d : Nat) : List (Nat × AV) -> Bool
 | [] => true
 | (s, v) :: r => (s == d || v.allLeaf (freeLeaf d)) && freeBut d r
def freeOthers (l : List (Nat × AV)) : List Nat -> Bool
 | [] => true
 | d :: r => freeBut d l && freeOthers l r
theorem noTag_free {d : Nat} : ∀ (x : AV), noTag x = true -> freeLeaf d x = true := fun x h => by
 cases x <;> simp [noTag, freeLeaf] at h ⊢
 all_goals (first | (unfold root; omega) | skip)
def nodupE : List Nat -> Bool
 | [] => true
 | e :: r => !r.contains e && nodupE r
theorem nodupE_spec : ∀ {E : List Nat}, nodupE E = true -> E.Nodup
 | [], _ => List.nodup_nil
 | e :: r, h => by
  simp only [nodupE, Bool.and_eq_true, Bool.not_eq_true'] at h
  exact List.nodup_cons.2 ⟨by simpa using h.1, nodupE_spec h.2⟩
def effOk (ops : Array Oper) (m : Nat) (E : List Nat) : Bool :=
 nodupE E && E.all (fun e => decide (e < m)) && E.all fun e => E.all fun e' => !decide (e < e') || reach ops ops.size e' e
def lateOk (ops : Array Oper) (m : Nat) (E LF : List Nat) (tr : Tr) (sg : Option (Nat × Tr)) : Bool :=
 decide (m <= ops.size) && ((List.range ops.size).all (fun i => match ops[i]? with
  | none => false
  | some o => if i < m then headOkG ops m i o else (edges o).all (fun k => decide (k < i)) && (List.range m).all fun j => LF.contains j || (sgIs sg j || reach ops ops.size i j)) &&
 (LF.all (fun j => decide (j < m) && (!E.contains j && match ops[j]? with | none => false | some p => frontOk ops j p)) && (trOk ops true (List.range m) tr && match sg with
  | none => true
  | some (x, t) => decide (x < m) && (!E.contains x && (!LF.contains x && ((LF.all fun j => match ops[j]? with | none => false | some p => !(edges p).contains x) && trOk ops true ((List.range m).filter fun i => !(i == x)) t))))))
theorem lateOk_plan {ops : Array Oper} {m : Nat} {E LF : List Nat} {tr : Tr} {sg : Option (Nat × Tr)} (h : lateOk ops m E LF tr sg = true) : PlanL ops m E LF tr sg := by
 simp only [lateOk, Bool.and_eq_true, decide_eq_true_eq, List.all_eq_true, List.mem_range, Bool.not_eq_true'] at h
 obtain ⟨h1, h2, h3, h4, h5⟩ := h
 have hof : ∀ i o, ops[i]? = some o -> (if i < m then headOkG ops m i o else (edges o).all (fun k => decide (k < i)) && (List.range m).all fun j => LF.contains j || (sgIs sg j || reach ops ops.size i j)) = true := fun i o ho => by
  have := h2 i (Array.getElem?_eq_some_iff.1 ho).1
  rw [ho] at this; simpa using this
 refine ⟨h1, fun i o ho k hk => ?_, fun i o ho hi => ?_, fun i o ho hi j hj hjL hjs => ?_, fun j hj => ⟨(h3 j hj).1, by simpa using (h3 j hj).2.1, fun p hp => ?_⟩, h4, fun x t hsg => ?_⟩
 ·have := hof i o ho
  split at this
  ·simp only [headOkG, Bool.and_eq_true, List.all_eq_true, decide_eq_true_eq] at this
   exact this.1 k hk
  ·simp only [Bool.and_eq_true, List.all_eq_true, decide_eq_true_eq] at this
   exact this.1 k hk
 ·have := hof i o ho
  rw [if_pos hi] at this
  simp only [headOkG, Bool.and_eq_true] at this
  obtain ⟨_, g3⟩ := this
  split at g3
  ·cases g3
  ·rename_i d hd
   simp only [Bool.and_eq_true, List.all_eq_true, List.mem_range, Bool.not_eq_true', Bool.or_eq_true, beq_iff_eq] at g3
   refine ⟨d, hd, by simpa using g3.1, fun j p s hj hji hp hs => ?_⟩
   have := (g3.2 j hj).resolve_left hji
   simp only [hp, hs, Bool.and_eq_true, bne_iff_ne, ne_eq, Bool.or_eq_true, Bool.not_eq_true'] at this
   refine ⟨this.1, fun hm => ?_⟩
   have h' := this.2.resolve_left (by simpa using hm)
   split at h'
   ·rename_i hlt; rw [if_pos hlt]; exact h'
   ·rename_i hlt; rw [if_neg hlt]; exact h'
 ·have := hof i o ho
  rw [if_neg (by omega)] at this
  simp only [Bool.and_eq_true, List.all_eq_true, List.mem_range, Bool.or_eq_true] at this
  exact ((this.2 j hj).resolve_left (by simpa using hjL)).resolve_left (by rw [hjs]; simp)
 ·have := (h3 j hj).2.2
  rw [hp] at this
  exact frontOk_front hp this
 ·subst hsg
  simp only [Bool.and_eq_true, decide_eq_true_eq, Bool.not_eq_true', List.all_eq_true] at h5
  refine ⟨h5.1, by simpa using h5.2.1, by simpa using h5.2.2.1, fun j hj p hp => ?_, h5.2.2.2.2⟩
  have := h5.2.2.2.1 j hj
  rw [hp] at this
  simpa using this
theorem puts_eq : ∀ (vs : List (Nat × AV)) (σ : St) (b : List (List AV)), puts { σ with boxes := b } vs = { puts σ vs with boxes := b }
 | [], σ, b => rfl
 | p :: r, σ, b => by simp only [puts]; exact puts_eq r (σ.put (some p.1) p.2) b
theorem puts_boxes : ∀ (vs : List (Nat × AV)) (σ : St), (puts σ vs).boxes = σ.boxes
 | [], σ => rfl
 | p :: r, σ => by simp only [puts]; rw [puts_boxes r, put_boxes]
theorem puts_ev (vs : List (Nat × AV)) (σ : St) (b : List (List AV)) : (puts { σ with boxes := b } vs).ev = (puts σ vs).ev := by
 funext x; rw [puts_eq]; cases x <;> rfl
theorem puts_get (vs : List (Nat × AV)) (σ : St) (b : List (List AV)) (s : Nat) : (puts { σ with boxes := b } vs).get s = (puts σ vs).get s := by rw [puts_eq]; rfl
def DrawN (P : Program) (ops : Array Oper) (σ : St) (K : St -> Prop) : Prop :=
 ∀ (G0 : Orig) (w0 : World) (G : Nat -> Status) (a : Act) (w : World) (Q : Exit -> Act -> World -> Prop), True -> SRel G0 w0 σ G a w -> (∀ e a w, e ≠ .normal -> ¬ Q e a w) -> (∀ σ' G' a' w', K σ' -> SRel G0 w0 σ' G' a' w' -> Q .normal a' w') -> wpAny P .any ops Q ops.size (Array.replicate ops.size false) a w
theorem DrawK.ofN {σ : St} {K : St -> Prop} (hm : P.follows .mixedOrders = true) (h : DrawN P ops σ K) : DrawK P ops σ K := by
 intro G0 w0 G a w id Q h0 hs hQ
 exact wp_region_any hm (wpAny_normal _ _ _ _ (h G0 w0 G a _ _ h0 (hs.drawn (w.drawn + 1)) (fun e a w hn h => hn h.1) fun σ' G' a' w' hk hs => ⟨rfl, hQ σ' G' a' w' hk hs⟩))
end
def renO (π : List Nat) (o : Oper) : Oper := ⟨o.dst, o.op, o.type, o.pos, o.after.map fun e => ⟨π.idxOf e.on, e.ground⟩, o.guard.map fun p => (π.idxOf p.1, p.2)⟩
def permG (π : List Nat) (l : List Oper) : List Nat -> List Oper
 | [] => []
 | i :: r => match l[i]? with
  | some o => renO π o :: permG π l r
  | none => []
def headX (P : Program) (ops : Array Oper) (n0 i0 : Nat) (E LF ds : List Nat) (tr : Tr) (sg : Option (Nat × Tr)) : Nat -> Nat -> List Oper -> St -> List AV -> (St -> Prop) -> Prop
 | _, 0, _, σ, c, K => freeOthers σ.tmps ds = true /\ (treeA P ops tr { σ with boxes := σ.boxes.set i0 c } K /\ sgA P ops sg { σ with boxes := σ.boxes.set i0 c } K)
 | _, _ + 1, [], σ, c, K => freeOthers σ.tmps ds = true /\ (treeA P ops tr { σ with boxes := σ.boxes.set i0 c } K /\ sgA P ops sg { σ with boxes := σ.boxes.set i0 c } K)
 | k, m + 1, o :: r, σ, c, K => if E.contains k = true then EffK P n0 i0 o σ c fun σ' c' => headX P ops n0 i0 E LF ds tr sg (k + 1) m r σ' c' K else if LF.contains k = true then frB P o σ fun σ' => headX P ops n0 i0 E LF ds tr sg (k + 1) m r σ' c K else headG P ops o σ fun σ' => headX P ops n0 i0 E LF ds tr sg (k + 1) m r σ' c K
theorem crs_creators (l : List Oper) (m : Nat) : creators l.toArray m = crs (l.take m) := by rw [crs_eq]; rfl
section
variable {P : Program} {n : Nat} {t : List (Nat × AV)} {b : List (List AV)} {ops : Array Oper} {n0 i0 k m : Nat} {E LF ds : List Nat} {tr : Tr} {sg : Option (Nat × Tr)} {l : List Oper} {c : List AV} {K : St -> Prop}
variable {d : Nat} {T : TypeId} {pos : String} {af : Array Edge} {g : Option (Nat × Bool)}
@[congr] theorem headX_congr {n0' k' : Nat} {σ σ' : St} {c' : List AV} (h0 : n0 = n0') (h1 : k = k') (h : mkd σ = σ') (h2 : c = c') : headX P ops n0 i0 E LF ds tr sg k m l σ c K = headX P ops n0' i0 E LF ds tr sg k' m l σ' c' K := by subst_vars; rfl
@[congr] theorem EffK_congr {n0' : Nat} {o : Oper} {σ σ' : St} {c' : List AV} {K : St -> List AV -> Prop} (h0 : n0 = n0') (h : mkd σ = σ') (h2 : c = c') : EffK P n0 i0 o σ c K = EffK P n0' i0 o σ' c' K := by subst_vars; rfl
@[congr] theorem frB_congr {o : Oper} {σ σ' : St} {K : St -> Prop} (h : mkd σ = σ') : frB P o σ K = frB P o σ' K := by subst_vars; rfl
@[go_sem] theorem frB_eq {o : Oper} : frB P o ⟨n, t, b⟩ K = frA P (some o) ⟨n, t, b⟩ K := rfl
@[go_sem] theorem headX_zero : headX P ops n0 i0 E LF ds tr sg k 0 l ⟨n, t, b⟩ c K = andK (freeOthers t ds = true) (andK (treeA P ops tr ⟨n, t, b.set i0 c⟩ K) (sgA P ops sg ⟨n, t, b.set i0 c⟩ K)) := by cases l <;> rfl
@[go_sem] theorem headX_nil : headX P ops n0 i0 E LF ds tr sg k (m + 1) [] ⟨n, t, b⟩ c K = andK (freeOthers t ds = true) (andK (treeA P ops tr ⟨n, t, b.set i0 c⟩ K) (sgA P ops sg ⟨n, t, b.set i0 c⟩ K)) := rfl
@[go_sem] theorem headX_succ {dst : Option Tmp} {op : Op} : headX P ops n0 i0 E LF ds tr sg k (m + 1) (⟨dst, op, T, pos, af, none⟩ :: l) ⟨n, t, b⟩ c K = selK (E.contains k) (EffK P n0 i0 ⟨dst, op, T, pos, af, none⟩ ⟨n, t, b⟩ c fun σ' c' => headX P ops n0 i0 E LF ds tr sg (k + 1) m l σ' c' K)
  (selK (LF.contains k) (frB P ⟨dst, op, T, pos, af, none⟩ ⟨n, t, b⟩ fun σ' => headX P ops n0 i0 E LF ds tr sg (k + 1) m l σ' c K) (headOp P ⟨dst, op, T, pos, af, none⟩ ⟨n, t, b⟩ fun σ' => headX P ops n0 i0 E LF ds tr sg (k + 1) m l σ' c K)) := by rw [selK_ite, selK_ite]; rfl
def sgD (P : Program) (ops : Array Oper) (o : Option Oper) (tr : Tr) (σ : St) (K : St -> Prop) : Prop := match o with
 | some ⟨some d, _, _, _, _, _⟩ => treeA P ops tr (σ.put (some d) .any) K
 | _ => False
@[congr] theorem sgA_congr {σ σ' : St} (h : mkd σ = σ') : sgA P ops sg σ K = sgA P ops sg σ' K := by subst_vars; rfl
@[congr] theorem sgD_congr {o o' : Option Oper} {σ σ' : St} (h1 : o = o') (h : mkd σ = σ') : sgD P ops o tr σ K = sgD P ops o' tr σ' K := by subst_vars; rfl
@[go_sem] theorem sgA_none : sgA P ops none ⟨n, t, b⟩ K = True := rfl
@[go_sem] theorem sgD_some {op : Op} : sgD P ops (some ⟨some d, op, T, pos, af, g⟩) tr ⟨n, t, b⟩ K = treeA P ops tr (St.put ⟨n, t, b⟩ (some d) .any) K := rfl
def consO (o : Option Oper) (r : List Oper) : List Oper := match o with
 | some o => o :: r
 | none => []
@[go_sem] theorem consO_some {o : Oper} {r : List Oper} : consO (some o) r = o :: r := rfl
@[go_sem] theorem permG_nil {π : List Nat} : permG π l [] = [] := rfl
@[go_sem] theorem renO_mk {π : List Nat} {dst : Option Tmp} {op : Op} : renO π ⟨dst, op, T, pos, af, none⟩ = ⟨dst, op, T, pos, af.map fun e => ⟨π.idxOf e.on, e.ground⟩, none⟩ := rfl
attribute [go_sem] freeOthers freeBut blankC
theorem EffK.mk {fid : FuncId} {args : List Operand} {As : Array TypeId} {args' c0 c1 : List AV} {r : AV} {K : St -> List AV -> Prop} (hcon : Con P fid args' [c0] fun r' bx => r' = r /\ bx = [c1])
  (hc : d < n /\ dedup (pbss (evAll ⟨n, t, b⟩ args)) = [i0] /\ allLeafs noTag (evAll ⟨n, t, b⟩ args) = true /\ allLeafs noTag c = true) (ha : mapTops (pbIn [i0]) (evAll ⟨n, t, b⟩ args) = args') (hc0 : mapTops (pbIn [i0]) c = c0)
  (hr : r.allLeaf lt64b = true /\ allLeafs noTag c1 = true /\ (mapTops (outLeaf (64 * (d + 1)) [i0] n0) c1).length = c.length /\ allLeafs noTag (mapTops (outLeaf (64 * (d + 1)) [i0] n0) c1) = true)
  (hk : K (St.put ⟨n, t, b⟩ (some d) (r.mapTop (outLeaf (64 * (d + 1)) [i0] n0))) (mapTops (outLeaf (64 * (d + 1)) [i0] n0) c1)) :
  EffK P n0 i0 ⟨some d, .call ⟨.value (.func fid), args.toArray, As⟩, T, pos, af, none⟩ ⟨n, t, b⟩ c K := by
 rw [evAll_eq] at hc ha
 refine ⟨d, _, _, rfl, hc.1, ⟨rfl, fid, args.toArray, As, r, c1, rfl, hc.2.1, hc.2.2.1, by simp [allNoTags, hc.2.2.2], ?_, hr.1, by simp [allNoTags, hr.2.1], by rw [List.length_replicate], by simp [mapB]⟩, hr.2.2.1, hr.2.2.2, hk⟩
 rw [ha, show mapB (pbIn [i0]) [c] = [c0] by simp [mapB, hc0]]
 exact hcon
end
end Go.AM
namespace Go.AM
open Go.RowKit Go.Proofs Go.Shelf
end Go.AM
namespace Go.AM
open Go Go.Proofs Go.RowKit
theorem wrap_in {n : Int} (h1 : -9223372036854775808 <= n) (h2 : n <= 9223372036854775807) : IntKind.i64.wrap n = n := by rw [IntKind.wrap_i64]; omega
def vi (x : Int) : AV := .sc (.int .i64 x)
def vu (x : Int) : AV := .sc (.int .u8 x)
def vs (t : Nat) (l : List Int) : AV := .sl t 1 (l.map vi)
theorem getv {l : List Int} {i : Nat} (h : i < l.length) : (l.map vi)[i]? = some (.sc (.int .i64 l[i]!)) := by simp [vi, h]
theorem getu {l : List Int} {i : Nat} (h : i < l.length) : (l.map vu)[i]? = some (.sc (.int .u8 l[i]!)) := by simp [vu, h]
def findI {α : Type} (p : α -> Bool) (l : List α) : Int := match l.findIdx? p with | some i => i | none => -1
theorem findI_stop {α : Type} [Inhabited α] {p : α -> Bool} {l : List α} {i : Nat} (h : i < l.length) (hb : ∀ j, j < i -> p l[j]! = false) (hp : p l[i]! = true) : findI p l = i := by
 have : l.findIdx? p = some i := by
  rw [List.findIdx?_eq_some_iff_getElem]
  refine ⟨h, by simpa [h] using hp, fun j hj => ?_⟩
  have := hb j hj
  have hjl : j < l.length := by omega
  simpa [hjl] using this
 simp [findI, this]
theorem findI_none {α : Type} [Inhabited α] {p : α -> Bool} {l : List α} (hb : ∀ j, j < l.length -> p l[j]! = false) : findI p l = -1 := by
 have : l.findIdx? p = none := by
  rw [List.findIdx?_eq_none_iff]
  intro x hx
  obtain ⟨j, hj⟩ := List.getElem?_of_mem hx
  have hjl := (List.getElem?_eq_some_iff.1 hj).1
  have := hb j hjl
  have e : l[j]! = x := by simp [hj]
  rw [e] at this; exact this
 simp [findI, this]
theorem findI_ge {α : Type} (p : α -> Bool) (l : List α) : decide (0 <= findI p l) = l.any p := by
 unfold findI
 cases h : l.findIdx? p with
 | none =>
  rw [List.findIdx?_eq_none_iff] at h
  have : l.any p = false := by simpa using h
  simp [this]
 | some i =>
  rw [List.findIdx?_eq_some_iff_getElem] at h
  obtain ⟨h1, h2, _⟩ := h
  have : l.any p = true := List.any_eq_true.2 ⟨l[i], List.getElem_mem _, h2⟩
  simp [this]
def vb (b : Bool) : AV := .sc (.bool b)
attribute [go_sem] vi vu vs vb
def vbl (t : Nat) (row : List Bool) : AV := .sl t 1 (row.map vb)
theorem Con.args {P : Program} {f : FuncId} {args args' : List AV} {bx : List (List AV)} {post : AV -> List (List AV) -> Prop} (h : Con P f args bx post)
  (ha : ∀ (G : Nat -> Status) (w : World) (vs : List Value), PW (VRel G w) args' vs -> PW (VRel G w) args vs) : Con P f args' bx post :=
 ⟨h.1, fun G w vs h1 h2 h3 h4 h5 => h.2 G w vs h1 h2 h3 h4 (ha G w _ h5)⟩
def Sub (x y : AV) : Prop := ∀ (S : Nat -> Prop) (w : World) (v : Value), FRel S w x v -> FRel S w y v
theorem Sub.refl (x : AV) : Sub x x := fun _ _ _ h => h
theorem Sub.nil (es : Nat) : Sub .nil (.sl 0 es []) := fun S w v h => by
 cases h; exact .slNil 0 es none 0 (by omega) (fun h => by omega) (fun _ => rfl)
theorem Con.freezeR {P : Program} {f : FuncId} {args : List AV} {post : AV -> Prop} (p : Nat -> Bool) (h : Con P f args [] fun r _ => post r) : Con P f args [] fun r' _ => ∃ r, post r /\ r' = r.freeze p :=
 ⟨h.1, fun G w vs h1 h2 h3 h4 h5 => (h.2 G w vs h1 h2 h3 h4 h5).mono fun e w' ⟨v, r, bx', G', he, hq, hr, hg, hbx, hlt, e1, e2, e3, e4, e5, e6⟩ => by
  have hbox : ∀ k i, freezeG p G' k = .box i ↔ G' k = .box i := fun k i => by
   unfold freezeG; split
   ·rename_i t ht; split <;> simp [ht]
   ·exact Iff.rfl
  refine ⟨v, _, bx'.map (fun cs => cs.map (AV.freeze p)), freezeG p G', he, ⟨r, hq, rfl⟩, hr.freeze, hg.freeze, ⟨fun i vs hv => by simp [noGh] at hv, fun i cs hi => ?_⟩, fun k i hk => by simpa using hlt k i ((hbox k i).1 hk), e1, e2, e3, e4, fun k hk => ?_, e6⟩
  ·rw [List.getElem?_map] at hi
   cases hc : bx'[i]? with
   | none => simp [hc] at hi
   | some cs' =>
    simp [hc] at hi; subst hi
    exact (hbx.cell i cs' hc).map (fun x v hr => hr.freeze) (fun k hk => ⟨(hbox k i).2 hk, rfl⟩) fun h0 k hk => h0 k ((hbox k i).1 hk)
  ·have := e5 k hk
   unfold freezeG
   split
   ·rename_i t ht; rw [this] at ht; exact absurd ht (h2 k t)
   ·exact this⟩
theorem modify_vi {Z : List Int} {q : Nat} {x : Int} : (List.map vi Z).modify q (updElem 0 [AV.sc (.int .i64 x)]) = List.map vi (Z.set q x) := by
 apply List.ext_getElem?
 intro j
 rw [List.getElem?_modify, List.getElem?_map, List.getElem?_map, List.getElem?_set]
 by_cases hq : q = j
 ·subst hq
  by_cases hl : q < Z.length
  ·simp [hl, vi, updElem]
  ·simp [hl]
 ·simp [hq]
def metD (ks : List (List UInt8)) : DataW Unit := Go.Maps.setOf (.lit (.bool true)) (ks.map Lit.string)
theorem metD_snoc (ks : List (List UInt8)) (k : List UInt8) : (metD ks).put (.string k) (.lit (.bool true)) = metD (ks ++ [k]) := by
 unfold metD; rw [List.map_append]; exact (Go.Maps.setOf_snoc _ _ _).symm
theorem metD_tidy (ks : List (List UInt8)) : Go.Maps.Tidy (metD ks) := Go.Maps.tidy_setOf _ _ fun x hx => by
 obtain ⟨k, _, rfl⟩ := List.mem_map.1 hx; trivial
theorem metD_at : ∀ (ks : List (List UInt8)) (k : List UInt8), boolAt (metD ks) (.string k) = ks.contains k := by
 intro ks k
 have : ∀ (n : Nat) (ks : List (List UInt8)), ks.length = n -> boolAt (metD ks) (.string k) = ks.contains k := by
  intro n
  induction n with
  | zero => intro ks h; obtain rfl := List.eq_nil_of_length_eq_zero h; rfl
  | succ n ih =>
   intro ks h
   obtain ⟨ks', x, rfl⟩ : ∃ ks' x, ks = ks' ++ [x] := ⟨ks.dropLast, ks.getLast (by intro e; rw [e] at h; simp at h), (List.dropLast_concat_getLast _).symm⟩
   have ih' := ih ks' (by simpa using h)
   rw [<- metD_snoc]
   by_cases hk : k = x
   ·subst hk
    unfold boolAt
    rw [Go.Maps.atKey_put_same (metD_tidy _).isMap (by trivial)]
    simp
   ·unfold boolAt at ih' ⊢
    rw [Go.Maps.atKey_put_other (by intro e; cases e; exact hk rfl), ih']
    simp [hk]
 exact this _ ks rfl
attribute [go_sem] vbl
inductive CV where
 | mk (n : Int) (kids : List CV)
 deriving Inhabited
def CV.n : CV -> Int
 | .mk n _ => n
def CV.kids : CV -> List CV
 | .mk _ k => k
mutual
def vV : CV -> AV
 | .mk n kids => .ag [vi n, .sl 0 2 (vVs kids)]
def vVs : List CV -> List AV
 | [] => []
 | x :: l => vV x :: vVs l
end
theorem vVs_map : ∀ l : List CV, vVs l = l.map vV
 | [] => rfl
 | x :: l => by rw [vVs, vVs_map l]; rfl
theorem vV_eq (a : CV) : vV a = .ag [vi a.n, .sl 0 2 (a.kids.map vV)] := by cases a; rw [vV, vVs_map]; rfl
def ordI (a b : Int) : Int := if a < b then -1 else if b < a then 1 else 0
mutual
def cmpV : CV -> CV -> Int
 | .mk n k, .mk m l => if n ≠ m then ordI n m else if k.length ≠ l.length then ordI k.length l.length else cmpVs k l
def cmpVs : List CV -> List CV -> Int
 | [], [] => 0
 | [], _ :: _ => -1
 | _ :: _, [] => 1
 | x :: k, y :: l => if cmpV x y ≠ 0 then cmpV x y else cmpVs k l
end
inductive CV.Ok : CV -> Prop
 | mk (n : Int) (k : List CV) : k.length <= 9223372036854775807 -> (∀ x ∈ k, CV.Ok x) -> CV.Ok (.mk n k)
theorem CV.Ok.len {a : CV} (h : a.Ok) : a.kids.length <= 9223372036854775807 := by cases h; assumption
theorem CV.Ok.kid {a : CV} (h : a.Ok) {x : CV} (hx : x ∈ a.kids) : x.Ok := by cases h with | mk n k _ h2 => exact h2 x hx
theorem kid_size {a x : CV} (h : x ∈ a.kids) : SizeOf.sizeOf x < SizeOf.sizeOf a := by
 cases a with
 | mk n k => have := List.sizeOf_lt_of_mem h; simp only [CV.kids] at *; rw [CV.mk.sizeOf_spec]; omega
theorem getvV {l : List CV} {i : Nat} (h : i < l.length) : (l.map vV)[i]? = some (.ag [.sc (.int .i64 l[i]!.n), .sl 0 2 (l[i]!.kids.map vV)]) := by
 rw [List.getElem?_map, List.getElem?_eq_getElem h, getElem!_pos l i h, Option.map_some, vV_eq]; rfl
theorem Sub.slE {t es : Nat} {xs ys : List AV} (hl : xs.length = ys.length) (hy : ∀ y ∈ ys, y.cells.length = es) (h : PW Sub (flat xs) (flat ys)) : Sub (.sl t es xs) (.sl t es ys) := fun S w v hv => by
 cases hv with
 | slNil _ _ a c h1 h2 h3 =>
  have : ys = [] := List.eq_nil_of_length_eq_zero (by simpa using hl.symm)
  subst this; exact .slNil t es a c h1 h2 h3
 | sl _ _ _ b off c vals h1 h2 h3 hc h4 h5 h0 h6 h7 =>
  rw [hl]
  refine .sl t es ys b off c vals h1 h2 (fun e => by rw [h3 e, hl]) (by omega) hy (by rw [<- h.1]; exact h5) h0 h6 fun j y u hj hu => ?_
  have hjl : j < (flat xs).length := by rw [h.1]; exact (List.getElem?_eq_some_iff.1 hj).1
  exact h.2 j _ y (List.getElem?_eq_getElem hjl) hj S w u (h7 j _ u (List.getElem?_eq_getElem hjl) hu)
theorem leV_slE {t es : Nat} {xs ys : List AV} (hl : xs.length = ys.length) (hy : ∀ y ∈ ys, y.cells.length = es) (h : PW Sub (flat xs) (flat ys)) : leV (.sl t es xs) (.sl t es ys) := leV_sem fun G w v hv => by
 cases hv with
 | froz h' => exact .froz (Sub.slE hl hy h _ _ _ h')
 | own _ _ _ _ e vals h1 h2 h3 h4 h0 h5 =>
  refine .own t es ys v e vals h1 (by rw [<- hl]; exact h2) h3 hy h0 ⟨by rw [<- h.1]; exact h5.1, fun j y u hj hu => ?_⟩
  have hjl : j < (flat xs).length := by rw [h.1]; exact (List.getElem?_eq_some_iff.1 hj).1
  exact h.2 j _ y (List.getElem?_eq_getElem hjl) hj _ _ u (h5.2 j _ u (List.getElem?_eq_getElem hjl) hu)
end Go.AM
namespace Go.AM
structure RD where
 name : ByteArray
 src : Int
 dst : Int
 need : List Int
 give : List Int
 move : List Int
 channel : Int := 0
 act : Int := 0
 letter : Int := 0
 path : List Int := []
 next : List Int := []
 takes : List (Int × Int × Int) := []
 makes : List Int := []
 second : Int := 0
 deriving Inhabited
structure AtomD where
 coefs : List Int
 mod : Int
 values : List Int
 deriving Inhabited
def fireL : List Int -> List Int -> List Int -> List Int
 | v :: vs, n :: ns, g :: gs => (v - n + g) :: fireL vs ns gs
 | _, _, _ => []
def fireF (r : RD) (v : List Int) : List Int := fireL v r.need r.give
theorem fireL_len : ∀ {v n g : List Int}, n.length = v.length -> g.length = v.length -> (fireL v n g).length = v.length
 | [], [], [], _, _ => rfl
 | v :: vs, n :: ns, g :: gs, h1, h2 => by
  simp only [fireL, List.length_cons]
  rw [fireL_len (by simpa using h1) (by simpa using h2)]
 | [], _ :: _, _, h, _ => by simp at h
 | [], [], _ :: _, _, h => by simp at h
 | _ :: _, [], _, h, _ => by simp at h
 | _ :: _, _ :: _, [], _, h => by simp at h
theorem fireL_at : ∀ {v n g : List Int} {i : Nat}, n.length = v.length -> g.length = v.length -> i < v.length -> (fireL v n g)[i]! = v[i]! - n[i]! + g[i]!
 | v :: vs, n :: ns, g :: gs, 0, _, _, _ => rfl
 | v :: vs, n :: ns, g :: gs, i + 1, h1, h2, h => by
  simp only [fireL, List.getElem!_cons_succ]
  exact fireL_at (by simpa using h1) (by simpa using h2) (by simpa using h)
 | [], _, _, _, _, _, h => by simp at h
 | _ :: _, [], _, _, h, _, _ => by simp at h
 | _ :: _, _ :: _, [], _, _, h, _ => by simp at h
def RightR (ns np : Nat) (r : RD) : Prop := 0 <= r.src /\ r.src < ns /\ 0 <= r.dst /\ r.dst < ns /\ r.need.length = np /\ r.give.length = np
end Go.AM
namespace Go.AM
open Go Go.Proofs Go.RowKit
def vStr (s : ByteArray) : AV := .sc (.string s)
def vss (l : List ByteArray) : AV := .sl 0 1 (l.map vStr)
def vTake (t : Int × Int × Int) : AV := .ag [vi t.1, vi t.2.1, vi t.2.2]
def vRule (r : RD) : AV := .ag [vStr r.name, vi r.src, vi r.dst, vs 0 r.need, vs 0 r.give, vs 0 r.move, vi r.channel, vi r.act, vi r.letter, vs 0 r.path, vs 0 r.next, .sl 0 3 (r.takes.map vTake), vs 0 r.makes, vi r.second]
structure MD where
 kind : Int
 states : List ByteArray
 places : List ByteArray
 letters : List ByteArray := []
 ranks : List Int := []
 levels : Int := 0
 age : Int := 0
 rules : List RD
 start : CV
 deriving Inhabited
def cM (m : MD) : List AV := [vi m.kind, vss m.states, vss m.places, vss m.letters, vs 0 m.ranks, vi m.levels, vi m.age, .sl 0 14 (m.rules.map vRule), vi m.start.n, .sl 0 2 (m.start.kids.map vV)]
def vM (m : MD) : AV := .ag (cM m)
def letterB (c : UInt8) : Bool := decide (97 <= c) && decide (c <= 122)
def digitB (c : UInt8) : Bool := decide (48 <= c) && decide (c <= 57)
def partB (c : UInt8) : Bool := letterB c || digitB c || c == 95
def wordB (s : ByteArray) : Bool := decide (0 < s.size) && decide (s.size <= 12) && letterB (s.get! 0) && s.toList.all partB
def kwL : List ByteArray := [⟨#[109, 111, 100, 101, 108]⟩, ⟨#[115, 116, 97, 116, 101, 115]⟩, ⟨#[112, 108, 97, 99, 101, 115]⟩, ⟨#[108, 101, 116, 116, 101, 114, 115]⟩, ⟨#[108, 101, 118, 101, 108, 115]⟩, ⟨#[97, 103, 101]⟩, ⟨#[114, 117, 108, 101]⟩, ⟨#[110, 101, 101, 100]⟩, ⟨#[103, 105, 118, 101]⟩, ⟨#[109, 111, 118, 101]⟩, ⟨#[101, 109, 112, 116, 121]⟩, ⟨#[115, 101, 110, 100]⟩, ⟨#[114, 101, 99, 101, 105, 118, 101]⟩, ⟨#[112, 97, 116, 104]⟩, ⟨#[110, 101, 120, 116]⟩, ⟨#[116, 97, 107, 101]⟩, ⟨#[109, 97, 107, 101]⟩, ⟨#[115, 116, 97, 114, 116]⟩]
def keywordB (s : ByteArray) : Bool := kwL.any fun k => s.toList == k.toList
def okN (l : List ByteArray) (i : Nat) : Bool := wordB l[i]! && !keywordB l[i]! && !((l.take i).map fun s => s.data.toList).contains l[i]!.data.toList
def namesB (l : List ByteArray) : Bool := (List.range l.length).all (okN l)
def namesOf (m : MD) : List ByteArray := m.states ++ m.places ++ m.letters ++ m.rules.map RD.name
def betweenB (x low high : Int) : Bool := decide (low <= x) && decide (x <= high)
def smallB (l : List Int) : Bool := l.all fun x => betweenB x 0 16
def changesB (np : Nat) (r : RD) : Bool := decide (r.need.length = np) && decide (r.give.length = np) && smallB r.need && smallB r.give
def movesB (np : Nat) (r : RD) : Bool := (r.move.length == 0) || (decide (r.move.length = np) && r.move.all fun x => betweenB x (-1) (np - 1))
def indexB (x : Int) (n : Nat) : Bool := decide (0 <= x) && decide (x < n)
def ruleB (ns np : Nat) (r : RD) : Bool := indexB r.dst ns && indexB r.src ns && changesB np r && movesB np r
def bareB (r : RD) : Bool := r.channel == 0 && r.act == 0 && r.letter == 0 && r.path.length == 0 && r.next.length == 0 && r.takes.length == 0 && r.makes.length == 0 && r.second == 0
def confB (ns np : Nat) (c : CV) : Bool :=
 match c with
 | .mk n (x :: l) => n == 0 && decide (0 <= x.n) && decide (x.n < ns) && x.kids.length == 0 && l.length == np && l.all (fun k => decide (0 <= k.n) && decide (k.n <= 1048576) && k.kids.length == 0)
 | _ => false
structure GoodM (m : MD) : Prop where
 kind : m.kind = 1
 states : 1 <= m.states.length /\ m.states.length <= 8
 places : 1 <= m.places.length /\ m.places.length <= 6
 few : m.rules.length <= 12
 letters : m.letters = []
 ranks : m.ranks = []
 levels : m.levels = 0
 age : m.age = 0
 names : namesB (namesOf m) = true
 rules : ∀ r ∈ m.rules, ruleB m.states.length m.places.length r = true /\ bareB r = true
 start : confB m.states.length m.places.length m.start = true
structure PreM (m : MD) : Prop where
 kind : m.kind = 1
 states : 1 <= m.states.length /\ m.states.length <= 8
 places : 1 <= m.places.length /\ m.places.length <= 6
 few : m.rules.length <= 12
 letters : m.letters = []
 ranks : m.ranks = []
 levels : m.levels = 0
 age : m.age = 0
 names : namesB (namesOf m) = true
 rules : ∀ r ∈ m.rules, ruleB m.states.length m.places.length r = true /\ bareB r = true
theorem GoodM.pre {m : MD} (h : GoodM m) : PreM m := ⟨h.kind, h.states, h.places, h.few, h.letters, h.ranks, h.levels, h.age, h.names, h.rules⟩
theorem getRule {l : List RD} {i : Nat} (h : i < l.length) : (l.map vRule)[i]? = some (vRule l[i]!) := by
 rw [List.getElem?_map, List.getElem?_eq_getElem h, getElem!_pos l i h, Option.map_some]
theorem getStr {l : List ByteArray} {i : Nat} (h : i < l.length) : (l.map vStr)[i]? = some (.sc (.string l[i]!)) := by
 rw [List.getElem?_map, List.getElem?_eq_getElem h, getElem!_pos l i h, Option.map_some]; rfl
end Go.AM
namespace Go.Proofs.YtapjfgddbfneaaaGreat
open Go.ChangeShapes Go.WideShapes Go.ChangeAt Go.RowKit Go.AM
theorem own : ownKnob Tryz.prog.godebug = none := by kernel_rfl
theorem laidOut : laidOutB Tryz.prog = true := by kernel_rfl
section
variable {H : Type} {enc : TypeId × Value -> H} {P : Program} {w : World} {base : Nat} {spare : Nat -> Bool} {held : Bool}
def numU (d : DataW H) : Int := IntKind.u8.wrap (numI d)
theorem numU_range (d : DataW H) : 0 <= numU d /\ numU d < 256 := by unfold numU; rw [IntKind.wrap_u8]; omega
theorem stands_u8 {e : TypeId} (he : P.underlying e = some (.int .u8)) : Stands enc P w base spare held e fun d => vu (numU d) := by
 intro n v d ps h
 obtain ⟨x, e0, e1, wx⟩ := DataW.trod_int he h
 simp only [List.cons.injEq, and_true] at e0
 simp only [Prod.mk.injEq] at e1
 obtain ⟨rfl, _⟩ := e1
 subst e0
 have e2 : numU (.lit (.int .u8 x) : DataW H) = x := by
  have : IntKind.u8.wrap x = x := by
   have h1 : 0 <= x /\ x <= 255 := by simpa [Lit.wf, IntKind.min, IntKind.max, IntKind.signed, IntKind.bits] using wx
   rw [IntKind.wrap_u8]; omega
  exact this
 simp only [e2, vu]
 exact ⟨.sc _, rfl, rfl⟩
theorem row_len {α : Type} {t e : TypeId} {f : DataW H -> α} {v : Value} {d : DataW H} {ps : List MemPlace} (ht : P.underlying t = some (.slice e)) (hc : P.cellsOf e = 1) (h1 : v.cells.toList = [v]) (h : DataW.Trod enc P w base spare held t v d ps) : (rowOf f d).length <= 9223372036854775807 := by
 obtain ⟨n, h⟩ := h
 rw [h1] at h
 rcases Go.Deep.open_slice1 ht hc h with ⟨_, h2⟩ | ⟨a, len, cap, m, n', V, D, Pl, _, _, hl, hm, _, h2, _⟩
 ·simp only [Prod.mk.injEq] at h2
  obtain ⟨rfl, _⟩ := h2
  simp [rowOf]
 ·simp only [Prod.mk.injEq] at h2
  obtain ⟨rfl, _⟩ := h2
  simp only [rowOf, List.length_map, List.length_range]
  unfold maxLen at hm; omega
theorem rowU_range (d : DataW H) : ∀ x ∈ rowOf numU d, 0 <= x /\ x < 256 := fun x hx => by
 cases d <;> simp only [rowOf, List.not_mem_nil] at hx
 obtain ⟨y, _, rfl⟩ := List.mem_map.1 hx
 exact numU_range y
end
end Go.Proofs.YtapjfgddbfneaaaGreat
namespace Go.AM
open Go Go.Proofs
theorem tinfo_3 : tinfo Tryz.prog 3 = some (1, 8, some (Value.int IntKind.i64 (0))) := by kernel_rfl
theorem agg_3 : aggT Tryz.prog 3 = some false := by kernel_rfl
theorem tinfo_4 : tinfo Tryz.prog 4 = some (1, 1, some (Value.bool false)) := by kernel_rfl
theorem agg_4 : aggT Tryz.prog 4 = some false := by kernel_rfl
theorem tinfo_5 : tinfo Tryz.prog 5 = some (1, 1, some (Value.int IntKind.u8 (0))) := by kernel_rfl
theorem agg_5 : aggT Tryz.prog 5 = some false := by kernel_rfl
theorem tinfo_9 : tinfo Tryz.prog 9 = some (1, 16, some (Value.string (ByteArray.mk (List.toArray [])))) := by kernel_rfl
theorem agg_9 : aggT Tryz.prog 9 = some false := by kernel_rfl
theorem tinfo_22 : tinfo Tryz.prog 22 = some (1, 24, some (Value.slice none 0 0)) := by kernel_rfl
theorem agg_22 : aggT Tryz.prog 22 = some false := by kernel_rfl
theorem tinfo_26 : tinfo Tryz.prog 26 = some (1, 24, some (Value.slice none 0 0)) := by kernel_rfl
theorem agg_26 : aggT Tryz.prog 26 = some false := by kernel_rfl
theorem tinfo_27 : tinfo Tryz.prog 27 = some (1, 24, some (Value.slice none 0 0)) := by kernel_rfl
theorem agg_27 : aggT Tryz.prog 27 = some false := by kernel_rfl
theorem tinfo_28 : tinfo Tryz.prog 28 = some (1, 24, some (Value.slice none 0 0)) := by kernel_rfl
theorem agg_28 : aggT Tryz.prog 28 = some false := by kernel_rfl
theorem tinfo_29 : tinfo Tryz.prog 29 = some (1, 24, some (Value.slice none 0 0)) := by kernel_rfl
theorem agg_29 : aggT Tryz.prog 29 = some false := by kernel_rfl
theorem tinfo_31 : tinfo Tryz.prog 31 = some (2, 32, some (Value.agg (List.toArray [Value.int IntKind.i64 (0), Value.slice none 0 0]))) := by kernel_rfl
theorem agg_31 : aggT Tryz.prog 31 = some true := by kernel_rfl
theorem tinfo_33 : tinfo Tryz.prog 33 = some (10, 176, some (Value.agg (List.toArray [Value.int IntKind.i64 (0), Value.slice none 0 0, Value.slice none 0 0, Value.slice none 0 0, Value.slice none 0 0, Value.int IntKind.i64 (0), Value.int IntKind.i64 (0), Value.slice none 0 0, Value.int IntKind.i64 (0), Value.slice none 0 0]))) := by kernel_rfl
theorem agg_33 : aggT Tryz.prog 33 = some true := by kernel_rfl
theorem tinfo_35 : tinfo Tryz.prog 35 = some (1, 24, some (Value.slice none 0 0)) := by kernel_rfl
theorem agg_35 : aggT Tryz.prog 35 = some false := by kernel_rfl
theorem tinfo_37 : tinfo Tryz.prog 37 = some (2, 32, some (Value.agg (List.toArray [Value.slice none 0 0, Value.int IntKind.i64 (0)]))) := by kernel_rfl
theorem agg_37 : aggT Tryz.prog 37 = some true := by kernel_rfl
theorem tinfo_45 : tinfo Tryz.prog 45 = some (1, 24, some (Value.slice none 0 0)) := by kernel_rfl
theorem agg_45 : aggT Tryz.prog 45 = some false := by kernel_rfl
theorem tinfo_49 : tinfo Tryz.prog 49 = some (3, 40, some (Value.agg (List.toArray [Value.int IntKind.i64 (0), Value.int IntKind.i64 (0), Value.slice none 0 0]))) := by kernel_rfl
theorem tinfo_55 : tinfo Tryz.prog 55 = some (2, 48, some (Value.agg (List.toArray [Value.slice none 0 0, Value.slice none 0 0]))) := by kernel_rfl
theorem agg_55 : aggT Tryz.prog 55 = some true := by kernel_rfl
theorem tinfo_61 : tinfo Tryz.prog 61 = some (2, 32, some (Value.agg (List.toArray [Value.int IntKind.i64 (0), Value.slice none 0 0]))) := by kernel_rfl
theorem agg_61 : aggT Tryz.prog 61 = some true := by kernel_rfl
theorem tinfo_71 : tinfo Tryz.prog 71 = some (2, 32, some (Value.agg (List.toArray [Value.slice none 0 0, Value.int IntKind.i64 (0)]))) := by kernel_rfl
theorem tinfo_74 : tinfo Tryz.prog 74 = some (1, 24, some (Value.slice none 0 0)) := by kernel_rfl
theorem agg_74 : aggT Tryz.prog 74 = some false := by kernel_rfl
theorem tinfo_76 : tinfo Tryz.prog 76 = some (14, 232, some (Value.agg (List.toArray [Value.string (ByteArray.mk (List.toArray [])), Value.int IntKind.i64 (0), Value.int IntKind.i64 (0), Value.slice none 0 0, Value.slice none 0 0, Value.slice none 0 0, Value.int IntKind.i64 (0), Value.int IntKind.i64 (0), Value.int IntKind.i64 (0), Value.slice none 0 0, Value.slice none 0 0, Value.slice none 0 0, Value.slice none 0 0, Value.int IntKind.i64 (0)]))) := by kernel_rfl
theorem agg_76 : aggT Tryz.prog 76 = some true := by kernel_rfl
theorem tinfo_83 : tinfo Tryz.prog 83 = some (4, 48, some (Value.agg (List.toArray [Value.int IntKind.i64 (0), Value.slice none 0 0, Value.int IntKind.i64 (0), Value.int IntKind.i64 (0)]))) := by kernel_rfl
theorem agg_83 : aggT Tryz.prog 83 = some true := by kernel_rfl
theorem tinfo_100 : tinfo Tryz.prog 100 = some (13, 232, some (Value.agg (List.toArray [Value.int IntKind.i64 (0), Value.slice none 0 0, Value.slice none 0 0, Value.slice none 0 0, Value.slice none 0 0, Value.int IntKind.i64 (0), Value.int IntKind.i64 (0), Value.slice none 0 0, Value.int IntKind.i64 (0), Value.slice none 0 0, Value.int IntKind.i64 (0), Value.slice none 0 0, Value.slice none 0 0]))) := by kernel_rfl
theorem agg_116 : aggT Tryz.prog 116 = some false := by kernel_rfl
theorem tinfo_136 : tinfo Tryz.prog 136 = some (1, 24, some (Value.slice none 0 0)) := by kernel_rfl
theorem agg_136 : aggT Tryz.prog 136 = some false := by kernel_rfl
theorem tinfo_138 : tinfo Tryz.prog 138 = some (4, 64, some (Value.agg (List.toArray [Value.int IntKind.i64 (0), Value.int IntKind.i64 (0), Value.slice none 0 0, Value.slice none 0 0]))) := by kernel_rfl
theorem agg_138 : aggT Tryz.prog 138 = some true := by kernel_rfl
theorem tinfo_171 : tinfo Tryz.prog 171 = some (2, 16, some (Value.agg (List.toArray [Value.int IntKind.i64 (0), Value.int IntKind.i64 (0)]))) := by kernel_rfl
theorem tinfo_173 : tinfo Tryz.prog 173 = some (8, 64, some (Value.agg (List.toArray [Value.int IntKind.i64 (0), Value.int IntKind.i64 (0), Value.int IntKind.i64 (0), Value.int IntKind.i64 (0), Value.int IntKind.i64 (0), Value.int IntKind.i64 (0), Value.int IntKind.i64 (0), Value.int IntKind.i64 (0)]))) := by kernel_rfl
theorem agg_173 : aggT Tryz.prog 173 = some true := by kernel_rfl
theorem tinfo_193 : tinfo Tryz.prog 193 = some (3, 24, some (Value.agg (List.toArray [Value.int IntKind.i64 (0), Value.int IntKind.i64 (0), Value.int IntKind.i64 (0)]))) := by kernel_rfl
theorem agg_193 : aggT Tryz.prog 193 = some true := by kernel_rfl
theorem places_31 : placesOf Tryz.prog 31 = some [(0, 1), (1, 1)] := by kernel_rfl
theorem field_31_0 : fieldOf Tryz.prog 31 0 = some (0, 3) := by kernel_rfl
theorem field_31_1 : fieldOf Tryz.prog 31 1 = some (1, 29) := by kernel_rfl
theorem places_33 : placesOf Tryz.prog 33 = some [(0, 1), (1, 1), (2, 1), (3, 1), (4, 1), (5, 1), (6, 1), (7, 1), (8, 2)] := by kernel_rfl
theorem field_33_0 : fieldOf Tryz.prog 33 0 = some (0, 3) := by kernel_rfl
theorem field_33_1 : fieldOf Tryz.prog 33 1 = some (1, 26) := by kernel_rfl
theorem field_33_2 : fieldOf Tryz.prog 33 2 = some (2, 26) := by kernel_rfl
theorem field_33_3 : fieldOf Tryz.prog 33 3 = some (3, 26) := by kernel_rfl
theorem field_33_4 : fieldOf Tryz.prog 33 4 = some (4, 27) := by kernel_rfl
theorem field_33_5 : fieldOf Tryz.prog 33 5 = some (5, 3) := by kernel_rfl
theorem field_33_6 : fieldOf Tryz.prog 33 6 = some (6, 3) := by kernel_rfl
theorem field_33_7 : fieldOf Tryz.prog 33 7 = some (7, 28) := by kernel_rfl
theorem field_33_8 : fieldOf Tryz.prog 33 8 = some (8, 31) := by kernel_rfl
theorem places_37 : placesOf Tryz.prog 37 = some [(0, 1), (1, 1)] := by kernel_rfl
theorem field_37_0 : fieldOf Tryz.prog 37 0 = some (0, 35) := by kernel_rfl
theorem field_37_1 : fieldOf Tryz.prog 37 1 = some (1, 3) := by kernel_rfl
theorem places_49 : placesOf Tryz.prog 49 = some [(0, 1), (1, 2)] := by kernel_rfl
theorem field_49_0 : fieldOf Tryz.prog 49 0 = some (0, 3) := by kernel_rfl
theorem field_49_1 : fieldOf Tryz.prog 49 1 = some (1, 31) := by kernel_rfl
theorem places_55 : placesOf Tryz.prog 55 = some [(0, 1), (1, 1)] := by kernel_rfl
theorem field_55_0 : fieldOf Tryz.prog 55 0 = some (0, 27) := by kernel_rfl
theorem field_55_1 : fieldOf Tryz.prog 55 1 = some (1, 27) := by kernel_rfl
theorem places_61 : placesOf Tryz.prog 61 = some [(0, 1), (1, 1)] := by kernel_rfl
theorem field_61_0 : fieldOf Tryz.prog 61 0 = some (0, 3) := by kernel_rfl
theorem field_61_1 : fieldOf Tryz.prog 61 1 = some (1, 27) := by kernel_rfl
theorem places_71 : placesOf Tryz.prog 71 = some [(0, 1), (1, 1)] := by kernel_rfl
theorem field_71_0 : fieldOf Tryz.prog 71 0 = some (0, 22) := by kernel_rfl
theorem field_71_1 : fieldOf Tryz.prog 71 1 = some (1, 3) := by kernel_rfl
theorem places_76 : placesOf Tryz.prog 76 = some [(0, 1), (1, 1), (2, 1), (3, 1), (4, 1), (5, 1), (6, 1), (7, 1), (8, 1), (9, 1), (10, 1), (11, 1), (12, 1), (13, 1)] := by kernel_rfl
theorem field_76_0 : fieldOf Tryz.prog 76 0 = some (0, 9) := by kernel_rfl
theorem field_76_1 : fieldOf Tryz.prog 76 1 = some (1, 3) := by kernel_rfl
theorem field_76_2 : fieldOf Tryz.prog 76 2 = some (2, 3) := by kernel_rfl
theorem field_76_3 : fieldOf Tryz.prog 76 3 = some (3, 27) := by kernel_rfl
theorem field_76_4 : fieldOf Tryz.prog 76 4 = some (4, 27) := by kernel_rfl
theorem field_76_5 : fieldOf Tryz.prog 76 5 = some (5, 27) := by kernel_rfl
theorem field_76_6 : fieldOf Tryz.prog 76 6 = some (6, 3) := by kernel_rfl
theorem field_76_7 : fieldOf Tryz.prog 76 7 = some (7, 3) := by kernel_rfl
theorem field_76_8 : fieldOf Tryz.prog 76 8 = some (8, 3) := by kernel_rfl
theorem field_76_9 : fieldOf Tryz.prog 76 9 = some (9, 27) := by kernel_rfl
theorem field_76_10 : fieldOf Tryz.prog 76 10 = some (10, 27) := by kernel_rfl
theorem field_76_11 : fieldOf Tryz.prog 76 11 = some (11, 74) := by kernel_rfl
theorem field_76_12 : fieldOf Tryz.prog 76 12 = some (12, 27) := by kernel_rfl
theorem field_76_13 : fieldOf Tryz.prog 76 13 = some (13, 3) := by kernel_rfl
theorem places_83 : placesOf Tryz.prog 83 = some [(0, 1), (1, 1), (2, 1), (3, 1)] := by kernel_rfl
theorem field_83_0 : fieldOf Tryz.prog 83 0 = some (0, 3) := by kernel_rfl
theorem field_83_1 : fieldOf Tryz.prog 83 1 = some (1, 27) := by kernel_rfl
theorem field_83_2 : fieldOf Tryz.prog 83 2 = some (2, 3) := by kernel_rfl
theorem field_83_3 : fieldOf Tryz.prog 83 3 = some (3, 3) := by kernel_rfl
theorem places_100 : placesOf Tryz.prog 100 = some [(0, 10), (10, 1), (11, 1), (12, 1)] := by kernel_rfl
theorem field_100_0 : fieldOf Tryz.prog 100 0 = some (0, 33) := by kernel_rfl
theorem field_100_1 : fieldOf Tryz.prog 100 1 = some (10, 3) := by kernel_rfl
theorem field_100_2 : fieldOf Tryz.prog 100 2 = some (11, 27) := by kernel_rfl
theorem field_100_3 : fieldOf Tryz.prog 100 3 = some (12, 45) := by kernel_rfl
theorem places_138 : placesOf Tryz.prog 138 = some [(0, 1), (1, 1), (2, 1), (3, 1)] := by kernel_rfl
theorem field_138_0 : fieldOf Tryz.prog 138 0 = some (0, 3) := by kernel_rfl
theorem field_138_1 : fieldOf Tryz.prog 138 1 = some (1, 3) := by kernel_rfl
theorem field_138_2 : fieldOf Tryz.prog 138 2 = some (2, 27) := by kernel_rfl
theorem field_138_3 : fieldOf Tryz.prog 138 3 = some (3, 136) := by kernel_rfl
theorem places_171 : placesOf Tryz.prog 171 = some [(0, 1), (1, 1)] := by kernel_rfl
theorem places_173 : placesOf Tryz.prog 173 = some [(0, 2), (2, 2), (4, 2), (6, 2)] := by kernel_rfl
theorem field_173_0 : fieldOf Tryz.prog 173 0 = some (0, 171) := by kernel_rfl
theorem field_173_1 : fieldOf Tryz.prog 173 1 = some (2, 171) := by kernel_rfl
theorem field_173_2 : fieldOf Tryz.prog 173 2 = some (4, 171) := by kernel_rfl
theorem field_173_3 : fieldOf Tryz.prog 173 3 = some (6, 171) := by kernel_rfl
theorem mixed : Tryz.prog.follows .mixedOrders = true := by kernel_rfl
attribute [go_sem] Tryz.underlying0 Tryz.underlying1 Tryz.underlying2 tinfo_3 agg_3 Tryz.underlying3 tinfo_4 agg_4 Tryz.underlying4 tinfo_5 agg_5 Tryz.underlying5 Tryz.underlying6 Tryz.underlying7 Tryz.underlying8 tinfo_9 agg_9 Tryz.underlying9 Tryz.underlying10 Tryz.underlying11 Tryz.underlying12 Tryz.underlying13 Tryz.underlying14 Tryz.underlying15 Tryz.underlying16 Tryz.underlying17 Tryz.underlying18 Tryz.underlying19 Tryz.underlying20 Tryz.underlying21 tinfo_22 agg_22 Tryz.underlying22 Tryz.underlying23 Tryz.underlying24 Tryz.underlying25 tinfo_26 agg_26 Tryz.underlying26 tinfo_27 agg_27 Tryz.underlying27 tinfo_28 agg_28 Tryz.underlying28 tinfo_29 agg_29 Tryz.underlying29 Tryz.underlying30 tinfo_31 agg_31 Tryz.underlying31 Tryz.underlying32 tinfo_33 agg_33 Tryz.underlying33 Tryz.underlying34 tinfo_35 agg_35 Tryz.underlying35 Tryz.underlying36 tinfo_37 agg_37 Tryz.underlying37 Tryz.underlying38 Tryz.underlying39 Tryz.underlying40 Tryz.underlying41 Tryz.underlying42 Tryz.underlying43 Tryz.underlying44 tinfo_45 agg_45 Tryz.underlying45 Tryz.underlying46 Tryz.underlying47 Tryz.underlying48 tinfo_49 Tryz.underlying49 Tryz.underlying50 Tryz.underlying51 Tryz.underlying52 Tryz.underlying53 Tryz.underlying54 tinfo_55 agg_55 Tryz.underlying55 Tryz.underlying56 Tryz.underlying57 Tryz.underlying58 Tryz.underlying59 Tryz.underlying60 tinfo_61 agg_61 Tryz.underlying61 Tryz.underlying62 Tryz.underlying63 Tryz.underlying64 Tryz.underlying65 Tryz.underlying66 Tryz.underlying67 Tryz.underlying68 Tryz.underlying69 Tryz.underlying70 tinfo_71 Tryz.underlying71 Tryz.underlying72 Tryz.underlying73 tinfo_74 agg_74 Tryz.underlying74 Tryz.underlying75 tinfo_76 agg_76 Tryz.underlying76 Tryz.underlying77 Tryz.underlying78 Tryz.underlying79 Tryz.underlying80 Tryz.underlying81 Tryz.underlying82 tinfo_83 agg_83 Tryz.underlying83 Tryz.underlying84 Tryz.underlying85 Tryz.underlying86 Tryz.underlying87 Tryz.underlying88 Tryz.underlying89 Tryz.underlying90 Tryz.underlying91 Tryz.underlying92 Tryz.underlying93 Tryz.underlying94 Tryz.underlying95 Tryz.underlying96 Tryz.underlying97 Tryz.underlying98 Tryz.underlying99 tinfo_100 Tryz.underlying100 Tryz.underlying101 Tryz.underlying102 Tryz.underlying103 Tryz.underlying104 Tryz.underlying105 Tryz.underlying106 Tryz.underlying107 Tryz.underlying108 Tryz.underlying109 Tryz.underlying110 Tryz.underlying111 Tryz.underlying112 Tryz.underlying113 Tryz.underlying114 Tryz.underlying115 agg_116 Tryz.underlying116 Tryz.underlying117 Tryz.underlying118 Tryz.underlying119 Tryz.underlying120 Tryz.underlying121 Tryz.underlying122 Tryz.underlying123 Tryz.underlying124 Tryz.underlying125 Tryz.underlying126 Tryz.underlying127 Tryz.underlying128 Tryz.underlying129 Tryz.underlying130 Tryz.underlying131 Tryz.underlying132 Tryz.underlying133 Tryz.underlying134 Tryz.underlying135 tinfo_136 agg_136 Tryz.underlying136 Tryz.underlying137 tinfo_138 agg_138 Tryz.underlying138 Tryz.underlying139 Tryz.underlying140 Tryz.underlying141 Tryz.underlying142 Tryz.underlying143 Tryz.underlying144 Tryz.underlying145 Tryz.underlying146 Tryz.underlying147 Tryz.underlying148 Tryz.underlying149 Tryz.underlying150 Tryz.underlying151 Tryz.underlying152 Tryz.underlying153 Tryz.underlying154 Tryz.underlying155 Tryz.underlying156 Tryz.underlying157 Tryz.underlying158 Tryz.underlying159 Tryz.underlying160 Tryz.underlying161 Tryz.underlying162 Tryz.underlying163 Tryz.underlying164 Tryz.underlying165 Tryz.underlying166 Tryz.underlying167 Tryz.underlying168 Tryz.underlying169 Tryz.underlying170 tinfo_171 Tryz.underlying171 Tryz.underlying172 tinfo_173 agg_173 Tryz.underlying173 Tryz.underlying174 Tryz.underlying175 Tryz.underlying176 Tryz.underlying177 Tryz.underlying178 Tryz.underlying179 Tryz.underlying180 Tryz.underlying181 Tryz.underlying182 Tryz.underlying183 Tryz.underlying184 Tryz.underlying185 Tryz.underlying186 Tryz.underlying187 Tryz.underlying188 Tryz.underlying189 Tryz.underlying190 Tryz.underlying191 Tryz.underlying192 tinfo_193 agg_193 Tryz.underlying193 Tryz.underlying194 Tryz.underlying195 Tryz.underlying196 Tryz.underlying197 Tryz.underlying198 Tryz.underlying199 Tryz.underlying200 Tryz.underlying201 Tryz.underlying202 Tryz.underlying203 Tryz.underlying204 Tryz.underlying205 Tryz.underlying206 Tryz.underlying207 Tryz.underlying208 Tryz.underlying209 Tryz.underlying210 Tryz.underlying211 Tryz.underlying212 Tryz.underlying213 Tryz.underlying214 Tryz.underlying215 Tryz.underlying216 Tryz.underlying217 Tryz.underlying218 Tryz.underlying219 Tryz.underlying220 Tryz.underlying221 Tryz.underlying222 Tryz.underlying223 Tryz.underlying224 Tryz.underlying225 Tryz.underlying226 Tryz.underlying227 Tryz.underlying228 Tryz.underlying229 Tryz.underlying230 Tryz.underlying231 Tryz.underlying232 Tryz.underlying233 Tryz.underlying234 Tryz.underlying235 Tryz.underlying236 Tryz.underlying237 Tryz.underlying238 places_31 field_31_0 field_31_1 places_33 field_33_0 field_33_1 field_33_2 field_33_3 field_33_4 field_33_5 field_33_6 field_33_7 field_33_8 places_37 field_37_0 field_37_1 places_49 field_49_0 field_49_1 places_55 field_55_0 field_55_1 places_61 field_61_0 field_61_1 places_71 field_71_0 field_71_1 places_76 field_76_0 field_76_1 field_76_2 field_76_3 field_76_4 field_76_5 field_76_6 field_76_7 field_76_8 field_76_9 field_76_10 field_76_11 field_76_12 field_76_13 places_83 field_83_0 field_83_1 field_83_2 field_83_3 places_100 field_100_0 field_100_1 field_100_2 field_100_3 places_138 field_138_0 field_138_1 field_138_2 field_138_3 places_171 places_173 field_173_0 field_173_1 field_173_2 field_173_3
end Go.AM
namespace Go.AM
end Go.AM
namespace Go.AM
open Go Go.Proofs Go.RowKit
set_option maxRecDepth 100000
def diceA (l : List Int) (at_ : Nat) : List AV := [.sl 0 1 (l.map vu), .sc (.int .i64 at_)]
attribute [go_sem] diceA
def Seeds (l : List Int) : Prop := l.length <= 200 /\ ∀ x ∈ l, 0 <= x /\ x < 256
theorem con_new (l : List Int) (hl : l.length <= 9223372036854775807) : Con Tryz.prog 8 [.sl 0 1 (l.map vu)] [] fun r b => r = .pb 0 0 /\ b = [diceA (l.take 200) 0] := by
 refine Con.intro Tryz.func8 rfl Tryz.ntmps8 Tryz.results8 (by kernel_rfl) (by simp) 1 (by simp) ?_
 by_cases h : (200 : Int) < l.length
 ·have h2 : 200 <= l.length := by omega
  simp only [go_sem, h, h2]
  simp [List.map_take]
 ·have e : l.take 200 = l := List.take_of_length_le (by omega)
  simp only [go_sem, h, e]
def pickV (l : List Int) (at_ : Nat) (n : Int) : Int := if l.length <= at_ then 0 else l[at_]! % n
def pickA (l : List Int) (at_ : Nat) : Nat := if l.length <= at_ then at_ else at_ + 1
theorem pickV_lt {l : List Int} {at_ : Nat} {n : Int} (hn : 1 <= n) : 0 <= pickV l at_ n /\ pickV l at_ n < n := by
 unfold pickV
 split
 ·omega
 ·exact ⟨Int.emod_nonneg _ (by omega), Int.emod_lt_of_pos _ (by omega)⟩
theorem pickA_le {l : List Int} {at_ : Nat} (h : at_ <= l.length) : pickA l at_ <= l.length := by
 unfold pickA; split <;> omega
theorem con_pickF (l : List Int) (at_ : Nat) (n : Int) (hs : Seeds l) (_ha : at_ <= l.length) (hn : 1 <= n) : Con Tryz.prog 23 [.pb 0 0, vi n] [diceA l at_]
  fun r b => r = vi (pickV l at_ n) /\ b = [diceA l (pickA l at_)] := by
 refine Con.intro Tryz.func23 rfl Tryz.ntmps23 Tryz.results23 (by kernel_rfl) (by simp) 1 (by simp) ?_
 have hl := hs.1
 simp only [go_sem]
 refine DrawK.walk 9 mixed (by kernel_rfl) ?_
 by_cases hh : l.length <= at_
 ·have e1 : pickV l at_ n = 0 := by unfold pickV; rw [if_pos hh]
  have e2 : pickA l at_ = at_ := by unfold pickA; rw [if_pos hh]
  simp only [go_sem, hh, e1, e2]
 ·have h : at_ < l.length := by omega
  have hg := getu h
  have hw : IntKind.i64.wrap (at_ + 1) = at_ + 1 := wrap_in (by omega) (by omega)
  have hw2 : IntKind.i64.wrap ((at_ : Int) + 1 - 1) = at_ := by rw [wrap_in (by omega) (by omega)]; omega
  have hx := hs.2 l[at_]! (by simp [h])
  have hw3 : IntKind.i64.wrap l[at_]! = l[at_]! := wrap_in (by omega) (by omega)
  have e1 : pickV l at_ n = Int.tmod l[at_]! n := by unfold pickV; rw [if_neg hh, Int.tmod_eq_emod_of_nonneg hx.1]
  have e2 : pickA l at_ = at_ + 1 := by unfold pickA; rw [if_neg hh]
  simp only [go_sem, hh, hw]
  refine DrawK.walk 14 mixed (by kernel_rfl) ?_
  simp only [go_sem, h, hg, hw2, hw3, e1, e2]
  exact fun h => by omega
theorem con_between (x low high : Int) : Con Tryz.prog 101 [vi x, vi low, vi high] [] fun r _ => r = vb (betweenB x low high) := by
 refine Con.intro Tryz.func101 rfl Tryz.ntmps101 Tryz.results101 (by kernel_rfl) (by simp) 0 (by simp) ?_
 unfold betweenB
 by_cases h1 : low <= x
 ·by_cases h2 : x <= high
  ·simp only [go_sem, h1, h2, Bool.and_true]
  ·simp only [go_sem, h1, h2, Bool.and_false]
 ·simp only [go_sem, h1, Bool.false_and]
theorem con_index (x : Int) (n : Int) (h1 : 0 <= n) (h2 : n <= 9223372036854775807) : Con Tryz.prog 138 [vi x, vi n] [] fun r _ => r = vb (decide (0 <= x) && decide (x < n)) := by
 refine Con.intro Tryz.func138 rfl Tryz.ntmps138 Tryz.results138 (by kernel_rfl) (by simp) 0 (by simp) ?_
 have hw : IntKind.i64.wrap (n - 1) = n - 1 := wrap_in (by omega) (by omega)
 have e : betweenB x 0 (n - 1) = (decide (0 <= x) && decide (x < n)) := by
  unfold betweenB
  congr 1
  exact decide_eq_decide.2 (by omega)
 simp only [go_sem, hw]
 refine CallU.free (con_between x 0 (n - 1)) (by simp only [go_sem]) (by simp only [go_sem]) ?_
 rintro r bx rfl
 simp only [go_sem, e]
def SmallI (B : Int) (l : List Int) : Prop := ∀ x ∈ l, -B <= x /\ x <= B
def vAtom (a : AtomD) : AV := .ag [vs 0 a.coefs, vi a.mod, vs 0 a.values]
attribute [go_sem] vAtom
theorem con_numbers (n : Int) (x : CV) (l : List CV) (hl : l.length <= 1000000) : Con Tryz.prog 35 [.ag [vi n, .sl 0 2 ((x :: l).map vV)]] [] fun r _ => r = vs 2 (l.map CV.n) := by
 refine Con.intro Tryz.func35 rfl Tryz.ntmps35 Tryz.results35 (by kernel_rfl) (by simp) 0 (by simp) ?_
 have hd : (1 : Nat) <= (x :: l).length := by simp
 have ht : List.take l.length (l.map vV) = l.map vV := List.take_of_length_le (by simp)
 simp only [go_sem, List.map_cons]
 refine ⟨Nat.le_refl _, ?_⟩
 rw [ht]
 refine LoopK.intro (fun i : Nat => ⟨21, [(3, vs 1216 ((l.take i).map CV.n)), (8, .sl 0 2 (l.map vV)), (9, vi l.length), (10, vi i)], [vi n, .sl 0 2 ((x :: l).map vV)] :: Rk 2 i⟩)
  (fun i => l.length - i) (fun i => i <= l.length) 0 (by omega) ?_ ?_
 ·simp only [go_sem]
  all_goals exact leB_self _
 rintro i hi
 by_cases h : i < l.length
 ·have hg := getvV h
  have hw : IntKind.i64.wrap (i + 1) = i + 1 := wrap_in (by omega) (by omega)
  have hB := Rk_len 2 i
  have n0 := fun L : List (List AV) => app_at0 (L := L) hB
  have s0 := fun (L : List (List AV)) z => app_set0 (L := L) (z := z) hB
  have e : (l.take (i + 1)).map CV.n = (l.take i).map CV.n ++ [l[i]!.n] := by
   rw [List.take_add_one, List.getElem?_eq_getElem h, getElem!_pos l i h, List.map_append]; rfl
  simp only [go_sem, h, hg, hw, hB, n0, s0]
  refine ⟨by unfold roomFor; rw [List.length_take]; omega, ?_⟩
  refine roundK.intro (i + 1) (by omega) (by omega) ?_
  simp only [go_sem, Rk_succ, e]
  refine ⟨?_, leB_RkA (x := [[_, _]]) (y := [List.replicate 2 .any]) ⟨⟨leV_any _, leV_any _, trivial⟩, trivial⟩⟩
  rw [List.map_append, List.map_map]
  exact leV_refl _
 ·have hi2 : i = l.length := by omega
  have e2 : l.take i = l := by rw [hi2, List.take_length]
  simp only [go_sem, h, e2]
def u8v (c : UInt8) : AV := .sc (.int .u8 c.toNat)
attribute [go_sem] u8v vStr vss
theorem u8_low {k c : UInt8} {n : Nat} (h : k.toNat = n) : k <= c ↔ (n : Int) <= (c.toNat : Int) := UInt8.le_iff_toNat_le.trans (by rw [h]; omega)
theorem u8_high {k c : UInt8} {n : Nat} (h : k.toNat = n) : c <= k ↔ (c.toNat : Int) <= (n : Int) := UInt8.le_iff_toNat_le.trans (by rw [h]; omega)
theorem letterB_eq (c : UInt8) : letterB c = (decide ((97 : Int) <= (c.toNat : Int)) && decide ((c.toNat : Int) <= 122)) := by
 unfold letterB
 rw [decide_eq_decide.2 (u8_low (k := 97) (c := c) (n := 97) rfl), decide_eq_decide.2 (u8_high (k := 122) (c := c) (n := 122) rfl)]; rfl
theorem digitB_eq (c : UInt8) : digitB c = (decide ((48 : Int) <= (c.toNat : Int)) && decide ((c.toNat : Int) <= 57)) := by
 unfold digitB
 rw [decide_eq_decide.2 (u8_low (k := 48) (c := c) (n := 48) rfl), decide_eq_decide.2 (u8_high (k := 57) (c := c) (n := 57) rfl)]; rfl
theorem u8_eq {k c : UInt8} {n : Nat} (h : k.toNat = n) : (c == k) = (((c.toNat : Int)) == (n : Int)) := by
 rw [Bool.eq_iff_iff, beq_iff_eq, beq_iff_eq, <- UInt8.toNat_inj, h]; omega
theorem con_letter (c : UInt8) : Con Tryz.prog 167 [u8v c] [] fun r _ => r = vb (letterB c) := by
 refine Con.intro Tryz.func167 rfl Tryz.ntmps167 Tryz.results167 (by kernel_rfl) (by simp) 0 (by simp) ?_
 rw [letterB_eq]
 by_cases h1 : (97 : Int) <= (c.toNat : Int)
 ·by_cases h2 : (c.toNat : Int) <= 122
  ·simp only [go_sem, h1, h2, Bool.and_true]
  ·simp only [go_sem, h1, h2, Bool.and_false]
 ·simp only [go_sem, h1, Bool.false_and]
theorem con_digit (c : UInt8) : Con Tryz.prog 193 [u8v c] [] fun r _ => r = vb (digitB c) := by
 refine Con.intro Tryz.func193 rfl Tryz.ntmps193 Tryz.results193 (by kernel_rfl) (by simp) 0 (by simp) ?_
 rw [digitB_eq]
 by_cases h1 : (48 : Int) <= (c.toNat : Int)
 ·by_cases h2 : (c.toNat : Int) <= 57
  ·simp only [go_sem, h1, h2, Bool.and_true]
  ·simp only [go_sem, h1, h2, Bool.and_false]
 ·simp only [go_sem, h1, Bool.false_and]
theorem con_part (c : UInt8) : Con Tryz.prog 169 [u8v c] [] fun r _ => r = vb (partB c) := by
 refine Con.intro Tryz.func169 rfl Tryz.ntmps169 Tryz.results169 (by kernel_rfl) (by simp) 0 (by simp) ?_
 unfold partB
 rw [u8_eq (k := 95) (c := c) (n := 95) rfl]
 simp only [go_sem]
 refine CallU.free (con_letter c) (by simp only [go_sem]) (by simp only [go_sem]) ?_
 rintro r bx rfl
 cases h1 : letterB c
 ·simp only [go_sem]
  refine CallU.free (con_digit c) (by simp only [go_sem]) (by simp only [go_sem]) ?_
  rintro r bx rfl
  cases h2 : digitB c
  ·simp only [go_sem]
   all_goals simp
  ·simp only [go_sem]
   all_goals simp
 ·simp only [go_sem]
  all_goals simp
def runL (p : UInt8 -> Bool) (l : List UInt8) : Nat := (l.takeWhile p).length
theorem run_stop {p : UInt8 -> Bool} : ∀ {l : List UInt8} {i : Nat}, (∀ j, j < i -> p l[j]! = true) -> i <= l.length -> (i < l.length -> p l[i]! = false) -> runL p l = i
 | [], i, _, h2, _ => by simp at h2; subst h2; rfl
 | x :: l, 0, _, _, h3 => by
  have := h3 (by simp)
  simp at this
  simp [runL, this]
 | x :: l, i + 1, h1, h2, h3 => by
  have hx := h1 0 (by omega)
  simp at hx
  have := run_stop (p := p) (l := l) (i := i) (fun j hj => by simpa using h1 (j + 1) (by omega)) (by simpa using h2) (fun h => by simpa using h3 (by simpa using h))
  unfold runL at *
  rw [List.takeWhile_cons, hx, if_pos rfl, List.length_cons, this]
theorem run_all {p : UInt8 -> Bool} {l : List UInt8} : (runL p l == l.length) = l.all p := by
 unfold runL
 induction l with
 | nil => rfl
 | cons x l ih =>
  cases h : p x
  ·simp [h]
  ·simp only [List.takeWhile_cons, h, if_true, List.length_cons, List.all_cons, Bool.true_and]
   rw [<- ih]
   rw [Bool.eq_iff_iff]; simp
theorem ba_get {s : ByteArray} {i : Nat} (h : i < s.size) : s[i]? = some s.data.toList[i]! := by
 rw [getElem?_pos s i h]
 congr 1
 have h2 : i < s.data.toList.length := by simpa using h
 rw [getElem!_pos s.data.toList i h2, Array.getElem_toList]; rfl
theorem ba_len (s : ByteArray) : s.data.toList.length = s.size := Array.length_toList
theorem con_run (s : ByteArray) (f : FuncId) (p : UInt8 -> Bool) (hf : ∀ c, Con Tryz.prog f [u8v c] [] fun r _ => r = vb (p c)) (hs : s.size <= 9223372036854775806) : Con Tryz.prog 168 [vStr s, .fn f []] [] fun r _ => r = vi (runL p s.data.toList) := by
 refine Con.intro Tryz.func168 rfl Tryz.ntmps168 Tryz.results168 (by kernel_rfl) (by simp) 0 (by simp) ?_
 simp only [go_sem]
 refine LoopK.intro (fun i : Nat => ⟨20, [(0, vStr s), (1, .fn f []), (4, vi 0), (5, vi i)], []⟩)
  (fun i => s.size - i) (fun i => i <= s.size /\ ∀ j, j < i -> p s.data.toList[j]! = true) 0 ⟨by omega, fun j hj => by omega⟩ ?_ ?_
 ·simp only [go_sem]
  all_goals exact leV_refl _
 rintro i ⟨hi, hb⟩
 by_cases h : i < s.size
 ·have hg := ba_get h
  have hw : IntKind.i64.wrap (i + 1) = i + 1 := wrap_in (by omega) (by omega)
  simp only [go_sem, h, hg]
  refine CallU.free (hf s.data.toList[i]!) (by simp only [go_sem]) (by simp only [go_sem]) ?_
  rintro r bx rfl
  cases hp : p s.data.toList[i]!
  ·simp only [go_sem]
   rw [run_stop hb (by rw [ba_len]; exact hi) (fun _ => hp)]
  ·simp only [go_sem, hw]
   refine roundK.intro (i + 1) ⟨by omega, fun j hj => ?_⟩ (by omega) ?_
   ·by_cases hji : j = i
    ·subst hji; exact hp
    ·exact hb j (by omega)
   ·simp only [go_sem]
 ·simp only [go_sem, h]
  rw [run_stop hb (by rw [ba_len]; exact hi) (fun h' => absurd (by rw [ba_len] at h'; exact h') h)]
theorem size_zero {s : ByteArray} : (s.toList == ByteArray.toList { data := #[] }) = decide (s.size = 0) := by
 rw [ByteArray.toList_eq, ByteArray.toList_eq, <- ba_len]
 cases h : s.data.toList <;> simp
theorem con_word (s : ByteArray) (hs : s.size <= 9223372036854775806) : Con Tryz.prog 135 [vStr s] [] fun r _ => r = vb (wordB s) := by
 refine Con.intro Tryz.func135 rfl Tryz.ntmps135 Tryz.results135 (by kernel_rfl) (by simp) 0 (by simp) ?_
 have e : wordB s = (decide (0 < s.size) && decide (s.size <= 12) && letterB s.data.toList[0]! && (runL partB s.data.toList == s.data.toList.length)) := by
  rw [run_all]
  unfold wordB
  rw [ByteArray.toList_eq]
  by_cases h0 : 0 < s.size
  ·have h2 := ba_get h0
   congr 2
   rw [show s.get! 0 = s.data.toList[0]! from ?_]
   have h3 : 0 < s.data.toList.length := by rw [ba_len]; exact h0
   rw [getElem!_pos s.data.toList 0 h3, Array.getElem_toList]
   show s.data[0]! = _
   rw [getElem!_pos s.data 0 h0]
  ·rw [decide_eq_false h0]; simp
 rw [e]
 by_cases h0 : 0 < s.size
 ·have h0' : ¬ s.size = 0 := by omega
  have hg := ba_get h0
  by_cases h1 : (s.size : Int) <= 12
  ·have h1' : s.size <= 12 := by omega
   simp only [go_sem, size_zero, h0', h1]
   simp only [go_sem, hg]
   refine CallU.free (con_letter s.data.toList[0]!) (by simp only [go_sem]) (by simp only [go_sem]) ?_
   rintro r bx rfl
   cases h2 : letterB s.data.toList[0]!
   ·simp only [go_sem]
    all_goals simp
   ·simp only [go_sem]
    refine CallU.free (con_run s 169 partB con_part hs) (by simp only [go_sem]) (by simp only [go_sem]) ?_
    rintro r bx rfl
    simp only [go_sem, ba_len, h0, h1', decide_true, Bool.true_and]
    all_goals congr 2
  ·have h1' : ¬ s.size <= 12 := by omega
   simp only [go_sem, size_zero, h0', h1, h1']
   all_goals simp
 ·have h0' : s.size = 0 := by omega
  simp only [go_sem, size_zero, h0']
  all_goals simp
end Go.AM
