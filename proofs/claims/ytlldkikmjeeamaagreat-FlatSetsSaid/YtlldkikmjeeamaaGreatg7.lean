/-
  The abstract machine: a region that draws its order, among whose operations are calls that write to one variable, one after the other.
  The abstract machine: the library's Sort and Compact at lists of integers that the call owns: contracts off the shelf, over any program.
  The abstract machine: what walks have in common: numbers, lists, contracts.
  The abstract machine: configurations (values with values below them); elements of which less is known; loops that several branches come to.
  Plain laws: invariants of counter models: closed atoms hold wherever rules lead.
  Counter models: their data, as abstract values.
  Plain laws: candidates of chapter 32: lists of coefficients, each once.
  Walks: the dice.
  Walks: small functions of models and invariants.
  Walks: atoms.
  Walks: configurations of counter models.
  Walks: names.
-/
import Derived.Test.YtlldkikmjeeamaaGreatg6
import Derived.Test.YtlldkikmjeeamaaGreatg3
import Derived.Shelf.Sort.Plain
import Derived.Shelf.Slices.CompactI
import Derived.Maps.Views
/-! ## AmW -/
namespace Go.AM
open Go.RowKit

theorem freeT_put {d : Nat} {x : AV} (hx : x.allLeaf (freeLeaf d) = true) : ∀ {l : List (Nat × AV)} {s : Nat}, freeT d l = true → freeT d (putT l s x) = true
  | [], s, _ => by simp [putT, freeT, hx]
  | (s', v) :: r, s, h => by
    simp only [freeT, Bool.and_eq_true] at h
    unfold putT
    split
    · simp [freeT, hx, h.2]
    · simp [freeT, h.1, freeT_put hx h.2]

/-- how many of the effects are listed -/
def posE (E : List Nat) (L : Nat → Bool) : Nat := (E.filter L).length

/-- an effect: a call of a function that writes to variable i0 alone -/
def EffC (P : Program) (σ0 : St) (i0 : Nat) (o : Oper) (d : Nat) (ρ : Operand → AV) (c : List AV) (y : AV) (c' : List AV) : Prop :=
  o.guard = none ∧ ∃ fid args As r c1, o.op = .call { callee := .value (.func fid), args := args, argTypes := As } ∧ dedup (pbss (args.toList.map ρ)) = [i0] ∧ allLeafs noTag (args.toList.map ρ) = true ∧ allNoTags [c] = true ∧
    Con P fid (mapTops (pbIn [i0]) (args.toList.map ρ)) (mapB (pbIn [i0]) [c]) (fun r' bx => r' = r ∧ bx = [c1]) ∧ r.allLeaf lt64b = true ∧ allNoTags [c1] = true ∧
    y = r.mapTop (outLeaf (64 * (d + 1)) [i0] σ0.boxes.length) ∧ [c'] = mapB (outLeaf (64 * (d + 1)) [i0] σ0.boxes.length) [c1]

/-- a variable of which nothing is known but its size; where no effects are, it is as it was -/
def blankC : List Nat → List AV → List AV
  | [], c => c
  | _ :: _, c => c.map fun _ => .any

structure AtE (vs : List (Nat × AV)) (E : List Nat) (C : Nat → List AV) (i0 : Nat) (L : Nat → Bool) (σ τ : St) : Prop where
  n : τ.n = σ.n
  boxes : τ.boxes = σ.boxes.set i0 (C (posE E L))
  dst : ∀ (i d : Nat) (y : AV), vs[i]? = some (d, y) → τ.get d = if L i = true then y else σ.get d
  rest : ∀ s : Nat, (∀ (i d : Nat) (y : AV), vs[i]? = some (d, y) → d ≠ s) → τ.get s = σ.get s

section
variable {P : Program} {ops : Array Oper} {m : Nat} {vs : List (Nat × AV)} {E : List Nat} {C : Nat → List AV} {i0 : Nat} {σ : St} {K : St → Prop} {G0 : Orig} {w0 : World} {Q : Exit → Act → World → Prop}

theorem BRel.blank {gh : Gh} {G : Nat → Status} {w : World} {bx : List (List AV)} {c c' : List AV} (h : BRel gh G w (bx.set i0 c)) (hl : c.length = c'.length) (he : E = [] → c = c') : BRel gh G w (bx.set i0 (blankC E c')) := by
  cases E with
  | nil => rw [← he rfl]; exact h
  | cons e E =>
  refine ⟨fun i vs hv => by have := h.low i vs hv; simpa using this, fun i cs hi => ?_⟩
  rw [List.getElem?_set] at hi
  by_cases hii : i0 = i
  · subst hii
    rw [if_pos rfl] at hi
    split at hi
    · rename_i hlt
      cases hi
      have h2 := h.cell i0 c (by rw [List.getElem?_set, if_pos rfl, if_pos hlt])
      refine h2.turn (by simp [blankC, hl]) (fun j x y v h3 h4 hr => ?_) (fun b hb => ⟨hb, rfl⟩) fun h0 => h0
      unfold blankC at h4
      rw [List.getElem?_map] at h4
      cases hc : c'[j]? with
      | none => simp [hc] at h4
      | some z => simp [hc] at h4; subst h4; exact .froz (.any _)
    · cases hi
  · rw [if_neg hii] at hi
    exact h.cell i cs (by rw [List.getElem?_set, if_neg hii]; exact hi)

theorem posE_step {L L' : Nat → Bool} {i : Nat} (hn : E.Nodup) (hL : ∀ j, j ≠ i → L' j = L j) (h1 : L i = false) (h2 : L' i = true) : posE E L' = posE E L + if i ∈ E then 1 else 0 := by
  unfold posE
  induction E with
  | nil => simp
  | cons e E ih =>
    have hn' := List.nodup_cons.1 hn
    have ih := ih hn'.2
    by_cases he : e = i
    · subst he
      have hni : e ∉ E := hn'.1
      rw [if_neg hni] at ih
      simp only [List.filter_cons, h1, h2, if_true, Bool.false_eq_true, if_false, List.length_cons, List.mem_cons, true_or, if_true]
      omega
    · simp only [List.filter_cons, hL e he, List.mem_cons, Ne.symm he, false_or]
      split
      · simp only [List.length_cons]; omega
      · exact ih

/-- what the check of the effects says -/
structure PlanE (ops : Array Oper) (m : Nat) (E : List Nat) : Prop where
  nodup : E.Nodup
  lt : ∀ e ∈ E, e < m
  chain : ∀ e ∈ E, ∀ e' ∈ E, e < e' → reach ops ops.size e' e = true

/-- the straggler: an operation of the head that the tail need not wait for -/
def sgIs (sg : Option (Nat × Tr)) (j : Nat) : Bool := match sg with
  | some (x, _) => j == x
  | none => false
/-- what is left to walk, when all but the straggler have run -/
def sgA (P : Program) (ops : Array Oper) (sg : Option (Nat × Tr)) (σ : St) (K : St → Prop) : Prop := match sg with
  | none => True
  | some (x, t) => match ops[x]? with
    | some o => ∃ d, o.dst = some d ∧ treeA P ops t (σ.put (some d) .any) K
    | none => False

/-- .. and those that only name places: taken as soon as they are ready -/
structure PlanL (ops : Array Oper) (m : Nat) (E LF : List Nat) (tr : Tr) (sg : Option (Nat × Tr)) : Prop where
  le : m ≤ ops.size
  lt : ∀ i o, ops[i]? = some o → ∀ k ∈ edges o, k < i
  head : ∀ i o, ops[i]? = some o → i < m → ∃ d, o.dst = some d ∧ d ∉ slotsG ops o ∧ ∀ j p s, j < m → j ≠ i → ops[j]? = some p → p.dst = some s → s ≠ d ∧ (s ∈ slotsG ops o → if j < i then reach ops ops.size i j = true else reach ops ops.size j i = true)
  tail : ∀ i o, ops[i]? = some o → m ≤ i → ∀ j, j < m → j ∉ LF → sgIs sg j = false → reach ops ops.size i j = true
  fr : ∀ j ∈ LF, j < m ∧ j ∉ E ∧ ∀ p, ops[j]? = some p → ∃ d, Front ops j p d
  tr : trOk ops true (List.range m) tr = true
  sg : ∀ x t, sg = some (x, t) → x < m ∧ x ∉ E ∧ x ∉ LF ∧ (∀ j ∈ LF, ∀ p, ops[j]? = some p → x ∉ edges p) ∧ trOk ops true ((List.range m).filter fun i => !(i == x)) t = true

def FrontC (P : Program) (o : Oper) (ρ : Operand → AV) (y : AV) : Prop :=
  ∀ (G : Nat → Status) (a : Act) (w : World), Good G w → (∀ x ∈ o.op.operands, VRel G w (ρ x) (a.eval x)) → ∃ v, VRel G w y v ∧ ∀ w', (execOp a.eval o).run P w' = .ok (.value v) w'

theorem head_runE {LF : List Nat} {tr : Tr} {sg : Option (Nat × Tr)} (hp : PlanL ops m E LF tr sg) (hE : PlanE ops m E) (h0 : True) (hN : ∀ e a w, e ≠ .normal → ¬ Q e a w) (hQ : ∀ σ' G' a' w', K σ' → SRel G0 w0 σ' G' a' w' → Q .normal a' w') (hvl : vs.length = m) (hap : Apart vs) (hC : ∀ j, (C j).length = (C 0).length)
    (hK : treeA P ops tr (puts { σ with boxes := σ.boxes.set i0 (C E.length) } vs) K) (hK2 : sgA P ops sg (puts { σ with boxes := σ.boxes.set i0 (C E.length) } vs) K)
    (hst : ∀ i o, i < m → ops[i]? = some o → ∃ d y, vs[i]? = some (d, y) ∧ o.dst = some d ∧ d < σ.n ∧
      if i ∈ E then EffC P σ i0 o d (puts σ (vs.take i)).ev (C (E.filter fun e => decide (e < i)).length) y (C ((E.filter fun e => decide (e < i)).length + 1)) else if i ∈ LF then FrontC P o (puts σ (vs.take i)).ev y else StepG P ops o d (puts σ (vs.take i)) (σ.boxes.set i0 (blankC E (C 0))) y)
    (hfr : ∀ i o d, ops[i]? = some o → i < m → o.dst = some d → creates o.op = true → (∀ j d' y, j ≠ i → vs[j]? = some (d', y) → y.allLeaf (freeLeaf d) = true) ∧ ∀ j, allLeafs (freeLeaf d) (C j) = true) :
    ∀ (fuel : Nat) (listed : Array Bool) (U : List Nat) (τ : St) (G : Nat → Status) (a : Act) (w : World), Left ops listed U → U.length = fuel → (∀ i, m ≤ i → listed.getD i false = false) →
      Closed ops (fun k => listed.getD k false) → AtE vs E C i0 (fun i => listed.getD i false) σ τ → SRel G0 w0 τ G a w →
      (∀ i o d, ops[i]? = some o → i < m → o.dst = some d → creates o.op = true → listed.getD i false = false → τ.free d = true) → wpAny P .any ops Q fuel listed a w := by
  have posAll : ∀ {L : Nat → Bool}, (∀ i, i < m → L i = true) → posE E L = E.length := fun {L} h => by
    unfold posE
    rw [List.filter_eq_self.2 fun e he => h e (hE.lt e he)]
  have done : ∀ {τ G a w} {L : Nat → Bool}, AtE vs E C i0 L σ τ → (∀ i, i < m → L i = true) → SRel G0 w0 τ G a w → SRel G0 w0 (puts { σ with boxes := σ.boxes.set i0 (C E.length) } vs) G a w := by
    intro τ G a w L hat hall h
    have hpa := puts_at m vs { σ with boxes := σ.boxes.set i0 (C E.length) } hap
    rw [List.take_of_length_le (by omega)] at hpa
    refine h.slotsEq (by rw [hpa.n, hat.n]) (by rw [hpa.boxes, hat.boxes, posAll hall]) fun s => ?_
    by_cases hs : ∀ (i d : Nat) (y : AV), vs[i]? = some (d, y) → d ≠ s
    · rw [hpa.rest s hs, hat.rest s hs]; rfl
    · have : ∃ (i : Nat) (y : AV), vs[i]? = some (s, y) := by
        apply Classical.byContradiction
        intro hcon
        exact hs fun i d y hi hds => hcon ⟨i, y, by rw [← hds]; exact hi⟩
      obtain ⟨i, y, hi⟩ := this
      have hil : i < m := by rw [← hvl]; exact (List.getElem?_eq_some_iff.1 hi).1
      rw [hpa.dst i s y hi, hat.dst i s y hi]
      simp [hil, hall i hil]
  have done2 : ∀ {τ G a w} {L : Nat → Bool} {x dx : Nat} {yx : AV}, AtE vs E C i0 L σ τ → x ∉ E → vs[x]? = some (dx, yx) → (∀ i, i < m → i ≠ x → L i = true) → SRel G0 w0 τ G a w → SRel G0 w0 ((puts { σ with boxes := σ.boxes.set i0 (C E.length) } vs).put (some dx) .any) G a w := by
    intro τ G a w L x dx yx hat hxE hx hall h
    have hpa := puts_at m vs { σ with boxes := σ.boxes.set i0 (C E.length) } hap
    rw [List.take_of_length_le (by omega)] at hpa
    have hpos : posE E L = E.length := by
      unfold posE
      rw [List.filter_eq_self.2 fun e he => hall e (hE.lt e he) fun h' => hxE (h' ▸ he)]
    have h2 := h.reput (d := dx) (x := .any) (.froz (.any _))
    refine h2.slotsEq (by rw [put_n, put_n, hpa.n, hat.n]) (by rw [put_boxes, put_boxes, hpa.boxes, hat.boxes, hpos]) fun s => ?_
    rw [get_put, get_put]
    by_cases hds : dx = s
    · rw [if_pos hds, if_pos hds]
    rw [if_neg hds, if_neg hds]
    by_cases hs : ∀ (i d : Nat) (y : AV), vs[i]? = some (d, y) → d ≠ s
    · rw [hpa.rest s hs, hat.rest s hs]; rfl
    · have : ∃ (i : Nat) (y : AV), vs[i]? = some (s, y) := by
        apply Classical.byContradiction
        intro hcon
        exact hs fun i d y hi hds => hcon ⟨i, y, by rw [← hds]; exact hi⟩
      obtain ⟨i, y, hi⟩ := this
      have hil : i < m := by rw [← hvl]; exact (List.getElem?_eq_some_iff.1 hi).1
      have hix : i ≠ x := fun h' => by subst h'; rw [hx] at hi; cases hi; exact hds rfl
      rw [hpa.dst i s y hi, hat.dst i s y hi]
      simp [hil, hall i hil hix]
  intro fuel
  induction fuel with
  | zero =>
    intro listed U τ G a w hl hU hm hc hat h _
    have hUn : U = [] := List.eq_nil_of_length_eq_zero hU
    subst hUn
    have hall : ∀ i, i < ops.size → listed.getD i false = true := fun i hi => by
      cases hb : listed.getD i false
      · have := (hl.mem i).2 ⟨hi, hb⟩; simp at this
      · rfl
    have hms : m = ops.size := by
      apply Classical.byContradiction
      intro hne
      have := hp.le
      have h1 := hall m (by omega)
      rw [hm m (Nat.le_refl m)] at h1; cases h1
    exact (tree_run (P := P) h0 hp.lt hN hQ tr true (List.range m) listed [] _ G a w hp.tr hl hc (fun i hi => by rw [hall i hi]; simp; omega) hK (done hat (fun i hi => hall i (by have := hp.le; omega)) h)).1 rfl
  | succ fuel ih =>
    intro listed U τ G a w hl hU hm hc hat h hfree
    have hUn : U ≠ [] := by intro h; rw [h] at hU; simp at hU
    by_cases hdone : ∀ i, i < m → listed.getD i false = true
    · have := (tree_run (P := P) h0 hp.lt hN hQ tr true (List.range m) listed U _ G a w hp.tr hl hc (fun i hi => by
        simp only [List.contains_iff_mem, List.mem_range]
        refine ⟨fun hb => ?_, fun hlt => hdone i hlt⟩
        apply Classical.byContradiction
        intro hge
        rw [hm i (by omega)] at hb; cases hb) hK (done hat hdone h)).1 rfl
      rw [hU] at this; exact this
    by_cases hsg : ∃ x t, sg = some (x, t) ∧ ∀ i, i < m → i ≠ x → listed.getD i false = true
    · obtain ⟨x, t, rfl, hall⟩ := hsg
      obtain ⟨hxm, hxE, hxL, _, ht⟩ := hp.sg x t rfl
      obtain ⟨o, ho⟩ : ∃ p, ops[x]? = some p := ⟨ops[x]'(by have := hp.le; omega), by have := hp.le; simp [show x < ops.size by omega]⟩
      obtain ⟨dx, yx, hv, hd, _, _⟩ := hst x o hxm ho
      have hxf : listed.getD x false = false := by
        cases hb : listed.getD x false
        · rfl
        · exact absurd (fun i hi => by by_cases hix : i = x; · rw [hix]; exact hb
                                       · exact hall i hi hix) hdone
      simp only [sgA, ho] at hK2
      obtain ⟨d', hd', hK2⟩ := hK2
      rw [hd] at hd'; cases hd'
      have := (tree_run (P := P) h0 hp.lt hN hQ t true _ listed U _ G a w ht hl hc (fun i hi => by
        simp only [List.contains_iff_mem, List.mem_filter, List.mem_range, Bool.not_eq_true', beq_eq_false_iff_ne, ne_eq]
        refine ⟨fun hb => ⟨?_, fun hix => by rw [hix, hxf] at hb; cases hb⟩, fun ⟨h1, h2⟩ => hall i h1 h2⟩
        apply Classical.byContradiction
        intro hge
        rw [hm i (by omega)] at hb; cases hb) hK2 (done2 hat hxE hv hall h)).1 rfl
      rw [hU] at this; exact this
    · suffices key : ∀ i, i ∈ Region.ready .any ops listed → i < m → (i ∈ LF → wpAny P .any ops Q (fuel + 1) listed a w) ∧ (i ∉ LF → Go.wpOp P ops Q i (wpAny P .any ops Q fuel (listed.setIfInBounds i true)) a w) by
        by_cases hLF : ∃ j, j ∈ LF ∧ j ∈ Region.ready .any ops listed
        · obtain ⟨j, h1, h2⟩ := hLF
          exact (key j h2 (hp.fr j h1).1).1 h1
        · refine ⟨fun hr => absurd hr (some_ready hl hp.lt hUn), fun i hi => (key i hi ?_).2 fun hiL => hLF ⟨i, hiL, hi⟩⟩
          obtain ⟨o, ho, h1, h2⟩ := (ready_iff hl.size).1 hi
          apply Classical.byContradiction
          intro hge
          have hall : ∀ j, j < m → sgIs sg j = false → listed.getD j false = true := fun j => by
            refine Nat.strongRecOn (motive := fun j => j < m → sgIs sg j = false → listed.getD j false = true) j ?_
            intro j ihj hjm hjs
            by_cases hjL : j ∈ LF
            · obtain ⟨p, hpj⟩ : ∃ p, ops[j]? = some p := ⟨ops[j]'(by have := hp.le; omega), by have := hp.le; simp [show j < ops.size by omega]⟩
              cases hb : listed.getD j false
              · exact absurd ⟨j, hjL, (ready_iff hl.size).2 ⟨p, hpj, hb, fun k hk => by
                  have := hp.lt j p hpj k hk
                  refine ihj k this (by omega) ?_
                  cases hsg' : sg with
                  | none => rfl
                  | some q =>
                    obtain ⟨x, t⟩ := q
                    have := (hp.sg x t hsg').2.2.2.1 j hjL p hpj
                    simp only [sgIs, beq_eq_false_iff_ne, ne_eq]
                    exact fun hkx => this (hkx ▸ hk)⟩⟩ hLF
              · rfl
            · exact reach_listed hc ops.size i j o ho h2 (hp.tail i o ho (by omega) j hjm hjL hjs)
          cases hsg' : sg with
          | none => exact hdone fun j hj => hall j hj (by rw [hsg']; rfl)
          | some q =>
            obtain ⟨x, t⟩ := q
            exact hsg ⟨x, t, hsg', fun j hj hjx => hall j hj (by rw [hsg']; simpa [sgIs] using hjx)⟩
      intro i hi him
      obtain ⟨o, ho, h1, h2⟩ := (ready_iff hl.size).1 hi
      have hlt := (Array.getElem?_eq_some_iff.1 ho).1
      obtain ⟨d, y, hv, hd, hdn, hstep⟩ := hst i o him ho
      obtain ⟨d', hd', hself, hpair⟩ := hp.head i o ho him
      rw [hd] at hd'; cases hd'
      have hmem : i ∈ U := (hl.mem i).2 ⟨hlt, h1⟩
      obtain ⟨l1, l2⟩ := hl.step hmem
      have hsz : i < listed.size := by rw [hl.size]; exact hlt
      have hsame : ∀ s ∈ slotsG ops o, (puts σ (vs.take i)).get s = τ.get s := by
        intro s hsm
        have hpa := puts_at i vs σ hap
        by_cases hs : ∀ (i d : Nat) (y : AV), vs[i]? = some (d, y) → d ≠ s
        · rw [hpa.rest s hs, hat.rest s hs]
        · have : ∃ (j : Nat) (y : AV), vs[j]? = some (s, y) := by
            apply Classical.byContradiction
            intro hcon
            exact hs fun i d y hi hds => hcon ⟨i, y, by rw [← hds]; exact hi⟩
          obtain ⟨j, y', hj⟩ := this
          have hjl : j < m := by rw [← hvl]; exact (List.getElem?_eq_some_iff.1 hj).1
          obtain ⟨p, hpj⟩ : ∃ p, ops[j]? = some p := ⟨ops[j]'(by have := hp.le; omega), by have := hp.le; simp [show j < ops.size by omega]⟩
          obtain ⟨d'', y'', hv'', hds'', _⟩ := hst j p hjl hpj
          rw [hj] at hv''; cases hv''
          have hji : j ≠ i := fun hji => by subst hji; rw [hv] at hj; cases hj; exact hself hsm
          have hre := (hpair j p s hjl hji hpj hds'').2 hsm
          rw [hpa.dst j s y' hj, hat.dst j s y' hj]
          by_cases hjlt : j < i
          · rw [if_pos hjlt] at hre
            have := reach_listed hc ops.size i j o ho h2 hre
            simp [hjlt, this]
          · rw [if_neg hjlt] at hre
            have hjf : listed.getD j false = false := by
              cases hb : listed.getD j false
              · rfl
              · have := reach_listed hc ops.size j i p hpj (fun k hk => hc j p hpj hb k hk) hre
                rw [h1] at this; cases this
            simp [hjlt, hjf]
      have hevs : ∀ x ∈ o.op.operands, (puts σ (vs.take i)).ev x = τ.ev x := by
        intro x hx
        cases x with
        | tmp s =>
          simp only [St.ev]
          refine hsame s (List.mem_append.2 (.inr ?_))
          unfold slotsOf
          exact List.mem_filterMap.2 ⟨.tmp s, by simpa using hx, rfl⟩
        | const v => rfl
        | func f => rfl
        | global g => rfl
      -- the frame behind the step
      have hLi : (listed.setIfInBounds i true).getD i false = true := by rw [set_getD hsz]; simp
      have hLj : ∀ j, j ≠ i → (listed.setIfInBounds i true).getD j false = listed.getD j false := fun j hj => by rw [set_getD hsz, if_neg (Ne.symm hj)]
      have hpos := posE_step (L := fun k => listed.getD k false) (L' := fun k => (listed.setIfInBounds i true).getD k false) hE.nodup hLj h1 hLi
      have hgo : ∀ {τ' G' a' w'}, τ'.n = τ.n → τ'.tmps = putT τ.tmps d y → τ'.boxes = σ.boxes.set i0 (C (posE E fun k => (listed.setIfInBounds i true).getD k false)) → SRel G0 w0 τ' G' a' w' → wpAny P .any ops Q fuel (listed.setIfInBounds i true) a' w' := by
        intro τ' G' a' w' e1 e2 e3 hs'
        have hget : ∀ s, τ'.get s = if d = s then y else τ.get s := fun s => by unfold St.get; rw [e2, lookT_put]
        refine ih _ _ τ' G' _ _ l1 (by omega) (fun j hj => ?_) (hc.step hsz ho h2) ⟨by rw [e1, hat.n], e3, fun j d' y' hj => ?_, fun s hs => ?_⟩ hs' (fun j oj dj hoj hjm hdj hcr hjf => ?_)
        · rw [set_getD hsz, if_neg (by omega)]; exact hm j hj
        · rw [hget]
          by_cases hij : j = i
          · subst hij; rw [hv] at hj; cases hj; simp [hLi]
          · rw [if_neg (hap i j d y d' y' hv hj (Ne.symm hij)), hat.dst j d' y' hj, hLj j hij]
        · rw [hget, if_neg (hs i d y hv), hat.rest s hs]
        · by_cases hij : j = i
          · subst hij; rw [hLi] at hjf; cases hjf
          · rw [hLj j hij] at hjf
            have hf := hfree j oj dj hoj hjm hdj hcr hjf
            obtain ⟨f1, f2⟩ := hfr j oj dj hoj hjm hdj hcr
            simp only [St.free, Bool.and_eq_true, decide_eq_true_eq] at hf ⊢
            refine ⟨hf.1, by rw [e2]; exact freeT_put (f1 i d y (Ne.symm hij) hv) hf.2.1, ?_⟩
            rw [e3]
            have hfb := hf.2.2
            rw [hat.boxes] at hfb
            have hset : ∀ (bx : List (List AV)) (k : Nat) (c c' : List AV), freeB dj (bx.set k c) = true → allLeafs (freeLeaf dj) c' = true → freeB dj (bx.set k c') = true := by
              intro bx
              induction bx with
              | nil => intro k c c' _ _; rfl
              | cons b bx ihb =>
                intro k c c' h1 h2
                cases k with
                | zero => simp only [List.set_cons_zero, freeB, Bool.and_eq_true] at h1 ⊢; exact ⟨h2, h1.2⟩
                | succ k => simp only [List.set_cons_succ, freeB, Bool.and_eq_true] at h1 ⊢; exact ⟨h1.1, ihb k c c' h1.2 h2⟩
            exact hset _ _ _ _ hfb (f2 _)
      refine ⟨fun hiL => ?_, fun hnL => ?_⟩
      · obtain ⟨_, hiE, hfr'⟩ := hp.fr i hiL
        obtain ⟨d', hfront⟩ := hfr' o ho
        obtain rfl : d = d' := by have := hfront.dst; rw [hd] at this; simpa using this
        rw [if_neg hiE, if_pos hiL] at hstep
        rw [if_neg hiE, Nat.add_zero] at hpos
        obtain ⟨v, hv', hex⟩ := hstep G a w h.good (fun x hx => by rw [hevs x hx]; exact h.ev x)
        have hs' := h.add (.refl G w) h.good (fun _ _ h => h) (d := some d) (x := y) (v := v) (by simp [dstOk, hat.n, hdn]) hv'
        exact front_run hN hfront fuel listed a w v hl.size hc hi hex (hgo (τ' := τ.put (some d) y) rfl rfl (by rw [put_boxes, hat.boxes, hpos]) hs')
      by_cases hiE : i ∈ E
      case neg =>
        rw [if_neg hiE, if_neg hnL] at hstep
        rw [if_neg hiE, Nat.add_zero] at hpos
        have hops : ∀ x ∈ o.op.operands, ∀ {G}, SRel G0 w0 τ G a w → VRel G w ((puts σ (vs.take i)).ev x) (a.eval x) := fun x hx G h => by rw [hevs x hx]; exact h.ev x
        have hgo2 : ∀ {G' a' w'}, SRel G0 w0 (τ.put (some d) y) G' a' w' → wpAny P .any ops Q fuel (listed.setIfInBounds i true) a' w' := fun hs' =>
          hgo (τ' := τ.put (some d) y) rfl rfl (by rw [put_boxes, hat.boxes, hpos]) hs'
        have hrun : StepOk P o d (puts σ (vs.take i)).ev (σ.boxes.set i0 (blankC E (C 0))) y → o.wp P a w (wpAny P .any ops Q fuel (listed.setIfInBounds i true)) Q := by
          intro hstep
          have key : ∀ {G}, SRel G0 w0 τ G a w → (creates o.op = true → Fresh d G) → o.wp P a w (wpAny P .any ops Q fuel (listed.setIfInBounds i true)) Q := fun {G} h hfr' =>
            hstep _ G a w h.good ((show BRel _ G w (σ.boxes.set i0 (C (posE E fun k => listed.getD k false))) from by rw [← hat.boxes]; exact h.boxes).blank (hC _) fun hE0 => by rw [hE0]; rfl) hfr' (fun x hx => hops x hx h) _ _ fun v w' G' g1 g2 g3 g4 =>
              hgo2 (by rw [hd]; exact h.add g2 g3 g4.boxes (by simp [dstOk, hat.n, hdn]) g1)
          by_cases hcr : creates o.op = true
          · obtain ⟨hs, hf⟩ := h.fresh (hfree i o d ho him hd hcr h1) h0
            exact key hs fun _ => hf
          · exact key h fun hc' => absurd hc' hcr
        simp only [Go.wpOp, ho]
        rcases hstep with ⟨hg, hstep⟩ | ⟨j, want, g, c, hg, hgs, hgv, hc2⟩ | ⟨j, want, g, vs', hg, hgs, hgv, rfl⟩
        · rw [if_pos (by simp [Region.wanted, hg])]
          exact .inl (hrun hstep)
        · have hgm : g ∈ slotsG ops o := by simp [slotsG, guardS, hg, hgs]
          have hv2 := h.slots g
          rw [← hsame g hgm, hgv] at hv2
          have hy := yielded_bool hgs hv2.sc_inv
          rcases hc2 with ⟨rfl, hstep⟩ | ⟨hne, rfl⟩
          · rw [if_pos (by simp [Region.wanted, hg, hy])]
            exact .inl (hrun hstep)
          · rw [if_neg (by simp [Region.wanted, hg, hy, hne])]
            have hs' := h.add (.refl G w) h.good (fun _ _ h => h) (d := o.dst) (x := .sc undef) (v := undef) (by rw [hd]; simp [dstOk, hat.n, hdn]) (.froz (.sc _))
            exact hgo2 (G' := G) (by rw [hd] at hs' ⊢; exact hs')
        · have hgm : g ∈ slotsG ops o := by simp [slotsG, guardS, hg, hgs]
          have hv2 := h.slots g
          rw [← hsame g hgm, hgv] at hv2
          have hy := yielded_none hgs hv2.sc_inv
          rw [if_neg (by simp [Region.wanted, hg, hy])]
          have hs' := h.add (.refl G w) h.good (fun _ _ h => h) (d := o.dst) (x := .sc undef) (v := undef) (by rw [hd]; simp [dstOk, hat.n, hdn]) (.froz (.sc _))
          exact hgo2 (G' := G) (by rw [hd] at hs' ⊢; exact hs')
      case pos =>
        rw [if_pos hiE] at hstep
        rw [if_pos hiE] at hpos
        obtain ⟨hg, fid, args, As, r, c1, hop, hpb, hnt, hnt0, hcon, hr1, hr2, hye, hce⟩ := hstep
        -- all effects ahead of it are listed, none behind it is
        have hposi : posE E (fun k => listed.getD k false) = (E.filter fun e => decide (e < i)).length := by
          unfold posE
          congr 1
          refine List.filter_congr fun e he => ?_
          rcases Nat.lt_trichotomy e i with hlt' | heq | hgt
          · have := reach_listed hc ops.size i e o ho h2 (hE.chain e he i hiE hlt')
            simp [hlt', this]
          · subst heq; simp [h1]
          · have hnl : listed.getD e false = false := by
              cases hb : listed.getD e false
              · rfl
              · have hel := hE.lt e he
                obtain ⟨p, hpe⟩ : ∃ p, ops[e]? = some p := ⟨ops[e]'(by have := hp.le; omega), by have := hp.le; simp [show e < ops.size by omega]⟩
                have := reach_listed hc ops.size e i p hpe (fun k hk => hc e p hpe hb k hk) (hE.chain i hiE e he hgt)
                rw [h1] at this; cases this
            simp [hnl]; omega
        have hargs : args.toList.map (puts σ (vs.take i)).ev = args.toList.map τ.ev := by
          refine List.map_congr_left fun x hx => hevs x ?_
          simp [hop, Op.operands, Call.operands]
          exact .inr (by simpa using hx)
        rw [hargs] at hpb hnt hcon
        have hcr : creates o.op = true := by simp [creates, hop]
        have hfd := hfree i o d ho him hd hcr h1
        -- the variable is there
        have hva : ∀ G, SRel G0 w0 τ G a w → PW (VRel G w) (args.toList.map τ.ev) (args.map a.eval).toList := fun G hs => by
          rw [Array.toList_map]
          refine ⟨by simp, fun j x u hx hu => ?_⟩
          simp only [List.getElem?_map] at hx hu
          cases hj : args.toList[j]? with
          | none => simp [hj] at hx
          | some c => simp [hj] at hx hu; subst hx; subst hu; exact hs.ev c
        have hi0 : i0 < σ.boxes.length := by
          obtain ⟨b, hb⟩ := pbss_real (i := i0) _ _ (hva G h) (dedup_mem _ (by rw [hpb]; simp))
          have := h.blt b i0 hb
          rw [hat.boxes] at this; simpa using this
        have hbx : getAll τ.boxes [i0] = some [C (posE E fun k => listed.getD k false)] := by
          simp only [getAll, hat.boxes, List.getElem?_set, if_true, hi0]
        have hlen : τ.boxes.length = σ.boxes.length := by rw [hat.boxes]; simp
        rw [← hposi] at hcon hnt0 hce
        have hcall : CallB P fid (args.toList.map τ.ev) [i0] d τ fun σ' => σ'.n = τ.n ∧ σ'.tmps = putT τ.tmps d y ∧ σ'.boxes = σ.boxes.set i0 (C (posE E (fun k => listed.getD k false) + 1)) := by
          refine ⟨hfd, by rw [hat.n]; exact hdn, hnt, rfl, _, hbx, hnt0, hcon.mono ?_⟩
          rintro r' bx ⟨rfl, rfl⟩
          refine ⟨hr1, hr2, rfl, by rw [hlen, ← hye]; rfl, ?_⟩
          rw [put_boxes]
          have hce' : mapB (outLeaf (64 * (d + 1)) [i0] σ.boxes.length) [c1] = [C (posE E (fun k => listed.getD k false) + 1)] := hce.symm
          simp only [List.length_singleton, List.take_succ_cons, List.take_zero, List.drop_succ_cons, List.drop_nil, hlen, hce', mapB, setAll, List.append_nil]
          rw [hat.boxes, List.set_set]
        obtain ⟨⟨fn, hfn, hname, hbody⟩, hcalls⟩ := CallB.sound hcall h h0 hva (fun G hs j hj => by
          simp at hj; subst hj
          exact pbss_real _ _ (hva G hs) (dedup_mem _ (by rw [hpb]; simp)))
        have hrun : (execOp a.eval o).run P w = .ok (.enter fid (args.map a.eval)) w := by
          have hname' : ¬ fn.name = "runtime.NumGoroutine" := by simpa using hname
          have hbody' : ¬ fn.body = none := by intro h; rw [h] at hbody; simp at hbody
          have hfe : a.eval (.func fid) = .func (.func fid) #[] #[] := rfl
          simp [execOp, hop, resolve, hfe, Deferred.ofValue, invoke, callFunc, hfn, hname', hbody']
        simp only [Go.wpOp, ho]
        rw [if_pos (by simp [Region.wanted, hg])]
        refine .inl ?_
        unfold Oper.wp
        rw [hrun, Oper.upon_enter]
        refine hcalls.mono ?_
        rintro e w' ⟨v, σ', G', rfl, ⟨e1, e2, e3⟩, hs'⟩
        exact hgo e1 e2 (by rw [e3, hpos]) (by rw [hd]; exact hs')
end

/-! ### the walk -/
/-- an effect, as the walk meets it -/
def EffK (P : Program) (n0 i0 : Nat) (o : Oper) (σ : St) (c : List AV) (K : St → List AV → Prop) : Prop :=
  ∃ d y c', o.dst = some d ∧ d < σ.n ∧ EffC P ⟨0, [], List.replicate n0 []⟩ i0 o d σ.ev c y c' ∧ c'.length = c.length ∧ allLeafs noTag c' = true ∧ K (σ.put (some d) y) c'

/-- an operation that only names a place -/
def frB (P : Program) (o : Oper) (σ : St) (K : St → Prop) : Prop := frA P (some o) σ K
theorem frB_sound {P : Program} {o : Oper} {σ : St} {K : St → Prop} (h : frB P o σ K) : ∃ d y, o.dst = some d ∧ d < σ.n ∧ K (σ.put (some d) y) ∧ FrontC P o σ.ev y := by
  unfold frB frA at h
  split at h
  · rename_i d op T pos af g hj
    cases hj
    obtain ⟨hdn, h⟩ := h
    obtain ⟨y, hK, hy⟩ := frontW_sound' (p := ⟨some d, op, T, pos, af, g⟩) h
    exact ⟨d, y, rfl, hdn, hK, hy⟩
  · exact h.elim

def headE (P : Program) (ops : Array Oper) (n0 i0 : Nat) (E LF : List Nat) : Nat → List Oper → St → List AV → (St → List AV → Prop) → Prop
  | _, [], σ, c, K => K σ c
  | k, o :: r, σ, c, K => if E.contains k = true then EffK P n0 i0 o σ c fun σ' c' => headE P ops n0 i0 E LF (k + 1) r σ' c' K else if LF.contains k = true then frB P o σ fun σ' => headE P ops n0 i0 E LF (k + 1) r σ' c K else headG P ops o σ fun σ' => headE P ops n0 i0 E LF (k + 1) r σ' c K

def cntE (E : List Nat) (i : Nat) : Nat := posE E fun e => decide (e < i)
theorem cntE_succ {E : List Nat} (hn : E.Nodup) (i : Nat) : cntE E (i + 1) = cntE E i + if i ∈ E then 1 else 0 :=
  posE_step hn (fun j hj => by simp only [decide_eq_decide]; omega) (by simp) (by simp)

section
variable {P : Program} {ops : Array Oper} {n0 i0 : Nat} {E LF : List Nat}

theorem headE_vals (hn : E.Nodup) : ∀ (l : List Oper) (k : Nat) (σ : St) (c : List AV) (K : St → List AV → Prop), headE P ops n0 i0 E LF k l σ c K → allLeafs noTag c = true → ∃ (vs : List (Nat × AV)) (C : Nat → List AV), vs.length = l.length ∧ (∀ j, j ≤ cntE E k → C j = c) ∧ (∀ j, (C j).length = c.length ∧ allLeafs noTag (C j) = true) ∧ K (puts σ vs) (C (cntE E (k + l.length))) ∧
    ∀ i o, l[i]? = some o → ∃ d y, vs[i]? = some (d, y) ∧ o.dst = some d ∧ d < σ.n ∧
      if k + i ∈ E then EffC P ⟨0, [], List.replicate n0 []⟩ i0 o d (puts σ (vs.take i)).ev (C (cntE E (k + i))) y (C (cntE E (k + i) + 1)) else if k + i ∈ LF then FrontC P o (puts σ (vs.take i)).ev y else StepG P ops o d (puts σ (vs.take i)) σ.boxes y
  | [], k, σ, c, K, h, hc => ⟨[], fun _ => c, rfl, fun _ _ => rfl, fun _ => ⟨rfl, hc⟩, h, fun i o hi => by simp at hi⟩
  | o :: l, k, σ, c, K, h, hc => by
    unfold headE at h
    have hcs := cntE_succ hn k
    by_cases hk : k ∈ E
    · rw [if_pos (by simpa using hk)] at h
      rw [if_pos hk] at hcs
      obtain ⟨d, y, c', h1, h2, h3, h4, h5, h6⟩ := h
      obtain ⟨vs, C, g1, g2, g3, g4, g5⟩ := headE_vals hn l (k + 1) _ c' K h6 h5
      refine ⟨(d, y) :: vs, fun j => if j ≤ cntE E k then c else C j, by simp [g1], fun j hj => if_pos hj, fun j => ?_, ?_, fun i o' hi => ?_⟩
      · simp only
        split
        · exact ⟨rfl, hc⟩
        · exact ⟨(g3 j).1.trans h4, (g3 j).2⟩
      · simp only [puts, List.length_cons]
        rw [show k + (l.length + 1) = k + 1 + l.length by omega]
        have : ¬ cntE E (k + 1 + l.length) ≤ cntE E k := by
          have : ∀ t, cntE E (k + 1) ≤ cntE E (k + 1 + t) := fun t => by
            induction t with
            | zero => exact Nat.le_refl _
            | succ t ih => have := cntE_succ hn (k + 1 + t); rw [show k + 1 + (t + 1) = k + 1 + t + 1 by omega]; omega
          have := this l.length; omega
        rw [if_neg this]; exact g4
      · cases i with
        | zero =>
          simp at hi; subst hi
          refine ⟨d, y, rfl, h1, h2, ?_⟩
          rw [Nat.add_zero, if_pos hk]
          dsimp only
          rw [if_pos (Nat.le_refl _), if_neg (by omega), ← hcs, g2 _ (Nat.le_refl _)]
          exact h3
        | succ i =>
          obtain ⟨d', y', k1, k2, k3, k4⟩ := g5 i o' (by simpa using hi)
          rw [put_n] at k3
          refine ⟨d', y', by simpa using k1, k2, k3, ?_⟩
          rw [show k + (i + 1) = k + 1 + i by omega]
          have hge : ∀ t, cntE E (k + 1) ≤ cntE E (k + 1 + t) := fun t => by
            induction t with
            | zero => exact Nat.le_refl _
            | succ t ih => have := cntE_succ hn (k + 1 + t); rw [show k + 1 + (t + 1) = k + 1 + t + 1 by omega]; omega
          have := hge i
          dsimp only
          rw [if_neg (show ¬ cntE E (k + 1 + i) ≤ cntE E k by omega), if_neg (show ¬ cntE E (k + 1 + i) + 1 ≤ cntE E k by omega)]
          rw [put_boxes] at k4
          exact k4
    · rw [if_neg (by simpa using hk)] at h
      rw [if_neg hk, Nat.add_zero] at hcs
      obtain ⟨d, y, h1, h2, h3, h4⟩ : ∃ d y, o.dst = some d ∧ d < σ.n ∧ headE P ops n0 i0 E LF (k + 1) l (σ.put (some d) y) c K ∧ if k ∈ LF then FrontC P o σ.ev y else StepG P ops o d σ σ.boxes y := by
        by_cases hkL : k ∈ LF
        · rw [if_pos (by simpa using hkL)] at h
          obtain ⟨d, y, h1, h2, h3, h4⟩ := frB_sound h
          exact ⟨d, y, h1, h2, h3, by rw [if_pos hkL]; exact h4⟩
        · rw [if_neg (by simpa using hkL)] at h
          obtain ⟨d, y, h1, h2, h3, h4⟩ := headG_sound h
          exact ⟨d, y, h1, h2, h3, by rw [if_neg hkL]; exact h4⟩
      obtain ⟨vs, C, g1, g2, g3, g4, g5⟩ := headE_vals hn l (k + 1) _ c K h3 hc
      refine ⟨(d, y) :: vs, C, by simp [g1], fun j hj => g2 j (by omega), g3, ?_, fun i o' hi => ?_⟩
      · simp only [puts, List.length_cons]
        rw [show k + (l.length + 1) = k + 1 + l.length by omega]; exact g4
      · cases i with
        | zero =>
          simp at hi; subst hi
          refine ⟨d, y, rfl, h1, h2, ?_⟩
          rw [Nat.add_zero, if_neg hk]; exact h4
        | succ i =>
          obtain ⟨d', y', k1, k2, k3, k4⟩ := g5 i o' (by simpa using hi)
          rw [put_n] at k3
          rw [put_boxes] at k4
          refine ⟨d', y', by simpa using k1, k2, k3, ?_⟩
          rw [show k + (i + 1) = k + 1 + i by omega]; exact k4

/-- no other slot bears these tags -/
def freeBut (d : Nat) : List (Nat × AV) → Bool
  | [] => true
  | (s, v) :: r => (s == d || v.allLeaf (freeLeaf d)) && freeBut d r
def freeOthers (l : List (Nat × AV)) : List Nat → Bool
  | [] => true
  | d :: r => freeBut d l && freeOthers l r
theorem freeBut_look {d : Nat} : ∀ {l : List (Nat × AV)}, freeBut d l = true → ∀ s, s ≠ d → (lookT l s).allLeaf (freeLeaf d) = true
  | [], _, _, _ => rfl
  | (s', v) :: r, h, s, hs => by
    simp only [freeBut, Bool.and_eq_true, Bool.or_eq_true, beq_iff_eq] at h
    unfold lookT
    split
    · rename_i he
      rcases h.1 with h1 | h1
      · exact absurd (he.symm.trans h1) (by intro e; exact hs e)
      · exact h1
    · exact freeBut_look h.2 s hs
theorem freeOthers_mem {l : List (Nat × AV)} : ∀ {ds : List Nat}, freeOthers l ds = true → ∀ d ∈ ds, freeBut d l = true
  | d' :: r, h, d, hd => by
    simp only [freeOthers, Bool.and_eq_true] at h
    rcases List.mem_cons.1 hd with rfl | hd
    · exact h.1
    · exact freeOthers_mem h.2 d hd
theorem noTag_free {d : Nat} : ∀ (x : AV), noTag x = true → freeLeaf d x = true := fun x h => by
  cases x <;> simp [noTag, freeLeaf] at h ⊢
  all_goals (first | (unfold root; omega) | skip)
def nodupE : List Nat → Bool
  | [] => true
  | e :: r => !r.contains e && nodupE r
theorem nodupE_spec : ∀ {E : List Nat}, nodupE E = true → E.Nodup
  | [], _ => List.nodup_nil
  | e :: r, h => by
    simp only [nodupE, Bool.and_eq_true, Bool.not_eq_true'] at h
    exact List.nodup_cons.2 ⟨by simpa using h.1, nodupE_spec h.2⟩
def effOk (ops : Array Oper) (m : Nat) (E : List Nat) : Bool :=
  nodupE E && E.all (fun e => decide (e < m)) && E.all fun e => E.all fun e' => !decide (e < e') || reach ops ops.size e' e

/-- what the check of all says: LF name places and are taken as soon as they are ready; the tail is walked as the tree says -/
def lateOk (ops : Array Oper) (m : Nat) (E LF : List Nat) (tr : Tr) (sg : Option (Nat × Tr)) : Bool :=
  decide (m ≤ ops.size) && ((List.range ops.size).all (fun i => match ops[i]? with
    | none => false
    | some o => if i < m then headOkG ops m i o else (edges o).all (fun k => decide (k < i)) && (List.range m).all fun j => LF.contains j || (sgIs sg j || reach ops ops.size i j)) &&
  (LF.all (fun j => decide (j < m) && (!E.contains j && match ops[j]? with | none => false | some p => frontOk ops j p)) && (trOk ops true (List.range m) tr && match sg with
    | none => true
    | some (x, t) => decide (x < m) && (!E.contains x && (!LF.contains x && ((LF.all fun j => match ops[j]? with | none => false | some p => !(edges p).contains x) && trOk ops true ((List.range m).filter fun i => !(i == x)) t))))))
theorem lateOk_plan {ops : Array Oper} {m : Nat} {E LF : List Nat} {tr : Tr} {sg : Option (Nat × Tr)} (h : lateOk ops m E LF tr sg = true) : PlanL ops m E LF tr sg := by
  simp only [lateOk, Bool.and_eq_true, decide_eq_true_eq, List.all_eq_true, List.mem_range, Bool.not_eq_true'] at h
  obtain ⟨h1, h2, h3, h4, h5⟩ := h
  have hof : ∀ i o, ops[i]? = some o → (if i < m then headOkG ops m i o else (edges o).all (fun k => decide (k < i)) && (List.range m).all fun j => LF.contains j || (sgIs sg j || reach ops ops.size i j)) = true := fun i o ho => by
    have := h2 i (Array.getElem?_eq_some_iff.1 ho).1
    rw [ho] at this; simpa using this
  refine ⟨h1, fun i o ho k hk => ?_, fun i o ho hi => ?_, fun i o ho hi j hj hjL hjs => ?_, fun j hj => ⟨(h3 j hj).1, by simpa using (h3 j hj).2.1, fun p hp => ?_⟩, h4, fun x t hsg => ?_⟩
  · have := hof i o ho
    split at this
    · simp only [headOkG, Bool.and_eq_true, List.all_eq_true, decide_eq_true_eq] at this
      exact this.1 k hk
    · simp only [Bool.and_eq_true, List.all_eq_true, decide_eq_true_eq] at this
      exact this.1 k hk
  · have := hof i o ho
    rw [if_pos hi] at this
    simp only [headOkG, Bool.and_eq_true] at this
    obtain ⟨_, g3⟩ := this
    split at g3
    · cases g3
    · rename_i d hd
      simp only [Bool.and_eq_true, List.all_eq_true, List.mem_range, Bool.not_eq_true', Bool.or_eq_true, beq_iff_eq] at g3
      refine ⟨d, hd, by simpa using g3.1, fun j p s hj hji hp hs => ?_⟩
      have := (g3.2 j hj).resolve_left hji
      simp only [hp, hs, Bool.and_eq_true, bne_iff_ne, ne_eq, Bool.or_eq_true, Bool.not_eq_true'] at this
      refine ⟨this.1, fun hm => ?_⟩
      have h' := this.2.resolve_left (by simpa using hm)
      split at h'
      · rename_i hlt; rw [if_pos hlt]; exact h'
      · rename_i hlt; rw [if_neg hlt]; exact h'
  · have := hof i o ho
    rw [if_neg (by omega)] at this
    simp only [Bool.and_eq_true, List.all_eq_true, List.mem_range, Bool.or_eq_true] at this
    exact ((this.2 j hj).resolve_left (by simpa using hjL)).resolve_left (by rw [hjs]; simp)
  · have := (h3 j hj).2.2
    rw [hp] at this
    exact frontOk_front hp this
  · subst hsg
    simp only [Bool.and_eq_true, decide_eq_true_eq, Bool.not_eq_true', List.all_eq_true] at h5
    refine ⟨h5.1, by simpa using h5.2.1, by simpa using h5.2.2.1, fun j hj p hp => ?_, h5.2.2.2.2⟩
    have := h5.2.2.2.1 j hj
    rw [hp] at this
    simpa using this

theorem puts_eq : ∀ (vs : List (Nat × AV)) (σ : St) (b : List (List AV)), puts { σ with boxes := b } vs = { puts σ vs with boxes := b }
  | [], σ, b => rfl
  | p :: r, σ, b => by simp only [puts]; exact puts_eq r (σ.put (some p.1) p.2) b
theorem puts_boxes : ∀ (vs : List (Nat × AV)) (σ : St), (puts σ vs).boxes = σ.boxes
  | [], σ => rfl
  | p :: r, σ => by simp only [puts]; rw [puts_boxes r, put_boxes]
theorem puts_ev (vs : List (Nat × AV)) (σ : St) (b : List (List AV)) : (puts { σ with boxes := b } vs).ev = (puts σ vs).ev := by
  funext x; rw [puts_eq]; cases x <;> rfl
theorem puts_get (vs : List (Nat × AV)) (σ : St) (b : List (List AV)) (s : Nat) : (puts { σ with boxes := b } vs).get s = (puts σ vs).get s := by rw [puts_eq]; rfl

/-- a drawn region, as the order that is drawn -/
def DrawN (P : Program) (ops : Array Oper) (σ : St) (K : St → Prop) : Prop :=
  ∀ (G0 : Orig) (w0 : World) (G : Nat → Status) (a : Act) (w : World) (Q : Exit → Act → World → Prop), True → SRel G0 w0 σ G a w → (∀ e a w, e ≠ .normal → ¬ Q e a w) → (∀ σ' G' a' w', K σ' → SRel G0 w0 σ' G' a' w' → Q .normal a' w') → wpAny P .any ops Q ops.size (Array.replicate ops.size false) a w
theorem DrawK.ofN {σ : St} {K : St → Prop} (hm : P.follows .mixedOrders = true) (h : DrawN P ops σ K) : DrawK P ops σ K := by
  intro G0 w0 G a w id Q h0 hs hQ
  exact wp_region_any hm (wpAny_normal _ _ _ _ (h G0 w0 G a _ _ h0 (hs.drawn (w.drawn + 1)) (fun e a w hn h => hn h.1) fun σ' G' a' w' hk hs => ⟨rfl, hQ σ' G' a' w' hk hs⟩))

/-- A DRAWN REGION with effects: the operations whose places are E call functions that write to variable i0, one after the other; the others of the first m only add. -/
theorem DrawN.eff {σ : St} {K : St → Prop} (i0 : Nat) (E LF : List Nat) (m : Nat) (tr : Tr) (sg : Option (Nat × Tr)) (c : List AV) (hok : lateOk ops m E LF tr sg = true) (hE : effOk ops m E = true) (hc : σ.boxes[i0]? = some c) (hnt : allLeafs noTag c = true) (hfree : freeAll σ (creators ops m) = true)
    (h : headE P ops σ.boxes.length i0 E LF 0 (ops.toList.take m) { σ with boxes := σ.boxes.set i0 (blankC E c) } c fun σ' c' => freeOthers σ'.tmps (creators ops m) = true ∧ treeA P ops tr { σ' with boxes := σ'.boxes.set i0 c' } K ∧ sgA P ops sg { σ' with boxes := σ'.boxes.set i0 c' } K) : DrawN P ops σ K := by
  intro G0 w0 G a w Q h0 hs hN hQ
  have hp := lateOk_plan hok
  simp only [effOk, Bool.and_eq_true, List.all_eq_true, decide_eq_true_eq, Bool.or_eq_true, Bool.not_eq_true', decide_eq_false_iff_not] at hE
  have hpE : PlanE ops m E := ⟨nodupE_spec hE.1.1, hE.1.2, fun e he e' he' hlt => (hE.2 e he e' he').resolve_left (fun hn => hn hlt)⟩
  obtain ⟨vs, C, hvl, hC0, hC, ⟨hoth, hK, hK2⟩, hst⟩ := headE_vals hpE.nodup _ _ _ _ _ h hnt
  have hlen : (ops.toList.take m).length = m := by have := hp.le; simp; omega
  rw [hlen] at hvl
  have hcm : cntE E (0 + (ops.toList.take m).length) = E.length := by
    rw [hlen, Nat.zero_add]
    unfold cntE posE
    rw [List.filter_eq_self.2 fun e he => by simpa using hpE.lt e he]
  rw [hcm] at hK hK2
  have hst' : ∀ i o, i < m → ops[i]? = some o → ∃ d y, vs[i]? = some (d, y) ∧ o.dst = some d ∧ d < σ.n ∧
      if i ∈ E then EffC P σ i0 o d (puts σ (vs.take i)).ev (C (E.filter fun e => decide (e < i)).length) y (C ((E.filter fun e => decide (e < i)).length + 1)) else if i ∈ LF then FrontC P o (puts σ (vs.take i)).ev y else StepG P ops o d (puts σ (vs.take i)) (σ.boxes.set i0 (blankC E (C 0))) y := fun i o hi ho => by
    obtain ⟨d, y, k1, k2, k3, k4⟩ := hst i o (by rw [List.getElem?_take, if_pos hi]; simpa using ho)
    refine ⟨d, y, k1, k2, k3, ?_⟩
    rw [Nat.zero_add] at k4
    split
    · rename_i hiE
      rw [if_pos hiE, puts_ev] at k4
      unfold EffC at k4 ⊢
      simp only [List.length_replicate] at k4
      exact k4
    · rename_i hiE
      rw [if_neg hiE] at k4
      rw [hC0 0 (Nat.zero_le _)]
      split
      · rename_i hiL
        rw [if_pos hiL, puts_ev] at k4
        exact k4
      rename_i hiL
      rw [if_neg hiL] at k4
      unfold StepG at k4 ⊢
      rw [puts_ev] at k4
      simp only [puts_get] at k4
      exact k4
  have hap : Apart vs := by
    intro i j d y d' y' h1 h2 hij
    have hil : i < m := by have := (List.getElem?_eq_some_iff.1 h1).1; omega
    have hjl : j < m := by have := (List.getElem?_eq_some_iff.1 h2).1; omega
    have hle := hp.le
    obtain ⟨oi, hoi⟩ : ∃ p, ops[i]? = some p := ⟨ops[i]'(by omega), by simp [show i < ops.size by omega]⟩
    obtain ⟨oj, hoj⟩ : ∃ p, ops[j]? = some p := ⟨ops[j]'(by omega), by simp [show j < ops.size by omega]⟩
    obtain ⟨_, _, k1, k2, _⟩ := hst' i oi hil hoi
    obtain ⟨_, _, k3, k4, _⟩ := hst' j oj hjl hoj
    rw [h1] at k1; cases k1
    rw [h2] at k3; cases k3
    obtain ⟨d1, e1, _, e2⟩ := hp.head j oj hoj hjl
    rw [k4] at e1; cases e1
    exact (e2 i oi d hil hij hoi k2).1
  have hs' := hs
  have hgd : ∀ i, (Array.replicate ops.size false).getD i false = false := fun i => by
    by_cases hi : i < ops.size <;> simp [hi]
  have hcrm : ∀ i o d, ops[i]? = some o → i < m → o.dst = some d → creates o.op = true → d ∈ creators ops m := fun i o d ho hi hd hcr => by
    unfold creators
    refine List.mem_filterMap.2 ⟨o, ?_, by rw [if_pos hcr]; exact hd⟩
    refine List.mem_of_getElem? (i := i) ?_
    rw [List.getElem?_take, if_pos hi]; simpa using ho
  have hset : ∀ c', (puts { σ with boxes := σ.boxes.set i0 (blankC E c) } vs).boxes.set i0 c' = σ.boxes.set i0 c' := fun c' => by rw [puts_boxes, List.set_set]
  refine head_runE (P := P) hp hpE h0 hN hQ hvl hap (fun j => by rw [(hC j).1, (hC 0).1]) ?_ ?_ hst' (fun i o d ho hi hd hcr => ⟨fun j d' y hji hj => ?_, fun j => allLeafs_mono noTag_free _ (hC j).2⟩) ops.size (Array.replicate ops.size false) (List.range ops.size) σ G a _ ⟨by simp, List.nodup_range, fun i => ?_⟩ (by simp) (fun i _ => hgd i)
    (fun i o _ hi => absurd (show (Array.replicate ops.size false).getD i false = true from hi) (by rw [hgd]; simp)) ⟨rfl, ?_, fun i d y _ => by simp only [hgd]; simp, fun _ _ => rfl⟩ hs' (fun i o d ho hi hd hcr _ => freeAll_mem hfree d (hcrm i o d ho hi hd hcr))
  · rw [hset] at hK
    rw [puts_eq] at hK ⊢
    exact hK
  · rw [hset] at hK2
    rw [puts_eq] at hK2 ⊢
    exact hK2
  · have hb := freeOthers_mem hoth d (hcrm i o d ho hi hd hcr)
    obtain ⟨oi, yi, k1, k2, _⟩ := hst' i o hi ho
    rw [hd] at k2; cases k2
    have hne := hap i j d yi d' y k1 hj (Ne.symm hji)
    have hpa := puts_at m vs { σ with boxes := σ.boxes.set i0 (blankC E c) } hap
    rw [List.take_of_length_le (by omega)] at hpa
    have hjm : j < m := by have := (List.getElem?_eq_some_iff.1 hj).1; omega
    have hg := hpa.dst j d' y hj
    simp only [hjm, decide_true, if_true] at hg
    rw [← hg]
    exact freeBut_look hb d' (Ne.symm hne)
  · rw [List.mem_range, hgd]; simp
  · have : posE E (fun i => (Array.replicate ops.size false).getD i false) = 0 := by
      unfold posE
      rw [List.filter_eq_nil_iff.2 fun e _ => by rw [hgd]; simp]; rfl
    rw [this, hC0 0 (Nat.zero_le _)]
    have hi := (List.getElem?_eq_some_iff.1 hc).1
    rw [← (List.getElem?_eq_some_iff.1 hc).2, List.set_getElem_self]
end

/-! ### the operations, in another row -/
def renO (π : List Nat) (o : Oper) : Oper := ⟨o.dst, o.op, o.type, o.pos, o.after.map fun e => ⟨π.idxOf e.on, e.ground⟩, o.guard.map fun p => (π.idxOf p.1, p.2)⟩
def permG (π : List Nat) (l : List Oper) : List Nat → List Oper
  | [] => []
  | i :: r => match l[i]? with
    | some o => renO π o :: permG π l r
    | none => []
def permOk (l : List Oper) (π : List Nat) : Bool :=
  π.length == l.length && (nodupE π && ((List.range l.length).all (fun i => π.contains i) && (π.all (fun i => decide (i < l.length)) && l.all fun o => (o.after.toList.all fun e => decide (e.on < l.length)) && match o.guard with | none => true | some p => decide (p.1 < l.length))))

theorem permG_len {π : List Nat} {l : List Oper} : ∀ {r : List Nat}, (∀ i ∈ r, i < l.length) → (permG π l r).length = r.length
  | [], _ => rfl
  | i :: r, h => by
    have hi := h i (List.mem_cons_self ..)
    simp only [permG, List.getElem?_eq_getElem hi, List.length_cons]
    rw [permG_len fun j hj => h j (List.mem_cons_of_mem _ hj)]
theorem permG_get {π : List Nat} {l : List Oper} : ∀ {r : List Nat}, (∀ i ∈ r, i < l.length) → ∀ (k i : Nat), r[k]? = some i → (permG π l r)[k]? = (l[i]?).map (renO π)
  | [], _, k, i, h => by simp at h
  | j :: r, h, k, i, hk => by
    have hj := h j (List.mem_cons_self ..)
    simp only [permG, List.getElem?_eq_getElem hj]
    cases k with
    | zero => simp at hk; subst hk; simp [List.getElem?_eq_getElem hj]
    | succ k => simpa using permG_get (fun j hj => h j (List.mem_cons_of_mem _ hj)) k i (by simpa using hk)

theorem edges_ren {π : List Nat} {o : Oper} : edges (renO π o) = (edges o).map fun k => π.idxOf k := by
  unfold edges renO
  simp only [Array.toList_map, List.filter_map, List.map_map]
  rfl

theorem wanted_ren {π : List Nat} {o : Oper} {y y' : Nat → Option Bool} (h : ∀ j b, o.guard = some (j, b) → y' (π.idxOf j) = y j) : Region.wanted (renO π o) y' = Region.wanted o y := by
  unfold Region.wanted renO
  cases hg : o.guard with
  | none => rfl
  | some p =>
    obtain ⟨j, b⟩ := p
    simp [h j b hg]

theorem wpAny_perm {P : Program} {ops ops' : Array Oper} {Q : Exit → Act → World → Prop} {π : List Nat} (hsz : ops'.size = ops.size) (hb : ∀ i, i < ops.size → π.idxOf i < ops.size) (hsur : ∀ k, k < ops.size → ∃ i, i < ops.size ∧ π.idxOf i = k) (hinj : ∀ i j, i < ops.size → j < ops.size → π.idxOf i = π.idxOf j → i = j)
    (hop : ∀ (i : Nat) (o : Oper), ops[i]? = some o → ops'[π.idxOf i]? = some (renO π o)) (hed : ∀ (i : Nat) (o : Oper), ops[i]? = some o → ∀ k ∈ edges o, k < ops.size) (hgd : ∀ (i : Nat) (o : Oper) (j : Nat) (b : Bool), ops[i]? = some o → o.guard = some (j, b) → j < ops.size) :
    ∀ (fuel : Nat) (listed listed' : Array Bool) (a : Act) (w : World), listed.size = ops.size → listed'.size = ops.size → (∀ i, i < ops.size → listed'.getD (π.idxOf i) false = listed.getD i false) → wpAny P .any ops' Q fuel listed' a w → wpAny P .any ops Q fuel listed a w := by
  have rdy : ∀ {listed listed' : Array Bool} {i : Nat}, listed.size = ops.size → listed'.size = ops.size → (∀ i, i < ops.size → listed'.getD (π.idxOf i) false = listed.getD i false) → i < ops.size → (π.idxOf i ∈ Region.ready .any ops' listed' ↔ i ∈ Region.ready .any ops listed) := by
    intro listed listed' i h1 h2 hl hi
    rw [ready_iff h1, ready_iff (by rw [h2, hsz])]
    have ho : ops[i]? = some ops[i] := by simp [hi]
    rw [ho, hop i _ ho]
    simp only [Option.some.injEq, exists_eq_left', edges_ren, hl i hi, List.mem_map, forall_exists_index, and_imp, forall_apply_eq_imp_iff₂]
    refine and_congr Iff.rfl ⟨fun h k hk => ?_, fun h k hk => ?_⟩
    · rw [← hl k (hed i _ ho k hk)]; exact h k hk
    · rw [hl k (hed i _ ho k hk)]; exact h k hk
  have rnil : ∀ {listed listed' : Array Bool}, listed.size = ops.size → listed'.size = ops.size → (∀ i, i < ops.size → listed'.getD (π.idxOf i) false = listed.getD i false) → (Region.ready .any ops' listed' = [] ↔ Region.ready .any ops listed = []) := by
    intro listed listed' h1 h2 hl
    simp only [List.eq_nil_iff_forall_not_mem]
    constructor
    · intro h i hi
      obtain ⟨o, ho, _⟩ := (ready_iff h1).1 hi
      exact h _ ((rdy h1 h2 hl (Array.getElem?_eq_some_iff.1 ho).1).2 hi)
    · intro h k hk
      obtain ⟨o, ho, _⟩ := (ready_iff (by rw [h2, hsz])).1 hk
      obtain ⟨i, hi, rfl⟩ := hsur k (by rw [← hsz]; exact (Array.getElem?_eq_some_iff.1 ho).1)
      exact h i ((rdy h1 h2 hl hi).1 hk)
  intro fuel
  induction fuel with
  | zero =>
    intro listed listed' a w h1 h2 hl h
    exact ⟨(rnil h1 h2 hl).1 h.1, h.2⟩
  | succ fuel ih =>
    intro listed listed' a w h1 h2 hl h
    refine ⟨fun hr => h.1 ((rnil h1 h2 hl).2 hr), fun i hi => ?_⟩
    obtain ⟨o, ho, _⟩ := (ready_iff h1).1 hi
    have hil := (Array.getElem?_eq_some_iff.1 ho).1
    have h3 := h.2 _ ((rdy h1 h2 hl hil).2 hi)
    have hlp : ∀ j, j < ops.size → (listed'.setIfInBounds (π.idxOf i) true).getD (π.idxOf j) false = (listed.setIfInBounds i true).getD j false := fun j hj => by
      rw [set_getD (by rw [h2]; exact hb i hil), set_getD (by rw [h1]; exact hil)]
      by_cases hij : i = j
      · subst hij; simp
      · rw [if_neg hij, if_neg (fun he => hij (hinj i j hil hj he)), hl j hj]
    have h4 := wpOp_mono (fun a w => ih (listed.setIfInBounds i true) _ a w (by simpa using h1) (by simpa using h2) hlp) h3
    simp only [Go.wpOp, ho, hop i o ho] at h4 ⊢
    have hw : Region.wanted (renO π o) (yielded ops' a.tmps) = Region.wanted o (yielded ops a.tmps) := wanted_ren fun j b hg => by
      have hj := hgd i o j b ho hg
      have hoj : ops[j]? = some ops[j] := by simp [hj]
      unfold yielded
      rw [hoj, hop j _ hoj]; rfl
    rw [hw] at h4
    exact h4

theorem mem_idx {π : List Nat} {i : Nat} (h : i ∈ π) : π[π.idxOf i]? = some i := by
  have := List.idxOf_lt_length_of_mem h
  rw [List.getElem?_eq_getElem this, List.getElem_idxOf this]

theorem DrawN.perm {P : Program} {l l' : List Oper} {σ : St} {K : St → Prop} (π : List Nat) (hok : permOk l π = true) (hl : permG π l π = l') (h : DrawN P l'.toArray σ K) : DrawN P l.toArray σ K := by
  subst hl
  simp only [permOk, Bool.and_eq_true, beq_iff_eq, List.all_eq_true, List.mem_range, decide_eq_true_eq] at hok
  obtain ⟨h1, h2, h3, h4, h5⟩ := hok
  have h2 := nodupE_spec h2
  have hin : ∀ i, i < l.length → i ∈ π := fun i hi => by simpa using h3 i hi
  have hlen : (permG π l π).length = l.length := by rw [permG_len h4, h1]
  intro G0 w0 G a w Q h0 hs hN hQ
  have hgd : ∀ (n i : Nat), (Array.replicate n false).getD i false = false := fun n i => by
    by_cases hi : i < n <;> simp [hi]
  refine wpAny_perm (π := π) (ops' := (permG π l π).toArray) (by simpa using hlen) (fun i hi => ?_) (fun k hk => ?_) (fun i j hi hj he => ?_) (fun i o ho => ?_) (fun i o ho k hk => ?_) (fun i o j b ho hg => ?_) _ _ (Array.replicate (permG π l π).toArray.size false) a w (by simp) (by simpa using hlen) (fun i _ => by rw [hgd, hgd]) ?_
  · have := List.idxOf_lt_length_of_mem (hin i (by simpa using hi)); simpa [h1] using this
  · have hk' : k < π.length := by simpa [h1] using hk
    refine ⟨π[k], by simpa using h4 _ (List.getElem_mem hk'), ?_⟩
    exact h2.idxOf_getElem k hk'
  · have e1 := mem_idx (hin i (by simpa using hi))
    have e2 := mem_idx (hin j (by simpa using hj))
    rw [he, e2] at e1; simpa using e1.symm
  · have hi : i < l.length := by simpa using (Array.getElem?_eq_some_iff.1 ho).1
    have := permG_get (π := π) h4 _ i (mem_idx (hin i hi))
    rw [List.getElem?_toArray, this]
    rw [List.getElem?_toArray] at ho
    rw [ho]; rfl
  · have hm : o ∈ l := List.mem_of_getElem? (by simpa using ho)
    unfold edges at hk
    obtain ⟨e, he, rfl⟩ := List.mem_map.1 hk
    simpa using (h5 o hm).1 e (List.mem_filter.1 he).1
  · have hm : o ∈ l := List.mem_of_getElem? (by simpa using ho)
    have := (h5 o hm).2
    rw [hg] at this
    simpa using this
  · have := h G0 w0 G a w Q h0 hs hN hQ
    rw [show l.toArray.size = (permG π l π).toArray.size by simpa using hlen.symm]
    exact this

/-! ### as rules -/
def headX (P : Program) (ops : Array Oper) (n0 i0 : Nat) (E LF ds : List Nat) (tr : Tr) (sg : Option (Nat × Tr)) : Nat → Nat → List Oper → St → List AV → (St → Prop) → Prop
  | _, 0, _, σ, c, K => freeOthers σ.tmps ds = true ∧ (treeA P ops tr { σ with boxes := σ.boxes.set i0 c } K ∧ sgA P ops sg { σ with boxes := σ.boxes.set i0 c } K)
  | _, _ + 1, [], σ, c, K => freeOthers σ.tmps ds = true ∧ (treeA P ops tr { σ with boxes := σ.boxes.set i0 c } K ∧ sgA P ops sg { σ with boxes := σ.boxes.set i0 c } K)
  | k, m + 1, o :: r, σ, c, K => if E.contains k = true then EffK P n0 i0 o σ c fun σ' c' => headX P ops n0 i0 E LF ds tr sg (k + 1) m r σ' c' K else if LF.contains k = true then frB P o σ fun σ' => headX P ops n0 i0 E LF ds tr sg (k + 1) m r σ' c K else headG P ops o σ fun σ' => headX P ops n0 i0 E LF ds tr sg (k + 1) m r σ' c K
theorem headX_eq {P : Program} {ops : Array Oper} {n0 i0 : Nat} {E LF ds : List Nat} {tr : Tr} {sg : Option (Nat × Tr)} {K : St → Prop} : ∀ (m k : Nat) (l : List Oper) (σ : St) (c : List AV), headX P ops n0 i0 E LF ds tr sg k m l σ c K =
    headE P ops n0 i0 E LF k (l.take m) σ c fun σ' c' => freeOthers σ'.tmps ds = true ∧ (treeA P ops tr { σ' with boxes := σ'.boxes.set i0 c' } K ∧ sgA P ops sg { σ' with boxes := σ'.boxes.set i0 c' } K)
  | 0, k, l, σ, c => by cases l <;> rfl
  | m + 1, k, [], σ, c => rfl
  | m + 1, k, o :: l, σ, c => by
    have ih : ∀ σ' c', headX P ops n0 i0 E LF ds tr sg (k + 1) m l σ' c' K = headE P ops n0 i0 E LF (k + 1) (l.take m) σ' c' fun σ' c' => freeOthers σ'.tmps ds = true ∧ (treeA P ops tr { σ' with boxes := σ'.boxes.set i0 c' } K ∧ sgA P ops sg { σ' with boxes := σ'.boxes.set i0 c' } K) := fun σ' c' => headX_eq m (k + 1) l σ' c'
    simp only [headX, List.take_succ_cons, headE, ih]
theorem headX_cons {P : Program} {ops : Array Oper} {n0 i0 : Nat} {E LF ds : List Nat} {tr : Tr} {sg : Option (Nat × Tr)} {K : St → Prop} {m k : Nat} {o : Oper} {l : List Oper} {σ : St} {c : List AV} : headX P ops n0 i0 E LF ds tr sg k (m + 1) (o :: l) σ c K =
    if E.contains k = true then EffK P n0 i0 o σ c fun σ' c' => headX P ops n0 i0 E LF ds tr sg (k + 1) m l σ' c' K else if LF.contains k = true then frB P o σ fun σ' => headX P ops n0 i0 E LF ds tr sg (k + 1) m l σ' c K else headG P ops o σ fun σ' => headX P ops n0 i0 E LF ds tr sg (k + 1) m l σ' c K := rfl
theorem crs_creators (l : List Oper) (m : Nat) : creators l.toArray m = crs (l.take m) := by rw [crs_eq]; rfl
theorem DrawN.effs {P : Program} {l : List Oper} {σ : St} {K : St → Prop} (i0 : Nat) (E LF : List Nat) (m : Nat) (tr : Tr) (sg : Option (Nat × Tr)) (c : List AV) (hok : lateOk l.toArray m E LF tr sg = true) (hE : effOk l.toArray m E = true) (hc : σ.boxes[i0]? = some c) (hnt : allLeafs noTag c = true)
    (h : andK (freeAll σ (crs (l.take m)) = true) (headX P l.toArray σ.boxes.length i0 E LF (crs (l.take m)) tr sg 0 m l ⟨σ.n, σ.tmps, σ.boxes.set i0 (blankC E c)⟩ c K)) : DrawN P l.toArray σ K :=
  DrawN.eff i0 E LF m tr sg c hok hE hc hnt (by rw [crs_creators]; exact h.1) (by rw [crs_creators]; have := h.2; rw [headX_eq] at this; exact this)
/-- A DRAWN REGION with effects, its operations put into the row π: E: the calls that write to variable i0; LF: those that name places, taken as soon as they are ready; the first m come first, then the tail in the orders of the tree. -/
theorem DrawK.effs {P : Program} {l l' : List Oper} {σ : St} {K : St → Prop} (π : List Nat) (i0 : Nat) (E LF : List Nat) (m : Nat) (tr : Tr) (sg : Option (Nat × Tr)) (c : List AV) (hm : P.follows .mixedOrders = true) (hπ : permOk l π = true) (hl : permG π l π = l') (hok : lateOk l'.toArray m E LF tr sg = true) (hE : effOk l'.toArray m E = true) (hc : σ.boxes[i0]? = some c) (hnt : allLeafs noTag c = true)
    (h : andK (freeAll σ (crs (l'.take m)) = true) (headX P l'.toArray σ.boxes.length i0 E LF (crs (l'.take m)) tr sg 0 m l' ⟨σ.n, σ.tmps, σ.boxes.set i0 (blankC E c)⟩ c K)) : DrawK P l.toArray σ K :=
  DrawK.ofN hm (DrawN.perm π hπ hl (DrawN.effs i0 E LF m tr sg c hok hE hc hnt h))
/-- .. in the text's row -/
theorem DrawK.effs0 {P : Program} {l : List Oper} {σ : St} {K : St → Prop} (i0 : Nat) (E LF : List Nat) (m : Nat) (tr : Tr) (sg : Option (Nat × Tr)) (c : List AV) (hm : P.follows .mixedOrders = true) (hok : lateOk l.toArray m E LF tr sg = true) (hE : effOk l.toArray m E = true) (hc : σ.boxes[i0]? = some c) (hnt : allLeafs noTag c = true)
    (h : andK (freeAll σ (crs (l.take m)) = true) (headX P l.toArray σ.boxes.length i0 E LF (crs (l.take m)) tr sg 0 m l ⟨σ.n, σ.tmps, σ.boxes.set i0 (blankC E c)⟩ c K)) : DrawK P l.toArray σ K :=
  DrawK.ofN hm (DrawN.effs i0 E LF m tr sg c hok hE hc hnt h)

section
variable {P : Program} {n : Nat} {t : List (Nat × AV)} {b : List (List AV)} {ops : Array Oper} {n0 i0 k m : Nat} {E LF ds : List Nat} {tr : Tr} {sg : Option (Nat × Tr)} {l : List Oper} {c : List AV} {K : St → Prop}
variable {d : Nat} {T : TypeId} {pos : String} {af : Array Edge} {g : Option (Nat × Bool)}
@[congr] theorem headX_congr {n0' k' : Nat} {σ σ' : St} {c' : List AV} (h0 : n0 = n0') (h1 : k = k') (h : mkd σ = σ') (h2 : c = c') : headX P ops n0 i0 E LF ds tr sg k m l σ c K = headX P ops n0' i0 E LF ds tr sg k' m l σ' c' K := by subst_vars; rfl
@[congr] theorem EffK_congr {n0' : Nat} {o : Oper} {σ σ' : St} {c' : List AV} {K : St → List AV → Prop} (h0 : n0 = n0') (h : mkd σ = σ') (h2 : c = c') : EffK P n0 i0 o σ c K = EffK P n0' i0 o σ' c' K := by subst_vars; rfl
@[congr] theorem frB_congr {o : Oper} {σ σ' : St} {K : St → Prop} (h : mkd σ = σ') : frB P o σ K = frB P o σ' K := by subst_vars; rfl
@[go_sem] theorem frB_eq {o : Oper} : frB P o ⟨n, t, b⟩ K = frA P (some o) ⟨n, t, b⟩ K := rfl
@[go_sem] theorem headX_zero : headX P ops n0 i0 E LF ds tr sg k 0 l ⟨n, t, b⟩ c K = andK (freeOthers t ds = true) (andK (treeA P ops tr ⟨n, t, b.set i0 c⟩ K) (sgA P ops sg ⟨n, t, b.set i0 c⟩ K)) := by cases l <;> rfl
@[go_sem] theorem headX_nil : headX P ops n0 i0 E LF ds tr sg k (m + 1) [] ⟨n, t, b⟩ c K = andK (freeOthers t ds = true) (andK (treeA P ops tr ⟨n, t, b.set i0 c⟩ K) (sgA P ops sg ⟨n, t, b.set i0 c⟩ K)) := rfl
@[go_sem] theorem headX_succ {dst : Option Tmp} {op : Op} : headX P ops n0 i0 E LF ds tr sg k (m + 1) (⟨dst, op, T, pos, af, none⟩ :: l) ⟨n, t, b⟩ c K = selK (E.contains k) (EffK P n0 i0 ⟨dst, op, T, pos, af, none⟩ ⟨n, t, b⟩ c fun σ' c' => headX P ops n0 i0 E LF ds tr sg (k + 1) m l σ' c' K)
    (selK (LF.contains k) (frB P ⟨dst, op, T, pos, af, none⟩ ⟨n, t, b⟩ fun σ' => headX P ops n0 i0 E LF ds tr sg (k + 1) m l σ' c K) (headOp P ⟨dst, op, T, pos, af, none⟩ ⟨n, t, b⟩ fun σ' => headX P ops n0 i0 E LF ds tr sg (k + 1) m l σ' c K)) := by rw [selK_ite, selK_ite]; rfl
def sgD (P : Program) (ops : Array Oper) (o : Option Oper) (tr : Tr) (σ : St) (K : St → Prop) : Prop := match o with
  | some ⟨some d, _, _, _, _, _⟩ => treeA P ops tr (σ.put (some d) .any) K
  | _ => False
@[congr] theorem sgA_congr {σ σ' : St} (h : mkd σ = σ') : sgA P ops sg σ K = sgA P ops sg σ' K := by subst_vars; rfl
@[congr] theorem sgD_congr {o o' : Option Oper} {σ σ' : St} (h1 : o = o') (h : mkd σ = σ') : sgD P ops o tr σ K = sgD P ops o' tr σ' K := by subst_vars; rfl
@[go_sem] theorem sgA_none : sgA P ops none ⟨n, t, b⟩ K = True := rfl
@[go_sem] theorem sgA_some {x : Nat} : sgA P l.toArray (some (x, tr)) ⟨n, t, b⟩ K = sgD P l.toArray l[x]? tr ⟨n, t, b⟩ K := by
  simp only [sgA, sgD, List.getElem?_toArray]
  cases l[x]? with
  | none => rfl
  | some o =>
    obtain ⟨dst, op, T, pos, af, g⟩ := o
    cases dst <;> simp
@[go_sem] theorem sgD_some {op : Op} : sgD P ops (some ⟨some d, op, T, pos, af, g⟩) tr ⟨n, t, b⟩ K = treeA P ops tr (St.put ⟨n, t, b⟩ (some d) .any) K := rfl
def consO (o : Option Oper) (r : List Oper) : List Oper := match o with
  | some o => o :: r
  | none => []
@[go_sem] theorem consO_some {o : Oper} {r : List Oper} : consO (some o) r = o :: r := rfl
@[go_sem] theorem permG_nil {π : List Nat} : permG π l [] = [] := rfl
@[go_sem] theorem permG_cons {π r : List Nat} {i : Nat} : permG π l (i :: r) = consO ((l[i]?).map (renO π)) (permG π l r) := by
  simp only [permG]
  cases l[i]? <;> rfl
@[go_sem] theorem renO_mk {π : List Nat} {dst : Option Tmp} {op : Op} : renO π ⟨dst, op, T, pos, af, none⟩ = ⟨dst, op, T, pos, af.map fun e => ⟨π.idxOf e.on, e.ground⟩, none⟩ := rfl
attribute [go_sem] freeOthers freeBut blankC
theorem EffK.mk {fid : FuncId} {args : List Operand} {As : Array TypeId} {args' c0 c1 : List AV} {r : AV} {K : St → List AV → Prop} (hcon : Con P fid args' [c0] fun r' bx => r' = r ∧ bx = [c1])
    (hc : d < n ∧ dedup (pbss (evAll ⟨n, t, b⟩ args)) = [i0] ∧ allLeafs noTag (evAll ⟨n, t, b⟩ args) = true ∧ allLeafs noTag c = true) (ha : mapTops (pbIn [i0]) (evAll ⟨n, t, b⟩ args) = args') (hc0 : mapTops (pbIn [i0]) c = c0)
    (hr : r.allLeaf lt64b = true ∧ allLeafs noTag c1 = true ∧ (mapTops (outLeaf (64 * (d + 1)) [i0] n0) c1).length = c.length ∧ allLeafs noTag (mapTops (outLeaf (64 * (d + 1)) [i0] n0) c1) = true)
    (hk : K (St.put ⟨n, t, b⟩ (some d) (r.mapTop (outLeaf (64 * (d + 1)) [i0] n0))) (mapTops (outLeaf (64 * (d + 1)) [i0] n0) c1)) :
    EffK P n0 i0 ⟨some d, .call ⟨.value (.func fid), args.toArray, As⟩, T, pos, af, none⟩ ⟨n, t, b⟩ c K := by
  rw [evAll_eq] at hc ha
  refine ⟨d, _, _, rfl, hc.1, ⟨rfl, fid, args.toArray, As, r, c1, rfl, hc.2.1, hc.2.2.1, by simp [allNoTags, hc.2.2.2], ?_, hr.1, by simp [allNoTags, hr.2.1], by rw [List.length_replicate], by simp [mapB]⟩, hr.2.2.1, hr.2.2.2, hk⟩
  rw [ha, show mapB (pbIn [i0]) [c] = [c0] by simp [mapB, hc0]]
  exact hcon
end
end Go.AM

/-! ## AmZ -/
namespace Go.AM
open Go.RowKit Go.Proofs Go.Shelf

/-- integers as elements -/
def ai (l : List Int) : List AV := l.map fun n => .sc (.int .i64 n)
theorem ai_exact (l : List Int) : ai l = exact (l.map (Value.int .i64)) := by simp [ai, exact]
theorem ai_len (l : List Int) : (ai l).length = l.length := by simp [ai]
theorem ai_one (l : List Int) : One (l.map (Value.int .i64)) := fun u hu => by
  obtain ⟨n, _, rfl⟩ := List.mem_map.1 hu; rfl

theorem VRel.ints {G : Nat → Status} {w : World} {t : Nat} {l : List Int} {v : Value} (h : VRel G w (.sl t 1 (ai l)) v) (ht : 2 ≤ t) (hl : 0 < l.length) :
    ∃ g cap cur e, v = .slice (some ⟨g, 0, none⟩) l.length cap ∧ G g = .tag t ∧ w.heap[g]? = some (.cells cur e (0, 0)) ∧ l.length ≤ cap ∧ cap ≤ maxLen ∧ cur.size = cap ∧ cur.toList.take l.length = l.map (Value.int .i64) := by
  rw [ai_exact] at h
  generalize hL : exact (l.map (Value.int .i64)) = L at h
  cases h with
  | froz h => exfalso; cases h <;> omega
  | own _ _ _ _ e vals _ h2 h3 h4 h0 h5 =>
    rw [← hL] at h2 h5
    have hv := exact_inv h5
    subst hv
    simp only [exact_len, List.length_map] at h2
    rcases h2.2 with ⟨_, hz⟩ | ⟨g, cap, cur, hv, _, hh, hn, hc, hs, ht⟩
    · omega
    · exact ⟨g, cap, cur, e, hv, h3 g (by rw [hv]; rfl), hh, hn, hc, by simpa using hs, by simpa using ht⟩

theorem ints_holds {w : World} {g _cap : Nat} {cur : Array Value} {e : TypeId} {l : List Int} (hh : w.heap[g]? = some (.cells cur e (0, 0))) (ht : cur.toList.take l.length = l.map (Value.int .i64)) :
    Go.Sort.Holds (Value.int .i64) w g 0 l.toArray := fun j hj => by
  have hj' : j < l.length := by simpa using hj
  have h1 : cur.toList[j]? = some (.int .i64 l[j]!) := by
    have := congrArg (fun m : List Value => m[j]?) ht
    simp only [List.getElem?_take, if_pos hj', List.getElem?_map, List.getElem?_eq_getElem hj', Option.map_some] at this
    rw [this, getElem!_pos l j hj']
  refine ⟨?_, by simp [World.frozen?, hh]⟩
  simp only [World.cell?, hh, Nat.zero_add]
  simpa [hj'] using h1

theorem take_putCells {cur : Array Value} {l : List Int} (h : l.length ≤ cur.size) : (Go.Sort.putCells (Value.int .i64) 0 l.toArray cur).toList.take l.length = l.map (Value.int .i64) := by
  apply List.ext_getElem?
  intro k
  simp only [List.getElem?_take, Go.Sort.putCells, Array.getElem?_toList, Array.getElem?_mapIdx, List.getElem?_map]
  by_cases hk : k < l.length
  · have hc : k < cur.size := by omega
    simp [hk, hc]
  · simp [hk]

/-- the world behind a library function that wrote into the row alone -/
theorem ints_put {G : Nat → Status} {w : World} {t g cap n : Nat} {cur : Array Value} {e : TypeId} {l l' : List Int} {os : Array Obj} (ht : 2 ≤ t) (hg : Good G w) (hG : G g = .tag t) (hh : w.heap[g]? = some (.cells cur e (0, 0)))
    (hlen : l'.length = l.length) (hc : l.length ≤ cap) (hm : cap ≤ maxLen) (hs : cur.size = cap) {w' : World} (hw : w' = Go.Sort.grow (Go.Sort.putRow (Value.int .i64) (Go.Sort.ahead w n) g 0 l'.toArray) os) :
    (∀ k, k ≤ l'.length → VRel G w' (.sl t 1 (ai (l'.take k))) (.slice (some ⟨g, 0, none⟩) k cap)) ∧ Good G w' ∧ w'.os = w.os ∧ w'.tape = w.tape ∧ w'.output = w.output ∧ w.heap.size ≤ w'.heap.size ∧
      (∀ b, b < w.heap.size → (∀ t, G b ≠ .tag t) → w'.heap[b]? = w.heap[b]?) := by
  have hgl : g < w.heap.size := by
    rcases Nat.lt_or_ge g w.heap.size with h | h
    · exact h
    · simp [Array.getElem?_eq_none h] at hh
  have hsz : w'.heap.size = w.heap.size + os.size := by rw [hw]; simp
  have hb : ∀ b, b < w.heap.size → b ≠ g → w'.heap[b]? = w.heap[b]? := fun b hb hne => by
    rw [hw]
    simp only [Go.Sort.grow, Go.Sort.putRow, Go.Sort.mapBlock, Go.Sort.ahead]
    rw [Array.getElem?_append_left (by simpa using hb), Array.getElem?_modify, if_neg (Ne.symm hne)]
  have hbg : w'.heap[g]? = some (.cells (Go.Sort.putCells (Value.int .i64) 0 l'.toArray cur) e (0, 0)) := by
    rw [hw]
    simp only [Go.Sort.grow, Go.Sort.putRow, Go.Sort.mapBlock, Go.Sort.ahead]
    rw [Array.getElem?_append_left (by simpa using hgl), Array.getElem?_modify, if_pos rfl, hh]
    rfl
  refine ⟨fun k hk => ?_, ⟨fun b hb => Nat.lt_of_lt_of_le (hg.lt b hb) (by omega), hg.tags, hg.boxes⟩, by rw [hw]; rfl, by rw [hw]; rfl, by rw [hw]; rfl, by omega, fun b hb' hn => hb b hb' fun h => by subst h; exact hn t hG⟩
  have hkl : (l'.take k).length = k := by rw [List.length_take]; omega
  rw [ai_exact]
  refine .own t 1 _ _ e ((l'.take k).map (Value.int .i64)) ht ?_ (fun b hb => by simp only [Value.ownBlock, Option.some.injEq] at hb; rw [← hb]; exact hG) (exact_wide _) (ai_one _) exact_rel
  rw [exact_len, List.length_map, hkl]
  refine ⟨by rw [List.length_map, hkl]; omega, .inr ⟨g, cap, _, rfl, Nat.zero_le _, hbg, by omega, hm, by simp [Go.Sort.putCells, hs], ?_⟩⟩
  rw [Nat.mul_one]
  have := take_putCells (cur := cur) (l := l') (by omega)
  have h2 := congrArg (List.take k) this
  rw [List.take_take, Nat.min_eq_left hk] at h2
  rw [h2, List.map_take]

/-- the list in ascending order -/
def sortI (l : List Int) : List Int := l.mergeSort fun x y => decide (x ≤ y)

theorem conw_sort {P : Program} {ρ : Go.Shelf.Ren} (Ly : Lays.n189 P ρ) (hcall : Callable P (ρ.f 189)) (l : List Int) (h0 : 0 < l.length) (hl : l.length < 4611686018427387904) :
    ConW P (ρ.f 189) [.sl 2 1 (ai l)] fun r ys => r = .tup [] ∧ ys = [.sl 2 1 (ai (sortI l))] := by
  refine ⟨hcall, fun G w vs hg hnb hv => ?_⟩
  obtain ⟨v, vr, he, h1, h2⟩ := hv.cons_inv
  have := h2.nil_inv
  subst this
  obtain ⟨g, cap, cur, e, rfl, hG, hh, hc, hm, hs, ht⟩ := h1.ints (by omega) h0
  have hvs : vs = #[.slice (some ⟨g, 0, none⟩) l.length cap] := by cases vs; simp_all
  subst hvs
  have hlt : g < w.heap.size := by
    rcases Nat.lt_or_ge g w.heap.size with h | h
    · exact h
    · simp [Array.getElem?_eq_none h] at hh
  refine (Go.Proofs.Any.slices_Sort_int Ly g 0 cap l w (ints_holds (_cap := cap) hh ht) hlt hl).mono fun e' w' ⟨he', n, os, hw⟩ => ?_
  have hlen : (sortI l).length = l.length := by simp [sortI]
  obtain ⟨k1, k2, k3, k4, k5, k6, k7⟩ := ints_put (l := l) (l' := sortI l) (t := 2) (by omega) hg hG hh hlen hc hm hs hw
  have k0 := k1 _ (Nat.le_refl _)
  rw [List.take_length, hlen] at k0
  refine ⟨_, .tup [], _, G, he', ⟨rfl, rfl⟩, .tup [] _ rfl (fun j x u h => by simp at h), .cons k0 (.nil _), k2, hnb, k3, k4, k5, k6, fun _ _ _ => rfl, k7⟩

/-- math/bits.Len -/
theorem con_bitsLen {P : Program} {ρ : Ren} (Ly : Lays.n189 P ρ) (hcall : Callable P (ρ.f 125)) (n : Nat) (hn : n < 4611686018427387904) :
    Con P (ρ.f 125) [.sc (.int .u64 n)] [] fun r _ => r = .sc (.int .i64 (Go.Sort.bitsLen n : Nat)) := by
  refine ⟨hcall, fun G w vs hg h2 h3 h4 hv => ?_⟩
  obtain ⟨v, vr, he, h1, h2'⟩ := hv.cons_inv
  have := h2'.nil_inv
  subst this
  have := h1.sc_inv
  subst this
  have hvs : vs = #[.int .u64 n] := by cases vs; simp_all
  subst hvs
  refine (calls_of_every_depth fun D => Any.lenWalkInAll { Ly with } D n w hn).mono fun e' w' ⟨he', hw⟩ => ?_
  subst hw
  exact ⟨_, _, [], G, he', rfl, .froz (.sc _), hg, ⟨fun i vs hv => by simp [noGh] at hv, fun i cs hi => by simp at hi⟩, h3, rfl, rfl, rfl, Nat.le_refl _, fun _ _ => rfl, fun _ _ _ => rfl⟩

/-- the library's pdqsort, as Sort calls it -/
theorem conw_pdq {P : Program} {ρ : Ren} (Ly : Lays.n189 P ρ) (hcall : Callable P (ρ.f 257)) (l : List Int) (h0 : 0 < l.length) (hl : l.length < 4611686018427387904) :
    ConW P (ρ.f 257) [.sl 2 1 (ai l), .sc (.int .i64 0), .sc (.int .i64 l.length), .sc (.int .i64 (Go.Sort.bitsLen l.length : Nat))] fun r ys =>
      r = .tup [] ∧ ys = [.sl 2 1 (ai (sortI l)), .sc (.int .i64 0), .sc (.int .i64 l.length), .sc (.int .i64 (Go.Sort.bitsLen l.length : Nat))] := by
  refine ⟨hcall, fun G w vs hg hnb hv => ?_⟩
  obtain ⟨v, vr, he, h1, h2⟩ := hv.cons_inv
  obtain ⟨v2, vr2, rfl, h3, h4⟩ := h2.cons_inv
  obtain ⟨v3, vr3, rfl, h5, h6⟩ := h4.cons_inv
  obtain ⟨v4, vr4, rfl, h7, h8⟩ := h6.cons_inv
  have := h8.nil_inv
  subst this
  have e2 := h3.sc_inv; subst e2
  have e3 := h5.sc_inv; subst e3
  have e4 := h7.sc_inv; subst e4
  obtain ⟨g, cap, cur, e, rfl, hG, hh, hc, hm, hs, ht⟩ := h1.ints (by omega) h0
  have hvs : vs = #[.slice (some ⟨g, 0, none⟩) l.length cap, .int .i64 0, .int .i64 l.length, .int .i64 (Go.Sort.bitsLen l.length : Nat)] := by cases vs; simp_all
  subst hvs
  have hlt : g < w.heap.size := by
    rcases Nat.lt_or_ge g w.heap.size with h | h
    · exact h
    · simp [Array.getElem?_eq_none h] at hh
  have hk : Go.Sort.bitsLen l.length ≤ 62 := (Go.Sort.bitsLen_le_iff l.length 62).2 (by omega)
  have hdp := Go.Sort.pdqDepth_le_59 Go.Sort.ltInt l.toArray 0 l.length (Go.Sort.bitsLen l.length) true true (by omega)
  have hcalls : Calls P (ρ.f 257) #[.slice (some ⟨g, 0, none⟩) l.length cap, .int .i64 0, .int .i64 l.length, .int .i64 (Go.Sort.bitsLen l.length : Nat)] w fun e w' =>
      e = .returned (.tuple #[]) ∧ ∃ n os, w' = Go.Sort.grow (Go.Sort.putRow (Value.int .i64) (Go.Sort.ahead w n) g 0 (sortI l).toArray) os := by
    refine (calls_of_every_depth (n := 65) fun D => Any.pdqWalkInInt { Ly with } D 65 g 0 cap 0 l.length (Go.Sort.bitsLen l.length) l.toArray w (by omega) (ints_holds (_cap := cap) hh ht) hlt (Nat.zero_le _) (by simp) (by simpa using hl) (by omega) (.inl rfl)).mono ?_
    rintro e' w' ⟨he', n, os, hw⟩
    refine ⟨he', n, os, ?_⟩
    have := Any.sort_int_eqD l
    unfold Go.Sort.sort at this
    rw [hw]
    unfold sortI
    rw [← this]; simp
  refine hcalls.mono fun e' w' ⟨he', n, os, hw⟩ => ?_
  have hlen : (sortI l).length = l.length := by simp [sortI]
  obtain ⟨k1, k2, k3, k4, k5, k6, k7⟩ := ints_put (l := l) (l' := sortI l) (t := 2) (by omega) hg hG hh hlen hc hm hs hw
  have k0 := k1 _ (Nat.le_refl _)
  rw [List.take_length, hlen] at k0
  exact ⟨_, .tup [], _, G, he', ⟨rfl, rfl⟩, .tup [] _ rfl (fun j x u h => by simp at h), .cons k0 (.cons (.froz (.sc _)) (.cons (.froz (.sc _)) (.cons (.froz (.sc _)) (.nil _)))), k2, hnb, k3, k4, k5, k6, fun _ _ _ => rfl, k7⟩

theorem conw_compact {P : Program} {ρ : Go.Shelf.Ren} (Ly : Lays2.n20 P ρ) (hcall : Callable P (ρ.f 20)) (l : List Int) (h0 : 0 < l.length) (hl : l.length < 4611686018427387904) :
    ConW P (ρ.f 20) [.sl 2 1 (ai l)] fun r ys => r = .sl 2 1 (ai (Go.Lib.compact l)) ∧ ∃ zs, ys = [.sl 2 1 zs] ∧ zs.length = l.length := by
  refine ⟨hcall, fun G w vs hg hnb hv => ?_⟩
  obtain ⟨v, vr, he, h1, h2⟩ := hv.cons_inv
  have := h2.nil_inv
  subst this
  obtain ⟨g, cap, cur, e, rfl, hG, hh, hc, hm, hs, ht⟩ := h1.ints (by omega) h0
  have hvs : vs = #[.slice (some ⟨g, 0, none⟩) l.length cap] := by cases vs; simp_all
  subst hvs
  refine (Go.Proofs.Any.slices_Compact_int Ly g 0 cap l w (ints_holds (_cap := cap) hh ht) (by omega) hc).mono fun e' w' ⟨he', n, hw⟩ => ?_
  have hle : (Go.Lib.compact l).length ≤ l.length := by unfold Go.Lib.compact Go.Lib.compactUpTo; rw [List.length_map]; exact Nat.le_trans (List.length_filter_le _ _) (by simp)
  have hlen : (Go.Lib.compact l ++ List.replicate (l.length - (Go.Lib.compact l).length) 0).length = l.length := by simp; omega
  obtain ⟨k1, k2, k3, k4, k5, k6, k7⟩ := ints_put (l := l) (l' := Go.Lib.compact l ++ List.replicate (l.length - (Go.Lib.compact l).length) 0) (os := #[]) (t := 2) (by omega) hg hG hh hlen hc hm hs (w' := w') (n := n) (by rw [hw, Go.Sort.grow_empty])
  have k0 := k1 _ (Nat.le_refl _)
  have k9 := k1 (Go.Lib.compact l).length (by omega)
  rw [List.take_length, hlen] at k0
  rw [List.take_left] at k9
  refine ⟨_, _, _, G, he', ⟨rfl, _, rfl, ?_⟩, k9, .cons k0 (.nil _), k2, hnb, k3, k4, k5, k6, fun _ _ _ => rfl, k7⟩
  rw [ai_len, hlen]
end Go.AM

/-! ## Am0 -/
namespace Go.AM
open Go Go.Proofs Go.RowKit
theorem wrap_in {n : Int} (h1 : -9223372036854775808 ≤ n) (h2 : n ≤ 9223372036854775807) : IntKind.i64.wrap n = n := by rw [IntKind.wrap_i64]; omega
def vi (x : Int) : AV := .sc (.int .i64 x)
def vu (x : Int) : AV := .sc (.int .u8 x)
def vs (t : Nat) (l : List Int) : AV := .sl t 1 (l.map vi)
theorem getv {l : List Int} {i : Nat} (h : i < l.length) : (l.map vi)[i]? = some (.sc (.int .i64 l[i]!)) := by simp [vi, h]
theorem getu {l : List Int} {i : Nat} (h : i < l.length) : (l.map vu)[i]? = some (.sc (.int .u8 l[i]!)) := by simp [vu, h]
/-- where the first is of which p holds; -1 where none is -/
def findI {α : Type} (p : α → Bool) (l : List α) : Int := match l.findIdx? p with | some i => i | none => -1
theorem findI_stop {α : Type} [Inhabited α] {p : α → Bool} {l : List α} {i : Nat} (h : i < l.length) (hb : ∀ j, j < i → p l[j]! = false) (hp : p l[i]! = true) : findI p l = i := by
  have : l.findIdx? p = some i := by
    rw [List.findIdx?_eq_some_iff_getElem]
    refine ⟨h, by simpa [h] using hp, fun j hj => ?_⟩
    have := hb j hj
    have hjl : j < l.length := by omega
    simpa [hjl] using this
  simp [findI, this]
theorem findI_none {α : Type} [Inhabited α] {p : α → Bool} {l : List α} (hb : ∀ j, j < l.length → p l[j]! = false) : findI p l = -1 := by
  have : l.findIdx? p = none := by
    rw [List.findIdx?_eq_none_iff]
    intro x hx
    obtain ⟨j, hj⟩ := List.getElem?_of_mem hx
    have hjl := (List.getElem?_eq_some_iff.1 hj).1
    have := hb j hjl
    have e : l[j]! = x := by simp [hj]
    rw [e] at this; exact this
  simp [findI, this]
theorem findI_ge {α : Type} (p : α → Bool) (l : List α) : decide (0 ≤ findI p l) = l.any p := by
  unfold findI
  cases h : l.findIdx? p with
  | none =>
    rw [List.findIdx?_eq_none_iff] at h
    have : l.any p = false := by simpa using h
    simp [this]
  | some i =>
    rw [List.findIdx?_eq_some_iff_getElem] at h
    obtain ⟨h1, h2, _⟩ := h
    have : l.any p = true := List.any_eq_true.2 ⟨l[i], List.getElem_mem _, h2⟩
    simp [this]
theorem mem_bang {α : Type} [Inhabited α] {l : List α} {i : Nat} (h : i < l.length) : l[i]! ∈ l := by rw [getElem!_pos l i h]; exact List.getElem_mem _
theorem bang_of {α : Type} [Inhabited α] {l : List α} {i : Nat} {x : α} (h : l[i]? = some x) : l[i]! = x := by rw [getElem!_def, h]
def vb (b : Bool) : AV := .sc (.bool b)
attribute [go_sem] vi vu vs vb
def vbl (t : Nat) (row : List Bool) : AV := .sl t 1 (row.map vb)
theorem getvb {l : List Bool} {i : Nat} (h : i < l.length) : (l.map vb)[i]? = some (.sc (.bool l[i]!)) := by simp [vb, h]
theorem leC_refl : ∀ l : List AV, leC l l
  | [] => trivial
  | _ :: l => ⟨leV_refl _, leC_refl l⟩
theorem leB_refl : ∀ l : List (List AV), leB l l
  | [] => trivial
  | x :: l => ⟨leC_refl x, leB_refl l⟩
/-- what a callee hands back, under another tag -/
theorem Con.retag {P : Program} {f : FuncId} {args : List AV} {bx : List (List AV)} {post : AV → Prop} (a b : Nat) (ha : 2 ≤ a) (hb : 2 ≤ b) (h : Con P f args bx fun r _ => post r) :
    Con P f args bx fun r' _ => ∃ r, post r ∧ r' = r.mapTop (retagLeaf a b) :=
  ⟨h.1, fun G w vs h1 h2 h3 h4 h5 => (h.2 G w vs h1 h2 h3 h4 h5).mono fun e w' ⟨v, r, bx', G', he, hq, hr, hg, hbx, hlt, e1, e2, e3, e4, e5, e6⟩ => by
    have hbox : ∀ k i, retagG a b G' k = .box i → G' k = .box i := fun k i hk => by
      unfold retagG at hk; split at hk
      · cases hk
      · split at hk
        · cases hk
        · exact hk
    refine ⟨v, _, bx'.map (fun cs => cs.map (AV.mapTop (retagLeaf a b))), retagG a b G', he, ⟨r, hq, rfl⟩, hr.retag ha hb, hg.retag, ⟨fun i vs hv => by simp [noGh] at hv, fun i cs hi => ?_⟩, fun k i hk => by simpa using hlt k i (hbox k i hk), e1, e2, e3, e4, fun k hk => ?_, e6⟩
    · rw [List.getElem?_map] at hi
      cases hc : bx'[i]? with
      | none => simp [hc] at hi
      | some cs' =>
        simp [hc] at hi; subst hi
        exact (hbx.cell i cs' hc).map (fun x v hr => hr.retag ha hb) (fun k hk => ⟨by simp [retagG, hk], rfl⟩) fun h0 k hk => h0 k (hbox k i hk)
    · have := e5 k hk
      unfold retagG
      rw [this, if_neg (h2 k a), if_neg (h2 k b)]⟩
theorem take_snoc {α : Type} [Inhabited α] {l : List α} {j : Nat} (h : j < l.length) : l.take (j + 1) = l.take j ++ [l[j]!] := by
  rw [List.take_add_one, List.getElem?_eq_getElem h, ← getElem!_pos l j h]; rfl
/-- a contract serves wherever what its arguments stand for is known of the values -/
theorem Con.args {P : Program} {f : FuncId} {args args' : List AV} {bx : List (List AV)} {post : AV → List (List AV) → Prop} (h : Con P f args bx post)
    (ha : ∀ (G : Nat → Status) (w : World) (vs : List Value), PW (VRel G w) args' vs → PW (VRel G w) args vs) : Con P f args' bx post :=
  ⟨h.1, fun G w vs h1 h2 h3 h4 h5 => h.2 G w vs h1 h2 h3 h4 (ha G w _ h5)⟩
theorem bytesOf_vu : ∀ l : List Int, bytesOf (l.map vu) = some l
  | [] => rfl
  | x :: l => by simp [bytesOf, vu, ← bytesOf_vu l]
/-- x's values are y's -/
def Sub (x y : AV) : Prop := ∀ (S : Nat → Prop) (w : World) (v : Value), FRel S w x v → FRel S w y v
theorem Sub.refl (x : AV) : Sub x x := fun _ _ _ h => h
theorem Sub.nil (es : Nat) : Sub .nil (.sl 0 es []) := fun S w v h => by
  cases h; exact .slNil 0 es none 0 (by omega) (fun h => by omega) (fun _ => rfl)
theorem flat_one {xs : List AV} (h : ∀ x ∈ xs, x.cells = [x]) : flat xs = xs := by
  induction xs with
  | nil => rfl
  | cons x xs ih =>
    have e := ih fun y hy => h y (List.mem_cons_of_mem _ hy)
    unfold flat at *
    rw [List.flatMap_cons, h x (List.mem_cons_self ..), e]; rfl
theorem Sub.sl {t : Nat} {xs ys : List AV} (hx : ∀ x ∈ xs, x.cells = [x]) (hy : ∀ y ∈ ys, y.cells = [y]) (h : PW Sub xs ys) : Sub (.sl t 1 xs) (.sl t 1 ys) := fun S w v hv => by
  have hl := h.1
  cases hv with
  | slNil _ _ a c h1 h2 h3 =>
    have : ys = [] := List.eq_nil_of_length_eq_zero (by simpa using hl.symm)
    subst this; exact .slNil t 1 a c h1 h2 h3
  | sl _ _ _ b off c vals h1 h2 h3 hc h4 h5 h0 h6 h7 =>
    rw [hl]
    rw [flat_one hx] at h5 h7
    refine .sl t 1 ys b off c vals h1 h2 (fun e => by rw [h3 e, hl]) (by omega) (fun y hy' => by rw [hy y hy']; rfl) (by rw [flat_one hy]; omega) h0 h6 fun j y u hj hu => ?_
    rw [flat_one hy] at hj
    have hjl : j < xs.length := by rw [hl]; exact (List.getElem?_eq_some_iff.1 hj).1
    exact h.2 j _ y (List.getElem?_eq_getElem hjl) hj S w u (h7 j _ u (List.getElem?_eq_getElem hjl) hu)
theorem Sub.ag1 {x y : AV} (h : Sub x y) : Sub (.ag [x]) (.ag [y]) := fun S w v hv => by
  cases hv with
  | ag _ vs h1 h2 h3 =>
    refine .ag [y] vs h1 h2 fun j z u hz hu => ?_
    cases j with
    | zero => simp at hz; subst hz; exact h S w u (h3 0 x u rfl hu)
    | succ j => simp at hz
theorem Con.sub {P : Program} {f : FuncId} {args args' : List AV} {bx : List (List AV)} {post : AV → List (List AV) → Prop} (h : Con P f args bx post)
    (ha : PW (fun x y => x = y ∨ (x.fz = true ∧ Sub x y)) args' args) : Con P f args' bx post :=
  h.args fun G w vs hv => ⟨by rw [← ha.1]; exact hv.1, fun j y u hy hu => by
    have hjl : j < args'.length := by rw [ha.1]; exact (List.getElem?_eq_some_iff.1 hy).1
    have h1 := hv.2 j _ u (List.getElem?_eq_getElem hjl) hu
    rcases ha.2 j _ y (List.getElem?_eq_getElem hjl) hy with rfl | ⟨h2, h3⟩
    · exact h1
    · exact .froz (h3 _ _ _ (h1.fz h2))⟩
theorem DrawK.freeze {P : Program} {ops : Array Oper} {σ : St} {K : St → Prop} (p : Nat → Bool) (h : DrawK P ops (σ.map (freezeLeaf p)) K) : DrawK P ops σ K :=
  fun G0 w0 _G a w id Q h0 hs hK => h G0 w0 _ a w id Q h0 (hs.freeze h0 p) hK
/-- what a callee hands back, never written again -/
theorem Con.freezeR {P : Program} {f : FuncId} {args : List AV} {post : AV → Prop} (p : Nat → Bool) (h : Con P f args [] fun r _ => post r) : Con P f args [] fun r' _ => ∃ r, post r ∧ r' = r.freeze p :=
  ⟨h.1, fun G w vs h1 h2 h3 h4 h5 => (h.2 G w vs h1 h2 h3 h4 h5).mono fun e w' ⟨v, r, bx', G', he, hq, hr, hg, hbx, hlt, e1, e2, e3, e4, e5, e6⟩ => by
    have hbox : ∀ k i, freezeG p G' k = .box i ↔ G' k = .box i := fun k i => by
      unfold freezeG; split
      · rename_i t ht; split <;> simp [ht]
      · exact Iff.rfl
    refine ⟨v, _, bx'.map (fun cs => cs.map (AV.freeze p)), freezeG p G', he, ⟨r, hq, rfl⟩, hr.freeze, hg.freeze, ⟨fun i vs hv => by simp [noGh] at hv, fun i cs hi => ?_⟩, fun k i hk => by simpa using hlt k i ((hbox k i).1 hk), e1, e2, e3, e4, fun k hk => ?_, e6⟩
    · rw [List.getElem?_map] at hi
      cases hc : bx'[i]? with
      | none => simp [hc] at hi
      | some cs' =>
        simp [hc] at hi; subst hi
        exact (hbx.cell i cs' hc).map (fun x v hr => hr.freeze) (fun k hk => ⟨(hbox k i).2 hk, rfl⟩) fun h0 k hk => h0 k ((hbox k i).1 hk)
    · have := e5 k hk
      unfold freezeG
      split
      · rename_i t ht; rw [this] at ht; exact absurd ht (h2 k t)
      · exact this⟩
/-- an element stays: it is the first, or differs from the one before it -/
def keepsL (l : List Int) (j : Nat) : Bool := decide (j = 0) || decide (l[j]! ≠ l[j - 1]!)
/-- what stays of the first m elements -/
def upTo (l : List Int) (m : Nat) : List Int := ((List.range m).filter (keepsL l)).map fun j => l[j]!
def uniq (l : List Int) : List Int := upTo l l.length
theorem upTo_succ (l : List Int) (m : Nat) : upTo l (m + 1) = upTo l m ++ (if keepsL l m = true then [l[m]!] else []) := by
  unfold upTo
  rw [List.range_succ, List.filter_append, List.map_append]
  cases h : keepsL l m <;> simp [h]
theorem upTo_all {l : List Int} : ∀ {m : Nat}, m ≤ l.length → (∀ j, j < m → keepsL l j = true) → upTo l m = l.take m
  | 0, _, _ => by simp [upTo]
  | m + 1, hm, h => by
    rw [upTo_succ, upTo_all (by omega) fun j hj => h j (by omega), h m (by omega), take_snoc (by omega)]; simp
theorem modify_vi {Z : List Int} {q : Nat} {x : Int} : (List.map vi Z).modify q (updElem 0 [AV.sc (.int .i64 x)]) = List.map vi (Z.set q x) := by
  apply List.ext_getElem?
  intro j
  rw [List.getElem?_modify, List.getElem?_map, List.getElem?_map, List.getElem?_set]
  by_cases hq : q = j
  · subst hq
    by_cases hl : q < Z.length
    · simp [hl, vi, updElem]
    · simp [hl]
  · simp [hq]
theorem keeps_one {l : List Int} : ∀ j, j < 1 → keepsL l j = true := fun j hj => by
  have : j = 0 := by omega
  subst this; rfl
theorem uniq_short {l : List Int} (h : l.length < 2) : uniq l = l := by
  match l, h with
  | [], _ => rfl
  | [x], _ => rfl
/-- the map whose keys are these -/
def metD (ks : List (List UInt8)) : DataW Unit := Go.Maps.setOf (.lit (.bool true)) (ks.map Lit.string)
theorem metD_snoc (ks : List (List UInt8)) (k : List UInt8) : (metD ks).put (.string k) (.lit (.bool true)) = metD (ks ++ [k]) := by
  unfold metD; rw [List.map_append]; exact (Go.Maps.setOf_snoc _ _ _).symm
theorem metD_tidy (ks : List (List UInt8)) : Go.Maps.Tidy (metD ks) := Go.Maps.tidy_setOf _ _ fun x hx => by
  obtain ⟨k, _, rfl⟩ := List.mem_map.1 hx; trivial
theorem metD_at : ∀ (ks : List (List UInt8)) (k : List UInt8), boolAt (metD ks) (.string k) = ks.contains k := by
  intro ks k
  have : ∀ (n : Nat) (ks : List (List UInt8)), ks.length = n → boolAt (metD ks) (.string k) = ks.contains k := by
    intro n
    induction n with
    | zero => intro ks h; obtain rfl := List.eq_nil_of_length_eq_zero h; rfl
    | succ n ih =>
      intro ks h
      obtain ⟨ks', x, rfl⟩ : ∃ ks' x, ks = ks' ++ [x] := ⟨ks.dropLast, ks.getLast (by intro e; rw [e] at h; simp at h), (List.dropLast_concat_getLast _).symm⟩
      have ih' := ih ks' (by simpa using h)
      rw [← metD_snoc]
      by_cases hk : k = x
      · subst hk
        unfold boolAt
        rw [Go.Maps.atKey_put_same (metD_tidy _).isMap (by trivial)]
        simp
      · unfold boolAt at ih' ⊢
        rw [Go.Maps.atKey_put_other (by intro e; cases e; exact hk rfl), ih']
        simp [hk]
  exact this _ ks rfl
theorem metD_has (ks : List (List UInt8)) (k : List UInt8) : Go.Maps.has (metD ks) (.string k) = ks.contains k := by
  unfold metD Go.Maps.setOf
  rw [Go.Maps.has_fold _ _ _ _ (⟨[], rfl⟩) (fun x hx => by obtain ⟨k, _, rfl⟩ := List.mem_map.1 hx; trivial)]
  rw [show Go.Maps.has (DataW.map ([] : List (Lit × DataW Unit))) (.string k) = false from rfl, Bool.false_or, List.any_map, List.contains_eq_any_beq]
  congr 1
  funext y
  by_cases h : k = y
  · subst h; simp [Go.WideAt.sameKey_self (show Go.WideAt.IsKeyLit (.string k) from trivial)]
  · have : (Lit.string y).sameKey (.string k) = false := by
      cases hc : (Lit.string y).sameKey (.string k)
      · rfl
      · have := Go.WideAt.sameKey_eq hc; cases this; exact absurd rfl h
    simp [this, h]
theorem metD_len : ∀ (ks : List (List UInt8)), ks.Nodup → mapLen (metD ks) = ks.length := by
  intro ks
  have : ∀ (n : Nat) (ks : List (List UInt8)), ks.length = n → ks.Nodup → mapLen (metD ks) = ks.length := by
    intro n
    induction n with
    | zero => intro ks h _; obtain rfl := List.eq_nil_of_length_eq_zero h; rfl
    | succ n ih =>
      intro ks h hn
      obtain ⟨ks', x, rfl⟩ : ∃ ks' x, ks = ks' ++ [x] := ⟨ks.dropLast, ks.getLast (by intro e; rw [e] at h; simp at h), (List.dropLast_concat_getLast _).symm⟩
      rw [List.nodup_append] at hn
      have hx : x ∉ ks' := fun hm => hn.2.2 x hm x (by simp) rfl
      have ih' := ih ks' (by simpa using h) hn.1
      have e : ∀ D : DataW Unit, mapLen D = Go.Maps.size D := fun D => by cases D <;> rfl
      rw [← metD_snoc, e, Go.Maps.size_put (metD_tidy _), metD_has, ← e, ih']
      simp [hx]
  exact this _ ks rfl
theorem strOf_size (ns : List Int) : (strOf ns).size = ns.length := by
  have : ∀ (ns : List Int) (r : ByteArray), (ns.foldl (fun r n => r.push (UInt8.ofNat n.toNat)) r).size = r.size + ns.length := by
    intro ns
    induction ns with
    | nil => intro r; simp
    | cons x ns ih => intro r; rw [List.foldl_cons, ih, ByteArray.size_push, List.length_cons]; omega
  have h := this ns ByteArray.empty
  unfold strOf
  rw [h]; simp
theorem sortI_perm (l : List Int) : (sortI l).Perm l := List.mergeSort_perm l _
theorem sortI_sorted (l : List Int) : (sortI l).Pairwise (· ≤ ·) := by
  have := List.pairwise_mergeSort (le := fun x y : Int => decide (x ≤ y)) (by intro a b c; simp; omega) (by intro a b; simp; omega) l
  exact this.imp (by intro a b h; simpa using h)
theorem mem_sortI {l : List Int} {x : Int} : x ∈ sortI l ↔ x ∈ l := (sortI_perm l).mem_iff
theorem bang_mem {l : List Int} {j : Nat} (h : j < l.length) : l[j]! ∈ l := mem_bang h
theorem sorted_bang {l : List Int} (h : l.Pairwise (· ≤ ·)) {i j : Nat} (hij : i ≤ j) (hj : j < l.length) : l[i]! ≤ l[j]! := by
  rcases Nat.lt_or_ge i j with hlt | hge
  · have := List.pairwise_iff_getElem.1 h i j (by omega) hj hlt
    rw [getElem!_pos l i (by omega), getElem!_pos l j hj]; exact this
  · obtain rfl : i = j := by omega
    exact Int.le_refl _
theorem mem_uniq {l : List Int} {x : Int} : x ∈ uniq l ↔ x ∈ l := by
  constructor
  · intro h
    unfold uniq upTo at h
    obtain ⟨j, hj, rfl⟩ := List.mem_map.1 h
    have := List.mem_range.1 (List.mem_filter.1 hj).1
    exact mem_bang this
  · intro h
    -- the first place
    have : ∀ (n : Nat) (j : Nat), j ≤ n → j < l.length → l[j]! = x → x ∈ uniq l := by
      intro n
      induction n with
      | zero =>
        intro j hj hl hx
        obtain rfl : j = 0 := by omega
        unfold uniq upTo
        exact List.mem_map.2 ⟨0, List.mem_filter.2 ⟨List.mem_range.2 hl, rfl⟩, hx⟩
      | succ n ih =>
        intro j hj hl hx
        by_cases h0 : j = 0
        · exact ih j (by omega) hl hx
        · by_cases hp : l[j - 1]! = x
          · exact ih (j - 1) (by omega) (by omega) hp
          · unfold uniq upTo
            refine List.mem_map.2 ⟨j, List.mem_filter.2 ⟨List.mem_range.2 hl, ?_⟩, hx⟩
            unfold keepsL
            rw [decide_eq_true (p := l[j]! ≠ l[j - 1]!) (by rw [hx]; exact fun e => hp e.symm), Bool.or_true]
    obtain ⟨j, hj⟩ := List.getElem?_of_mem h
    have hl := (List.getElem?_eq_some_iff.1 hj).1
    exact this j j (Nat.le_refl _) hl (bang_of hj)
theorem uniq_strict {l : List Int} (h : l.Pairwise (· ≤ ·)) : (uniq l).Pairwise (· < ·) := by
  unfold uniq upTo
  rw [List.pairwise_map]
  have h1 : ((List.range l.length).filter (keepsL l)).Pairwise (fun i j => i < j) := (List.pairwise_lt_range).filter _
  refine h1.imp_of_mem ?_
  intro i j hi hj hij
  have hj1 := List.mem_filter.1 hj
  have hjl := List.mem_range.1 hj1.1
  have hk := hj1.2
  unfold keepsL at hk
  have hne : l[j]! ≠ l[j - 1]! := by
    simp only [Bool.or_eq_true, decide_eq_true_eq] at hk
    rcases hk with hk | hk
    · omega
    · exact hk
  have a1 := sorted_bang h (show i ≤ j - 1 by omega) (by omega)
  have a2 := sorted_bang h (show j - 1 ≤ j by omega) hjl
  omega
theorem strict_len : ∀ {l : List Int} {lo n : Int}, l.Pairwise (· < ·) → (∀ i ∈ l, lo ≤ i ∧ i < n) → lo ≤ n → (l.length : Int) ≤ n - lo
  | [], lo, n, _, _, h => by simp; omega
  | x :: l, lo, n, hp, hb, h => by
    have h1 := hb x (by simp)
    have hp' := List.pairwise_cons.1 hp
    have := strict_len (lo := x + 1) (n := n) hp'.2 (fun i hi => ⟨by have := hp'.1 i hi; omega, (hb i (by simp [hi])).2⟩) (by omega)
    simp only [List.length_cons]; omega
theorem strOf_data (ns : List Int) : (strOf ns).data.toList = ns.map fun n => UInt8.ofNat n.toNat := by
  have : ∀ (ns : List Int) (r : ByteArray), (ns.foldl (fun r n => r.push (UInt8.ofNat n.toNat)) r).data.toList = r.data.toList ++ ns.map fun n => UInt8.ofNat n.toNat := by
    intro ns
    induction ns with
    | nil => intro r; simp
    | cons x ns ih => intro r; rw [List.foldl_cons, ih, List.map_cons]; simp [ByteArray.push]
  unfold strOf
  rw [this]; simp
theorem bytes_inj : ∀ {x y : List Int}, (∀ i ∈ x, 0 ≤ i ∧ i < 256) → (∀ i ∈ y, 0 ≤ i ∧ i < 256) → (x.map fun n => UInt8.ofNat n.toNat) = (y.map fun n => UInt8.ofNat n.toNat) → x = y
  | [], [], _, _, _ => rfl
  | [], _ :: _, _, _, h => by simp at h
  | _ :: _, [], _, _, h => by simp at h
  | a :: x, b :: y, hx, hy, h => by
    simp only [List.map_cons, List.cons.injEq] at h
    have h1 := hx a (by simp)
    have h2 := hy b (by simp)
    have e := congrArg UInt8.toNat h.1
    simp only [UInt8.toNat_ofNat'] at e
    rw [Nat.mod_eq_of_lt (by omega), Nat.mod_eq_of_lt (by omega)] at e
    rw [show a = b by omega, bytes_inj (fun i hi => hx i (by simp [hi])) (fun i hi => hy i (by simp [hi])) h.2]
attribute [go_sem] vbl
end Go.AM

/-! ## Am4 -/
namespace Go.AM
open Go Go.Proofs Go.RowKit

/-- a configuration -/
inductive CV where
  | mk (n : Int) (kids : List CV)
  deriving Inhabited
def CV.n : CV → Int
  | .mk n _ => n
def CV.kids : CV → List CV
  | .mk _ k => k

mutual
def vV : CV → AV
  | .mk n kids => .ag [vi n, .sl 0 2 (vVs kids)]
def vVs : List CV → List AV
  | [] => []
  | x :: l => vV x :: vVs l
end
theorem vVs_map : ∀ l : List CV, vVs l = l.map vV
  | [] => rfl
  | x :: l => by rw [vVs, vVs_map l]; rfl
theorem vV_eq (a : CV) : vV a = .ag [vi a.n, .sl 0 2 (a.kids.map vV)] := by cases a; rw [vV, vVs_map]; rfl

def ordI (a b : Int) : Int := if a < b then -1 else if b < a then 1 else 0
mutual
def cmpV : CV → CV → Int
  | .mk n k, .mk m l => if n ≠ m then ordI n m else if k.length ≠ l.length then ordI k.length l.length else cmpVs k l
def cmpVs : List CV → List CV → Int
  | [], [] => 0
  | [], _ :: _ => -1
  | _ :: _, [] => 1
  | x :: k, y :: l => if cmpV x y ≠ 0 then cmpV x y else cmpVs k l
end
theorem ordI_zero {a b : Int} : ordI a b = 0 ↔ a = b := by unfold ordI; split <;> (try split) <;> omega
mutual
theorem cmpV_zero : ∀ (a b : CV), cmpV a b = 0 ↔ a = b
  | .mk n k, .mk m l => by
    rw [cmpV]
    by_cases h : n = m
    · rw [if_neg (fun h' => h' h)]
      by_cases h2 : k.length = l.length
      · rw [if_neg (fun h' => h' h2), cmpVs_zero k l, h]; simp
      · rw [if_pos h2, ordI_zero]
        exact ⟨fun e => absurd (by omega) h2, fun e => absurd (by injection e with _ e; rw [e]) h2⟩
    · rw [if_pos h, ordI_zero]
      exact ⟨fun e => absurd e h, fun e => absurd (by injection e) h⟩
theorem cmpVs_zero : ∀ (k l : List CV), cmpVs k l = 0 ↔ k = l
  | [], [] => by simp [cmpVs]
  | [], _ :: _ => by simp [cmpVs]
  | _ :: _, [] => by simp [cmpVs]
  | x :: k, y :: l => by
    rw [cmpVs]
    by_cases h : cmpV x y = 0
    · rw [if_neg (fun h' => h' h), cmpVs_zero k l, (cmpV_zero x y).1 h]; simp
    · rw [if_pos h]
      exact ⟨fun e => absurd e h, fun e => absurd ((cmpV_zero x y).2 (by injection e)) h⟩
end
/-- the lists below are not too long -/
inductive CV.Ok : CV → Prop
  | mk (n : Int) (k : List CV) : k.length ≤ 9223372036854775807 → (∀ x ∈ k, CV.Ok x) → CV.Ok (.mk n k)
theorem CV.Ok.len {a : CV} (h : a.Ok) : a.kids.length ≤ 9223372036854775807 := by cases h; assumption
theorem CV.Ok.kid {a : CV} (h : a.Ok) {x : CV} (hx : x ∈ a.kids) : x.Ok := by cases h with | mk n k _ h2 => exact h2 x hx
theorem kid_size {a x : CV} (h : x ∈ a.kids) : SizeOf.sizeOf x < SizeOf.sizeOf a := by
  cases a with
  | mk n k => have := List.sizeOf_lt_of_mem h; simp only [CV.kids] at *; rw [CV.mk.sizeOf_spec]; omega
theorem getvV {l : List CV} {i : Nat} (h : i < l.length) : (l.map vV)[i]? = some (.ag [.sc (.int .i64 l[i]!.n), .sl 0 2 (l[i]!.kids.map vV)]) := by
  rw [List.getElem?_map, List.getElem?_eq_getElem h, getElem!_pos l i h, Option.map_some, vV_eq]; rfl

/-- the first that is not zero -/
def orF (l : List Int) : Int := (l.find? (· != 0)).getD 0
theorem or_cmp (a b : CV) : orF [ordI a.n b.n, ordI a.kids.length b.kids.length, cmpVs a.kids b.kids] = cmpV a b := by
  obtain ⟨n, k⟩ := a
  obtain ⟨m, l⟩ := b
  rw [cmpV]
  simp only [CV.n, CV.kids]
  unfold orF
  by_cases h : n = m
  · rw [if_neg (fun h' => h' h), List.find?_cons_of_neg (by simp [ordI_zero, h])]
    by_cases h2 : k.length = l.length
    · rw [if_neg (fun h' => h' h2), List.find?_cons_of_neg (by simp [ordI_zero, h2])]
      by_cases h3 : cmpVs k l = 0
      · rw [List.find?_cons_of_neg (by simp [h3]), h3]; rfl
      · rw [List.find?_cons_of_pos (by simp [h3])]; rfl
    · rw [if_pos h2, List.find?_cons_of_pos (by simp [ordI_zero]; omega)]; rfl
  · rw [if_pos h, List.find?_cons_of_pos (by simp [ordI_zero, h])]; rfl

/-- whether two configurations are equal -/
def sameV (a b : CV) : Bool := cmpV a b == 0
theorem sameV_iff {a b : CV} : sameV a b = true ↔ a = b := by unfold sameV; rw [beq_iff_eq, cmpV_zero]

theorem Sub.slE {t es : Nat} {xs ys : List AV} (hl : xs.length = ys.length) (hy : ∀ y ∈ ys, y.cells.length = es) (h : PW Sub (flat xs) (flat ys)) : Sub (.sl t es xs) (.sl t es ys) := fun S w v hv => by
  cases hv with
  | slNil _ _ a c h1 h2 h3 =>
    have : ys = [] := List.eq_nil_of_length_eq_zero (by simpa using hl.symm)
    subst this; exact .slNil t es a c h1 h2 h3
  | sl _ _ _ b off c vals h1 h2 h3 hc h4 h5 h0 h6 h7 =>
    rw [hl]
    refine .sl t es ys b off c vals h1 h2 (fun e => by rw [h3 e, hl]) (by omega) hy (by rw [← h.1]; exact h5) h0 h6 fun j y u hj hu => ?_
    have hjl : j < (flat xs).length := by rw [h.1]; exact (List.getElem?_eq_some_iff.1 hj).1
    exact h.2 j _ y (List.getElem?_eq_getElem hjl) hj S w u (h7 j _ u (List.getElem?_eq_getElem hjl) hu)
theorem leV_slE {t es : Nat} {xs ys : List AV} (hl : xs.length = ys.length) (hy : ∀ y ∈ ys, y.cells.length = es) (h : PW Sub (flat xs) (flat ys)) : leV (.sl t es xs) (.sl t es ys) := leV_sem fun G w v hv => by
  cases hv with
  | froz h' => exact .froz (Sub.slE hl hy h _ _ _ h')
  | own _ _ _ _ e vals h1 h2 h3 h4 h0 h5 =>
    refine .own t es ys v e vals h1 (by rw [← hl]; exact h2) h3 hy h0 ⟨by rw [← h.1]; exact h5.1, fun j y u hj hu => ?_⟩
    have hjl : j < (flat xs).length := by rw [h.1]; exact (List.getElem?_eq_some_iff.1 hj).1
    exact h.2 j _ y (List.getElem?_eq_getElem hjl) hj _ _ u (h5.2 j _ u (List.getElem?_eq_getElem hjl) hu)

theorem share3 {body : (Exit → St → Prop) → St → Prop} {Q : Exit → St → Prop} {T : St → Prop} {A : Prop} (h : (∀ τ, T τ → LoopK body Q τ) → A) (key : ∀ τ, T τ → LoopK body Q τ) : A := h key
end Go.AM

/-! ## LInv -/
namespace Go.AM

/-- a rule of a counter model -/
structure RD where
  name : ByteArray
  src : Int
  dst : Int
  need : List Int
  give : List Int
  move : List Int
  channel : Int := 0
  act : Int := 0
  letter : Int := 0
  path : List Int := []
  next : List Int := []
  takes : List (Int × Int × Int) := []
  makes : List Int := []
  second : Int := 0
  deriving Inhabited
/-- an atom: coefficients, modulus, values -/
structure AtomD where
  coefs : List Int
  mod : Int
  values : List Int
  deriving Inhabited

def omegaI : Int := 1099511627776
def restF (n m : Int) : Int := Int.tmod (Int.tmod n m + m) m
theorem neg_emod_emod' (k m : Int) : (-(k % m)) % m = (-k) % m := by
  have h := Int.emod_add_mul_ediv k m
  have e : -k = -(k % m) + m * (-(k / m)) := by rw [Int.mul_neg]; omega
  rw [e, Int.add_mul_emod_self_left]
theorem restF_emod {n m : Int} (h : 0 < m) : restF n m = n % m := by
  unfold restF
  rw [Int.tmod_eq_emod_of_nonneg (by have := Int.lt_tmod_of_pos n h; omega)]
  rcases Int.le_total 0 n with hn | hn
  · rw [Int.tmod_eq_emod_of_nonneg hn, Int.add_emod_right, Int.emod_emod]
  · obtain ⟨k, rfl⟩ : ∃ k, n = -k := ⟨-n, by omega⟩
    rw [Int.neg_tmod, Int.tmod_eq_emod_of_nonneg (by omega), Int.add_emod_right, neg_emod_emod']
def sumF : List Int → List Int → Int
  | c :: cs, v :: vs => c * v + sumF cs vs
  | _, _ => 0
def effectF (coefs : List Int) (r : RD) : Int := sumF coefs r.give - sumF coefs r.need
/-- the vector behind a rule -/
def fireL : List Int → List Int → List Int → List Int
  | v :: vs, n :: ns, g :: gs => (v - n + g) :: fireL vs ns gs
  | _, _, _ => []
def fireF (r : RD) (v : List Int) : List Int := fireL v r.need r.give
theorem fireL_len : ∀ {v n g : List Int}, n.length = v.length → g.length = v.length → (fireL v n g).length = v.length
  | [], [], [], _, _ => rfl
  | v :: vs, n :: ns, g :: gs, h1, h2 => by
    simp only [fireL, List.length_cons]
    rw [fireL_len (by simpa using h1) (by simpa using h2)]
  | [], _ :: _, _, h, _ => by simp at h
  | [], [], _ :: _, _, h => by simp at h
  | _ :: _, [], _, h, _ => by simp at h
  | _ :: _, _ :: _, [], _, h => by simp at h
theorem fireL_at : ∀ {v n g : List Int} {i : Nat}, n.length = v.length → g.length = v.length → i < v.length → (fireL v n g)[i]! = v[i]! - n[i]! + g[i]!
  | v :: vs, n :: ns, g :: gs, 0, _, _, _ => rfl
  | v :: vs, n :: ns, g :: gs, i + 1, h1, h2, h => by
    simp only [fireL, List.getElem!_cons_succ]
    exact fireL_at (by simpa using h1) (by simpa using h2) (by simpa using h)
  | [], _, _, _, _, _, h => by simp at h
  | _ :: _, [], _, _, h, _, _ => by simp at h
  | _ :: _, _ :: _, [], _, _, h, _ => by simp at h
theorem sum_fireL : ∀ {c v n g : List Int}, c.length = v.length → n.length = v.length → g.length = v.length → sumF c (fireL v n g) = sumF c v + (sumF c g - sumF c n)
  | [], [], [], [], _, _, _ => rfl
  | c :: cs, v :: vs, n :: ns, g :: gs, h0, h1, h2 => by
    simp only [fireL, sumF]
    rw [sum_fireL (by simpa using h0) (by simpa using h1) (by simpa using h2)]
    rw [Int.mul_add, Int.mul_sub]
    omega
  | [], _ :: _, _, _, h, _, _ => by simp at h
  | _ :: _, [], _, _, h, _, _ => by simp at h
  | [], [], _ :: _, _, _, h, _ => by simp at h
  | [], [], [], _ :: _, _, _, h => by simp at h
  | _ :: _, _ :: _, [], _, _, h, _ => by simp at h
  | _ :: _, _ :: _, _ :: _, [], _, _, h => by simp at h

/-- an amount is right for the value of an atom in a state -/
def followsF (a : AtomD) (amount : Int) (s : Nat) : Bool :=
  if a.values[s]! = omegaI then false else if a.mod = 0 then decide (a.values[s]! ≤ amount) else restF amount a.mod == a.values[s]!
/-- a rule leads on from what the atom says -/
def keepsF (a : AtomD) (r : RD) : Bool := a.values[r.src.toNat]! == omegaI || followsF a (a.values[r.src.toNat]! + effectF a.coefs r) r.dst.toNat
/-- rules of so many states and places -/
def RightR (ns np : Nat) (r : RD) : Prop := 0 ≤ r.src ∧ r.src < ns ∧ 0 ≤ r.dst ∧ r.dst < ns ∧ r.need.length = np ∧ r.give.length = np

/-- one step -/
theorem follows_step {a : AtomD} {ns np : Nat} {r : RD} {v : List Int} (hm : 0 ≤ a.mod) (hc : a.coefs.length = np) (hv : v.length = np) (hr : RightR ns np r) (hk : keepsF a r = true)
    (h : followsF a (sumF a.coefs v) r.src.toNat = true) : followsF a (sumF a.coefs (fireF r v)) r.dst.toNat = true := by
  have e : sumF a.coefs (fireF r v) = sumF a.coefs v + effectF a.coefs r := sum_fireL (by omega) (by rw [hr.2.2.2.2.1, hv]) (by rw [hr.2.2.2.2.2, hv])
  rw [e]
  generalize sumF a.coefs v = n at h
  unfold keepsF at hk
  unfold followsF at *
  generalize a.values[r.src.toNat]! = p at *
  generalize a.values[r.dst.toNat]! = q at *
  generalize effectF a.coefs r = d at *
  split at h
  · cases h
  · rename_i hp
    rw [beq_eq_false_iff_ne.2 hp, Bool.false_or] at hk
    split at hk
    · cases hk
    · rename_i hq
      rw [if_neg hq]
      by_cases h0 : a.mod = 0
      · rw [if_pos h0] at *
        simp only [decide_eq_true_eq] at *
        omega
      · rw [if_neg h0] at *
        have hpos : 0 < a.mod := by omega
        rw [restF_emod hpos, beq_iff_eq] at *
        rw [← hk, ← h]
        rw [Int.emod_add_emod]

/-! ### the strongest atom -/
/-- values of b are at most those of a, where a has values (modulo: the same) -/
def AboveV (mod : Int) (a b : List Int) (s : Nat) : Prop := a[s]! ≠ omegaI → b[s]! ≠ omegaI ∧ if mod = 0 then b[s]! ≤ a[s]! else b[s]! = a[s]!
/-- a rule leads from a's value on, b is closed -/
theorem above_step {a : List Int} {b : AtomD} {r : RD} {x y : Nat} {n : Int} (hm : 0 ≤ b.mod) (hx : r.src.toNat = x) (hy : r.dst.toNat = y) (h : AboveV b.mod a b.values x) (ha : a[x]! ≠ omegaI) (hk : keepsF b r = true)
    (hn : n = if 0 < b.mod then restF (a[x]! + effectF b.coefs r) b.mod else a[x]! + effectF b.coefs r) : b.values[y]! ≠ omegaI ∧ if b.mod = 0 then b.values[y]! ≤ n else b.values[y]! = n := by
  obtain ⟨h1, h2⟩ := h ha
  unfold keepsF at hk
  rw [hx, hy, beq_eq_false_iff_ne.2 h1, Bool.false_or] at hk
  unfold followsF at hk
  generalize b.values[x]! = p at *
  generalize b.values[y]! = q at *
  generalize effectF b.coefs r = d at *
  generalize a[x]! = u at *
  split at hk
  · cases hk
  · rename_i hq
    refine ⟨hq, ?_⟩
    by_cases h0 : b.mod = 0
    · rw [if_pos h0] at *
      rw [if_neg (by omega)] at hn
      simp only [decide_eq_true_eq] at hk
      omega
    · rw [if_neg h0] at *
      rw [if_pos (by omega)] at hn
      rw [beq_iff_eq] at hk
      rw [hn, ← h2, hk]
theorem follows_above {a b : AtomD} {s : Nat} {n : Int} (hb : b.mod = a.mod) (h : AboveV a.mod a.values b.values s) (hf : followsF a n s = true) : followsF b n s = true := by
  unfold followsF at *
  split at hf
  · cases hf
  · rename_i hp
    obtain ⟨h1, h2⟩ := h hp
    rw [if_neg h1, hb]
    by_cases h0 : a.mod = 0
    · rw [if_pos h0] at *
      simp only [decide_eq_true_eq] at *
      omega
    · rw [if_neg h0] at *
      rw [h2]; exact hf
/-- all of an inequality's values less by one number -/
theorem keeps_less {a b : AtomD} {by_ : Int} {r : RD} (hm : a.mod = 0) (hb : b.mod = 0) (hc : b.coefs = a.coefs) (_hby : 0 ≤ by_)
    (hv : ∀ s : Nat, b.values[s]! = if a.values[s]! = omegaI then omegaI else a.values[s]! - by_) (hn : ∀ s : Nat, b.values[s]! = omegaI → a.values[s]! = omegaI) (h : keepsF a r = true) : keepsF b r = true := by
  unfold keepsF at *
  rw [Bool.or_eq_true] at *
  by_cases hp : a.values[r.src.toNat]! = omegaI
  · exact .inl (by rw [hv, if_pos hp]; simp)
  · right
    have h := h.resolve_left (by rw [beq_iff_eq]; exact hp)
    unfold followsF at *
    by_cases hq : a.values[r.dst.toNat]! = omegaI
    · rw [if_pos hq] at h; cases h
    · rw [if_neg hq, if_pos hm] at h
      rw [if_neg (fun e => hq (hn _ e)), if_pos hb, hc, hv, hv, if_neg hp, if_neg hq]
      simp only [decide_eq_true_eq] at *
      omega

/-! ### the strongest atom, as it is found -/
def nextF (mod : Int) (coefs : List Int) (r : RD) (v : List Int) : Int :=
  if 0 < mod then restF (v[r.src.toNat]! + effectF coefs r) mod else v[r.src.toNat]! + effectF coefs r
/-- one rule: changed, possible, the values behind it -/
def flowF (mod : Int) (coefs : List Int) (r : RD) (v : List Int) : Bool × Bool × List Int :=
  if v[r.src.toNat]! = omegaI then (false, true, v)
  else if v[r.dst.toNat]! = omegaI ∨ (mod = 0 ∧ nextF mod coefs r v < v[r.dst.toNat]!) then (true, true, v.set r.dst.toNat (nextF mod coefs r v))
  else if 0 < mod ∧ nextF mod coefs r v ≠ v[r.dst.toNat]! then (false, false, v) else (false, true, v)
def roundF (mod : Int) (coefs : List Int) : List RD → Bool → List Int → Option (Bool × List Int)
  | [], ch, v => some (ch, v)
  | r :: rs, ch, v => if (flowF mod coefs r v).2.1 then roundF mod coefs rs (ch || (flowF mod coefs r v).1) (flowF mod coefs r v).2.2 else none
/-- at most n + 1 rounds -/
def potF (mod : Int) (coefs : List Int) (rules : List RD) : Nat → List Int → Option (List Int)
  | 0, v => match roundF mod coefs rules false v with
    | some (false, w) => some w
    | _ => none
  | n + 1, v => match roundF mod coefs rules false v with
    | some (false, w) => some w
    | some (true, w) => potF mod coefs rules n w
    | none => none

theorem flow_len (mod : Int) (coefs : List Int) (r : RD) (v : List Int) : (flowF mod coefs r v).2.2.length = v.length := by
  unfold flowF; split <;> (try split) <;> (try split) <;> simp
theorem flow_same {mod : Int} {coefs : List Int} {r : RD} {v : List Int} (hm : 0 ≤ mod) (h1 : (flowF mod coefs r v).1 = false) (h2 : (flowF mod coefs r v).2.1 = true) :
    (flowF mod coefs r v).2.2 = v ∧ keepsF ⟨coefs, mod, v⟩ r = true := by
  unfold flowF at *
  unfold keepsF followsF
  split at h1
  · rename_i h; rw [if_pos h]; exact ⟨rfl, by simp [h]⟩
  · rename_i h
    split at h1
    · cases h1
    · rename_i h3
      have hy : v[r.dst.toNat]! ≠ omegaI := fun e => h3 (.inl e)
      rw [if_neg h, if_neg h3] at *
      split at h2
      · cases h2
      · rename_i h4
        rw [if_neg h4]
        refine ⟨rfl, ?_⟩
        show (v[r.src.toNat]! == omegaI || if v[r.dst.toNat]! = omegaI then false else if mod = 0 then decide (v[r.dst.toNat]! ≤ v[r.src.toNat]! + effectF coefs r) else restF (v[r.src.toNat]! + effectF coefs r) mod == v[r.dst.toNat]!) = true
        rw [if_neg hy, beq_eq_false_iff_ne.2 h, Bool.false_or]
        by_cases h0 : mod = 0
        · have h5 : ¬ nextF mod coefs r v < v[r.dst.toNat]! := fun hl => h3 (.inr ⟨h0, hl⟩)
          unfold nextF at h5
          rw [if_neg (show ¬ 0 < mod by omega)] at h5
          rw [if_pos h0]
          simp only [decide_eq_true_eq]; omega
        · have hp : 0 < mod := by omega
          have h5 : nextF mod coefs r v = v[r.dst.toNat]! := Classical.byContradiction fun hn => h4 ⟨hp, hn⟩
          unfold nextF at h5
          rw [if_pos hp] at h5
          rw [if_neg h0, beq_iff_eq]; exact h5
theorem round_same {mod : Int} {coefs : List Int} (hm : 0 ≤ mod) : ∀ {rs : List RD} {ch : Bool} {v w : List Int}, roundF mod coefs rs ch v = some (false, w) →
    ch = false ∧ w = v ∧ ∀ r ∈ rs, keepsF ⟨coefs, mod, v⟩ r = true
  | [], ch, v, w, h => by
    rw [roundF] at h
    injection h with h; injection h with h1 h2
    exact ⟨h1, h2.symm, fun r hr => by simp at hr⟩
  | r :: rs, ch, v, w, h => by
    rw [roundF] at h
    split at h
    · rename_i hok
      obtain ⟨h1, h2, h3⟩ := round_same hm h
      rw [Bool.or_eq_false_iff] at h1
      obtain ⟨h4, h5⟩ := flow_same hm h1.2 hok
      rw [h4] at h2 h3
      refine ⟨h1.1, h2, fun x hx => ?_⟩
      rw [List.mem_cons] at hx
      rcases hx with rfl | hx
      · exact h5
      · exact h3 x hx
    · cases h
/-- what is found is closed under the rules -/
theorem pot_keeps {mod : Int} {coefs : List Int} {rs : List RD} (hm : 0 ≤ mod) : ∀ {n : Nat} {v w : List Int}, potF mod coefs rs n v = some w → ∀ r ∈ rs, keepsF ⟨coefs, mod, w⟩ r = true
  | 0, v, w, h => by
    rw [potF] at h
    split at h
    · rename_i e
      injection h with h; subst h
      obtain ⟨_, h2, h3⟩ := round_same hm e
      rw [h2]; exact h3
    · cases h
  | n + 1, v, w, h => by
    rw [potF] at h
    split at h
    · rename_i e
      injection h with h; subst h
      obtain ⟨_, h2, h3⟩ := round_same hm e
      rw [h2]; exact h3
    · exact pot_keeps hm h
    · cases h
/-- an invariant of one rule's flow is one of the whole search -/
theorem round_inv {mod : Int} {coefs : List Int} {P : List Int → Prop} : ∀ {rs : List RD} (_ : ∀ r ∈ rs, ∀ v, P v → P (flowF mod coefs r v).2.2) {ch c : Bool} {v w : List Int}, P v → roundF mod coefs rs ch v = some (c, w) → P w
  | [], _, ch, c, v, w, hv, h => by
    rw [roundF] at h
    injection h with h; injection h with h1 h2
    exact h2 ▸ hv
  | r :: rs, hP, ch, c, v, w, hv, h => by
    rw [roundF] at h
    split at h
    · exact round_inv (fun x hx => hP x (List.mem_cons_of_mem _ hx)) (hP r (List.mem_cons_self ..) v hv) h
    · cases h
theorem pot_inv {mod : Int} {coefs : List Int} {P : List Int → Prop} {rs : List RD} (hP : ∀ r ∈ rs, ∀ v, P v → P (flowF mod coefs r v).2.2) : ∀ {n : Nat} {v w : List Int}, P v → potF mod coefs rs n v = some w → P w
  | 0, v, w, hv, h => by
    rw [potF] at h
    split at h
    · rename_i e; injection h with h; subst h; exact round_inv hP hv e
    · cases h
  | n + 1, v, w, hv, h => by
    rw [potF] at h
    split at h
    · rename_i e; injection h with h; subst h; exact round_inv hP hv e
    · rename_i e; exact pot_inv hP (round_inv hP hv e) h
    · cases h
theorem set_bang {l : List Int} {i j : Nat} {x : Int} (h : i < l.length) : (l.set i x)[j]! = if i = j then x else l[j]! := by
  by_cases e : i = j
  · subst e; simp [h]
  · rw [getElem!_def, List.getElem?_set_ne e, if_neg e, getElem!_def]
/-- a closed atom lies below what is found, and a rule's flow is possible -/
theorem flow_above {b : AtomD} {r : RD} {v : List Int} (hm : 0 ≤ b.mod) (hy : r.dst.toNat < v.length) (hk : keepsF b r = true) (h : ∀ s, AboveV b.mod v b.values s) :
    (flowF b.mod b.coefs r v).2.1 = true ∧ ∀ s, AboveV b.mod (flowF b.mod b.coefs r v).2.2 b.values s := by
  by_cases hx : v[r.src.toNat]! = omegaI
  · unfold flowF; rw [if_pos hx]; exact ⟨rfl, h⟩
  have hn := above_step hm rfl rfl (h r.src.toNat) hx hk (n := nextF b.mod b.coefs r v) (by unfold nextF; rfl)
  unfold flowF
  rw [if_neg hx]
  split
  · refine ⟨rfl, fun s => ?_⟩
    unfold AboveV
    show (v.set r.dst.toNat (nextF b.mod b.coefs r v))[s]! ≠ omegaI → _ ∧ if b.mod = 0 then _ ≤ (v.set r.dst.toNat (nextF b.mod b.coefs r v))[s]! else _ = (v.set r.dst.toNat (nextF b.mod b.coefs r v))[s]!
    rw [set_bang hy]
    by_cases e : r.dst.toNat = s
    · rw [if_pos e, ← e]; exact fun _ => hn
    · rw [if_neg e]; exact h s
  · rename_i h3
    split
    · rename_i h4
      have h5 := (h r.dst.toNat fun e => h3 (.inl e)).2
      rw [if_neg (by omega)] at h5
      have h6 := hn.2
      rw [if_neg (by omega)] at h6
      exact absurd (by rw [← h6, h5]) h4.2
    · exact ⟨rfl, h⟩
/-- the value at a state that has one only gets less -/
theorem flow_low {mod : Int} {coefs : List Int} {r : RD} {v : List Int} {s : Nat} (hy : r.dst.toNat < v.length) (hs : v[s]! ≠ omegaI) :
    if mod = 0 then (flowF mod coefs r v).2.2[s]! ≤ v[s]! else (flowF mod coefs r v).2.2[s]! = v[s]! := by
  have key : (flowF mod coefs r v).2.2[s]! = v[s]! ∨ (mod = 0 ∧ (flowF mod coefs r v).2.2[s]! ≤ v[s]!) := by
    unfold flowF
    split
    · exact .inl rfl
    · split
      · rename_i h3
        show (v.set r.dst.toNat (nextF mod coefs r v))[s]! = _ ∨ (mod = 0 ∧ (v.set r.dst.toNat (nextF mod coefs r v))[s]! ≤ _)
        rw [set_bang hy]
        by_cases e : r.dst.toNat = s
        · rw [if_pos e]
          rcases h3 with h3 | h3
          · exact absurd (e ▸ h3) hs
          · right; rw [e] at h3; exact ⟨h3.1, by omega⟩
        · rw [if_neg e]; exact .inl rfl
      · split <;> exact .inl rfl
  by_cases h0 : mod = 0
  · rw [if_pos h0]; rcases key with k | k <;> omega
  · rw [if_neg h0]; rcases key with k | k
    · exact k
    · exact absurd k.1 h0

/-! ### the search ends: models of at most two states -/
/-- a rule that changes nothing -/
theorem flow_stay {b : AtomD} {r : RD} {v : List Int} (hm : 0 ≤ b.mod) (hk : keepsF b r = true) (h : ∀ s, AboveV b.mod v b.values s)
    (hs : v[r.src.toNat]! = omegaI ∨ (v[r.dst.toNat]! ≠ omegaI ∧ (b.mod = 0 → v[r.dst.toNat]! - b.values[r.dst.toNat]! ≤ v[r.src.toNat]! - b.values[r.src.toNat]!))) : flowF b.mod b.coefs r v = (false, true, v) := by
  unfold flowF
  by_cases hx : v[r.src.toNat]! = omegaI
  · rw [if_pos hx]
  have hs := hs.resolve_left hx
  have hn := above_step hm rfl rfl (h r.src.toNat) hx hk (n := nextF b.mod b.coefs r v) (by unfold nextF; rfl)
  have hy := (h r.dst.toNat hs.1).2
  have hxb := (h r.src.toNat hx).1
  rw [if_neg hx]
  by_cases h0 : b.mod = 0
  · have h1 : b.values[r.dst.toNat]! ≤ b.values[r.src.toNat]! + effectF b.coefs r := by
      unfold keepsF at hk
      rw [beq_eq_false_iff_ne.2 hxb, Bool.false_or] at hk
      unfold followsF at hk
      rw [if_neg hn.1, if_pos h0] at hk
      simpa using hk
    have h2 : nextF b.mod b.coefs r v = v[r.src.toNat]! + effectF b.coefs r := by unfold nextF; rw [if_neg (by omega)]
    have h3 := hs.2 h0
    rw [if_neg (fun e => e.elim hs.1 fun e => by omega), if_neg (fun e => by omega)]
  · rw [if_neg h0] at hn hy
    rw [if_neg (fun e => e.elim hs.1 fun e => h0 e.1), if_neg (fun e => e.2 (by rw [← hn.2, hy]))]

/-- what a second state's value may be -/
def Q2 (b : AtomD) (d u : Int) : Prop := u = omegaI ∨ (b.values[1]! ≠ omegaI ∧ if b.mod = 0 then d - b.values[0]! + b.values[1]! ≤ u else b.values[1]! = u)
/-- the first state's value -/
def Q1 (b : AtomD) (d : Int) : Prop := d ≠ omegaI ∧ b.values[0]! ≠ omegaI ∧ if b.mod = 0 then b.values[0]! ≤ d else b.values[0]! = d
def below2 (b : AtomD) (d u : Int) (r : RD) : Prop := r.src = 0 ∧ r.dst = 1 → u ≠ omegaI ∧ (b.mod = 0 → u ≤ nextF b.mod b.coefs r [d, u])
theorem next_first {mod : Int} {coefs : List Int} {r : RD} {d u w : Int} (h : r.src = 0) : nextF mod coefs r [d, u] = nextF mod coefs r [d, w] := by
  unfold nextF; rw [h]; rfl
theorem above2 {b : AtomD} {d u : Int} (h1 : Q1 b d) (h2 : Q2 b d u) (hb : b.values.length = 2) : ∀ s, AboveV b.mod [d, u] b.values s
  | 0 => fun _ => h1.2
  | 1 => fun h => by
    have h3 := h2.resolve_left h
    refine ⟨h3.1, ?_⟩
    have h4 := h1.2.2
    have h5 := h3.2
    show if b.mod = 0 then b.values[1]! ≤ u else b.values[1]! = u
    split
    · rename_i h0; rw [if_pos h0] at h4 h5; omega
    · rename_i h0; rw [if_neg h0] at h5; exact h5
  | s + 2 => fun _ => by
    have e1 : b.values[s + 2]! = 0 := by rw [getElem!_neg b.values (s + 2) (by omega)]; rfl
    have e2 : ([d, u] : List Int)[s + 2]! = 0 := rfl
    rw [e1, e2]
    refine ⟨by decide, ?_⟩
    split
    · exact Int.le_refl _
    · rfl
theorem flow_two {b : AtomD} {r : RD} {d u : Int} (hm : 0 ≤ b.mod) (hb : b.values.length = 2) (h1 : Q1 b d) (h2 : Q2 b d u) (hr : (r.src = 0 ∨ r.src = 1) ∧ (r.dst = 0 ∨ r.dst = 1)) (hk : keepsF b r = true)
    (hs : below2 b d u r) : flowF b.mod b.coefs r [d, u] = (false, true, [d, u]) := by
  have ha := above2 h1 h2 hb
  by_cases h01 : r.src = 0 ∧ r.dst = 1
  · obtain ⟨hu, hle⟩ := hs h01
    have e1 : ([d, u] : List Int)[r.dst.toNat]! = u := by rw [h01.2]; rfl
    have e0 : ([d, u] : List Int)[r.src.toNat]! = d := by rw [h01.1]; rfl
    have hn := above_step hm rfl rfl (ha r.src.toNat) (by rw [e0]; exact h1.1) hk (n := nextF b.mod b.coefs r [d, u]) (by unfold nextF; rfl)
    have hy := (ha r.dst.toNat (by rw [e1]; exact hu)).2
    unfold flowF
    rw [e0, e1, if_neg h1.1]
    rw [e1] at hy
    by_cases h0 : b.mod = 0
    · have h3 := hle h0
      rw [if_neg (fun e => e.elim hu fun e => by omega), if_neg (fun e => by omega)]
    · rw [if_neg h0] at hn hy
      rw [if_neg (fun e => e.elim hu fun e => h0 e.1), if_neg (fun e => e.2 (by rw [← hn.2, hy]))]
  · refine flow_stay hm hk ha ?_
    have h4 := h1.1
    rcases hr with ⟨hx | hx, hy | hy⟩
    · rw [hx, hy]; exact .inr ⟨h4, fun _ => Int.le_refl _⟩
    · exact absurd ⟨hx, hy⟩ h01
    · rw [hx, hy]
      show u = omegaI ∨ (d ≠ omegaI ∧ (b.mod = 0 → d - b.values[0]! ≤ u - b.values[1]!))
      rcases h2 with h2 | h2
      · exact .inl h2
      · refine .inr ⟨h4, fun h0 => ?_⟩
        have := h2.2; rw [if_pos h0] at this; omega
    · rw [hx, hy]
      show u = omegaI ∨ (u ≠ omegaI ∧ _)
      by_cases hu : u = omegaI
      · exact .inl hu
      · exact .inr ⟨hu, fun _ => Int.le_refl _⟩
/-- one rule, whatever the second state's value is -/
theorem flow_two' {b : AtomD} {r : RD} {d u : Int} (hm : 0 ≤ b.mod) (hb : b.values.length = 2) (h1 : Q1 b d) (h2 : Q2 b d u) (hr : (r.src = 0 ∨ r.src = 1) ∧ (r.dst = 0 ∨ r.dst = 1)) (hk : keepsF b r = true)
    (hw : r.src = 0 → nextF b.mod b.coefs r [d, u] ≠ omegaI) :
    ∃ c u', flowF b.mod b.coefs r [d, u] = (c, true, [d, u']) ∧ Q2 b d u' ∧ (u ≠ omegaI → u' ≠ omegaI ∧ (b.mod = 0 → u' ≤ u)) ∧ below2 b d u' r := by
  by_cases hs : below2 b d u r
  · exact ⟨false, u, flow_two hm hb h1 h2 hr hk hs, h2, fun h => ⟨h, fun _ => Int.le_refl _⟩, hs⟩
  · have h01 : r.src = 0 ∧ r.dst = 1 := Classical.byContradiction fun hn => hs fun h => absurd h hn
    have hn : u = omegaI ∨ (b.mod = 0 ∧ nextF b.mod b.coefs r [d, u] < u) := by
      refine Classical.byContradiction fun hn => hs fun _ => ⟨fun e => hn (.inl e), fun h0 => ?_⟩
      have := fun h => hn (.inr ⟨h0, h⟩)
      omega
    have ha := above2 h1 h2 hb
    have e1 : ([d, u] : List Int)[r.dst.toNat]! = u := by rw [h01.2]; rfl
    have e0 : ([d, u] : List Int)[r.src.toNat]! = d := by rw [h01.1]; rfl
    have hstep := above_step hm rfl rfl (ha r.src.toNat) (by rw [e0]; exact h1.1) hk (n := nextF b.mod b.coefs r [d, u]) (by unfold nextF; rfl)
    have hkk := hk
    rw [h01.2] at hstep
    refine ⟨true, nextF b.mod b.coefs r [d, u], ?_, ?_, fun hu => ⟨hw h01.1, fun h0 => ?_⟩, fun _ => ⟨hw h01.1, fun _ => ?_⟩⟩
    · unfold flowF
      rw [e0, e1, if_neg h1.1, if_pos hn, h01.2]; rfl
    · right
      refine ⟨hstep.1, ?_⟩
      by_cases h0 : b.mod = 0
      · rw [if_pos h0]
        unfold keepsF at hkk
        rw [h01.1, h01.2] at hkk
        have hb0 := h1.2.1
        have e3 : (b.values[(0 : Int).toNat]! == omegaI) = false := beq_eq_false_iff_ne.2 hb0
        rw [e3, Bool.false_or] at hkk
        unfold followsF at hkk
        rw [if_neg hstep.1, if_pos h0] at hkk
        have h5 : b.values[1]! ≤ b.values[0]! + effectF b.coefs r := by simpa using hkk
        have h2' : nextF b.mod b.coefs r [d, u] = d + effectF b.coefs r := by unfold nextF; rw [if_neg (by omega), h01.1]; rfl
        omega
      · rw [if_neg h0]
        have := hstep.2
        rw [if_neg h0] at this; exact this
    · rcases hn with hn | hn
      · exact absurd hn hu
      · omega
    · exact Int.le_of_eq (next_first h01.1)
theorem round_two {b : AtomD} {d : Int} (hm : 0 ≤ b.mod) (hb : b.values.length = 2) (h1 : Q1 b d) : ∀ {rs : List RD} (_ : ∀ r ∈ rs, ((r.src = 0 ∨ r.src = 1) ∧ (r.dst = 0 ∨ r.dst = 1)) ∧ keepsF b r = true ∧ ∀ u, r.src = 0 → nextF b.mod b.coefs r [d, u] ≠ omegaI)
    {ch : Bool} {u : Int}, Q2 b d u → ∃ c u', roundF b.mod b.coefs rs ch [d, u] = some (c, [d, u']) ∧ Q2 b d u' ∧ (u ≠ omegaI → u' ≠ omegaI ∧ (b.mod = 0 → u' ≤ u)) ∧ ∀ r ∈ rs, below2 b d u' r
  | [], _, ch, u, h2 => ⟨ch, u, rfl, h2, fun h => ⟨h, fun _ => Int.le_refl _⟩, fun r hr => by simp at hr⟩
  | r :: rs, hr, ch, u, h2 => by
    obtain ⟨ha, hk, hw⟩ := hr r (List.mem_cons_self ..)
    obtain ⟨c, u', e1, e2, e3, e4⟩ := flow_two' hm hb h1 h2 ha hk (hw u)
    obtain ⟨c2, w, f1, f2, f3, f4⟩ := round_two hm hb h1 (fun x hx => hr x (List.mem_cons_of_mem _ hx)) (ch := ch || c) e2
    refine ⟨c2, w, ?_, f2, fun hu => ⟨(f3 (e3 hu).1).1, fun h0 => ?_⟩, fun x hx => ?_⟩
    · rw [roundF, e1, if_pos rfl]; exact f1
    · have := (f3 (e3 hu).1).2 h0
      have := (e3 hu).2 h0
      omega
    · rw [List.mem_cons] at hx
      rcases hx with rfl | hx
      · intro h01
        obtain ⟨g1, g2⟩ := e4 h01
        refine ⟨(f3 g1).1, fun h0 => ?_⟩
        have := (f3 g1).2 h0
        have := g2 h0
        rw [next_first (w := u') h01.1]
        omega
      · exact f4 x hx
theorem round_settled {b : AtomD} {d u : Int} (hm : 0 ≤ b.mod) (hb : b.values.length = 2) (h1 : Q1 b d) (h2 : Q2 b d u) : ∀ {rs : List RD} (_ : ∀ r ∈ rs, ((r.src = 0 ∨ r.src = 1) ∧ (r.dst = 0 ∨ r.dst = 1)) ∧ keepsF b r = true ∧ below2 b d u r) {ch : Bool},
    roundF b.mod b.coefs rs ch [d, u] = some (ch, [d, u])
  | [], _, ch => rfl
  | r :: rs, hr, ch => by
    obtain ⟨ha, hk, hs⟩ := hr r (List.mem_cons_self ..)
    rw [roundF, flow_two hm hb h1 h2 ha hk hs, if_pos rfl, Bool.or_false]
    exact round_settled hm hb h1 h2 fun x hx => hr x (List.mem_cons_of_mem _ hx)
/-- where a closed atom is, the search finds one: two states -/
theorem pot_two {b : AtomD} {d u : Int} {rs : List RD} {n : Nat} (hm : 0 ≤ b.mod) (hb : b.values.length = 2) (h1 : Q1 b d) (h2 : Q2 b d u)
    (hr : ∀ r ∈ rs, ((r.src = 0 ∨ r.src = 1) ∧ (r.dst = 0 ∨ r.dst = 1)) ∧ keepsF b r = true ∧ ∀ u, r.src = 0 → nextF b.mod b.coefs r [d, u] ≠ omegaI) : ∃ w, potF b.mod b.coefs rs (n + 1) [d, u] = some w := by
  obtain ⟨c, u', e1, e2, _, e4⟩ := round_two hm hb h1 hr (ch := false) h2
  rw [potF, e1]
  cases c
  · exact ⟨_, rfl⟩
  · have := round_settled hm hb h1 e2 (rs := rs) (fun r hx => ⟨(hr r hx).1, (hr r hx).2.1, e4 r hx⟩) (ch := false)
    show ∃ w, potF b.mod b.coefs rs n [d, u'] = some w
    cases n
    · rw [potF, this]; exact ⟨_, rfl⟩
    · rw [potF, this]; exact ⟨_, rfl⟩
/-- one state -/
theorem pot_one {b : AtomD} {d : Int} {rs : List RD} {n : Nat} (hm : 0 ≤ b.mod) (hb : b.values.length = 1) (h1 : Q1 b d)
    (hr : ∀ r ∈ rs, r.src = 0 ∧ r.dst = 0 ∧ keepsF b r = true) : potF b.mod b.coefs rs n [d] = some [d] := by
  have ha : ∀ s, AboveV b.mod [d] b.values s
    | 0 => fun _ => h1.2
    | s + 1 => fun _ => by
      have e1 : b.values[s + 1]! = 0 := by rw [getElem!_neg b.values (s + 1) (by omega)]; rfl
      have e2 : ([d] : List Int)[s + 1]! = 0 := rfl
      rw [e1, e2]
      refine ⟨by decide, ?_⟩
      split
      · exact Int.le_refl _
      · rfl
  have hround : ∀ {rs : List RD} (_ : ∀ r ∈ rs, r.src = 0 ∧ r.dst = 0 ∧ keepsF b r = true) {ch : Bool}, roundF b.mod b.coefs rs ch [d] = some (ch, [d]) := by
    intro rs
    induction rs with
    | nil => intro _ ch; rfl
    | cons r rs ih =>
      intro hr ch
      obtain ⟨hx, hy, hk⟩ := hr r (List.mem_cons_self ..)
      have e := flow_stay hm hk ha (by rw [hx, hy]; exact .inr ⟨h1.1, fun _ => Int.le_refl _⟩)
      rw [roundF, e, if_pos rfl, Bool.or_false]
      exact ih fun x hx => hr x (List.mem_cons_of_mem _ hx)
  have := hround hr (ch := false)
  cases n
  · rw [potF, this]
  · rw [potF, this]

/-! ### what the search begins with, and how large its values become -/
def firstF (mod f0 : Int) : Int := if 0 < mod then restF f0 mod else f0
def beginF (mod : Int) (ns : Nat) (f0 : Int) : List Int := (List.replicate ns omegaI).set 0 (firstF mod f0)
theorem begin_len (mod : Int) (ns : Nat) (f0 : Int) : (beginF mod ns f0).length = ns := by simp [beginF]
theorem begin_zero {mod : Int} {ns : Nat} {f0 : Int} (h : 0 < ns) : (beginF mod ns f0)[0]! = firstF mod f0 := by
  unfold beginF; rw [set_bang (by simpa using h), if_pos rfl]
theorem begin_succ {mod : Int} {ns s : Nat} {f0 : Int} (h : 0 < ns) (hs : s + 1 < ns) : (beginF mod ns f0)[s + 1]! = omegaI := by
  unfold beginF; rw [set_bang (by simpa using h), if_neg (by omega), getElem!_pos _ _ (by simpa using hs)]; simp
theorem first_lt {mod f0 : Int} (h : f0 < omegaI) (hm : mod ≤ omegaI) : firstF mod f0 < omegaI := by
  unfold firstF; split
  · rename_i hp
    rw [restF_emod hp]
    have := Int.emod_lt_of_pos f0 hp
    omega
  · exact h
/-- rules of so many states -/
def RulesIn (ns : Nat) (rs : List RD) : Prop := ∀ r ∈ rs, r.dst.toNat < ns
/-- what is found holds at the start -/
theorem pot_start {mod f0 : Int} {coefs : List Int} {rs : List RD} {ns n : Nat} {w : List Int} (hns : 0 < ns) (hr : RulesIn ns rs) (hm : 0 ≤ mod) (hm2 : mod ≤ omegaI) (hf : f0 < omegaI)
    (h : potF mod coefs rs n (beginF mod ns f0) = some w) : followsF ⟨coefs, mod, w⟩ f0 0 = true := by
  have hlt := first_lt hf hm2
  have key : w.length = ns ∧ (if mod = 0 then w[0]! ≤ firstF mod f0 else w[0]! = firstF mod f0) :=
    pot_inv (P := fun v => v.length = ns ∧ (if mod = 0 then v[0]! ≤ firstF mod f0 else v[0]! = firstF mod f0)) (fun r hx v ⟨h1, h2⟩ => by
      have h0 : v[0]! ≠ omegaI := by
        intro e; rw [e] at h2
        split at h2 <;> omega
      have := flow_low (mod := mod) (coefs := coefs) (r := r) (v := v) (s := 0) (by rw [h1]; exact hr r hx) h0
      refine ⟨by rw [flow_len, h1], ?_⟩
      split
      · rename_i e; rw [if_pos e] at this h2; omega
      · rename_i e; rw [if_neg e] at this h2; rw [this, h2]) ⟨begin_len .., by rw [begin_zero hns]; split; exact Int.le_refl _; rfl⟩ h
  have hw := key.2
  unfold followsF
  show (if w[0]! = omegaI then false else if mod = 0 then decide (w[0]! ≤ f0) else restF f0 mod == w[0]!) = true
  by_cases h0 : mod = 0
  · rw [if_pos h0] at hw
    have e : firstF mod f0 = f0 := by unfold firstF; rw [if_neg (by omega)]
    rw [e] at hw
    rw [if_neg (by omega), if_pos h0]
    simpa using hw
  · rw [if_neg h0] at hw
    rw [if_neg (by omega), if_neg h0, hw]
    unfold firstF
    rw [if_pos (by omega), beq_self_eq_true]
/-- a closed atom begins below -/
theorem begin_above {b : AtomD} {f0 : Int} {ns : Nat} (hns : 0 < ns) (hbl : b.values.length = ns) (hm : 0 ≤ b.mod) (hs : followsF b f0 0 = true) : ∀ s, AboveV b.mod (beginF b.mod ns f0) b.values s := by
  intro s hne
  by_cases h : s < ns
  · cases s with
    | zero =>
      rw [begin_zero hns]
      unfold followsF at hs
      split at hs
      · cases hs
      · rename_i hb
        refine ⟨hb, ?_⟩
        split at hs
        · rename_i h0; rw [if_pos h0]; unfold firstF; rw [if_neg (by omega)]; simpa using hs
        · rename_i h0; rw [if_neg h0]; unfold firstF; rw [if_pos (by omega)]; exact (beq_iff_eq.1 hs).symm
    | succ s => exact absurd (begin_succ hns h) hne
  · have e1 : b.values[s]! = 0 := by rw [getElem!_neg b.values s (by omega)]; rfl
    have e2 : (beginF b.mod ns f0)[s]! = 0 := by rw [getElem!_neg (beginF b.mod ns f0) s (by rw [begin_len]; omega)]; rfl
    rw [e1, e2]
    refine ⟨by decide, ?_⟩
    split
    · exact Int.le_refl _
    · rfl
/-- every closed atom is below what is found -/
theorem pot_above {b : AtomD} {f0 : Int} {ns n : Nat} {rs : List RD} {w : List Int} (hns : 0 < ns) (hbl : b.values.length = ns) (hr : RulesIn ns rs) (hm : 0 ≤ b.mod) (hs : followsF b f0 0 = true)
    (hk : ∀ r ∈ rs, keepsF b r = true) (h : potF b.mod b.coefs rs n (beginF b.mod ns f0) = some w) : ∀ s, AboveV b.mod w b.values s :=
  (pot_inv (P := fun v => v.length = ns ∧ ∀ s, AboveV b.mod v b.values s) (fun r hx v ⟨h1, h2⟩ => ⟨by rw [flow_len, h1], (flow_above hm (by rw [h1]; exact hr r hx) (hk r hx) h2).2⟩)
    ⟨begin_len .., begin_above hns hbl hm hs⟩ h).2

/-- values up to a bound -/
def InB (B : Int) (v : List Int) : Prop := ∀ s : Nat, v[s]! = omegaI ∨ (-B ≤ v[s]! ∧ v[s]! ≤ B)
theorem InB.mono {B C : Int} {v : List Int} (h : InB B v) (hBC : B ≤ C) : InB C v := fun s => (h s).imp id fun h => by omega
theorem flow_bnd {mod B E : Int} {coefs : List Int} {r : RD} {v : List Int} (hy : r.dst.toNat < v.length) (_hE0 : 0 ≤ E) (hB : mod ≤ B) (hE : -E ≤ effectF coefs r ∧ effectF coefs r ≤ E) (h : InB B v) :
    InB (B + E) (flowF mod coefs r v).2.2 := by
  have hv := h.mono (show B ≤ B + E by omega)
  unfold flowF
  split
  · exact hv
  · rename_i hx
    split
    · intro s
      show (v.set r.dst.toNat (nextF mod coefs r v))[s]! = omegaI ∨ _ ≤ (v.set r.dst.toNat (nextF mod coefs r v))[s]! ∧ (v.set r.dst.toNat (nextF mod coefs r v))[s]! ≤ _
      rw [set_bang hy]
      split
      · right
        have h1 := (h r.src.toNat).resolve_left hx
        unfold nextF
        split
        · rename_i hp
          rw [restF_emod hp]
          have h2 := Int.emod_lt_of_pos (v[r.src.toNat]! + effectF coefs r) hp
          have h3 := Int.emod_nonneg (v[r.src.toNat]! + effectF coefs r) (show mod ≠ 0 by omega)
          omega
        · omega
      · exact hv s
    · split <;> exact hv
theorem round_bnd {mod E : Int} {coefs : List Int} {ns : Nat} (hE0 : 0 ≤ E) : ∀ {rs : List RD} (_ : RulesIn ns rs) (_ : ∀ r ∈ rs, -E ≤ effectF coefs r ∧ effectF coefs r ≤ E) {ch c : Bool} {v w : List Int} {B : Int}, v.length = ns → mod ≤ B → InB B v →
    roundF mod coefs rs ch v = some (c, w) → w.length = ns ∧ InB (B + rs.length * E) w
  | [], _, _, ch, c, v, w, B, hl, _, hv, h => by
    rw [roundF] at h
    injection h with h; injection h with h1 h2
    subst h2
    refine ⟨hl, ?_⟩
    simpa using hv
  | r :: rs, hr, hE, ch, c, v, w, B, hl, hB, hv, h => by
    rw [roundF] at h
    split at h
    · have := round_bnd hE0 (fun x hx => hr x (List.mem_cons_of_mem _ hx)) (fun x hx => hE x (List.mem_cons_of_mem _ hx)) (by rw [flow_len, hl]) (show mod ≤ B + E by omega)
        (flow_bnd (by rw [hl]; exact hr r (List.mem_cons_self ..)) hE0 hB (hE r (List.mem_cons_self ..)) hv) h
      refine ⟨this.1, this.2.mono ?_⟩
      rw [List.length_cons, Int.natCast_add, Int.add_mul]; omega
    · cases h
theorem pot_bnd {mod E : Int} {coefs : List Int} {ns : Nat} {rs : List RD} (hE0 : 0 ≤ E) (hr : RulesIn ns rs) (hE : ∀ r ∈ rs, -E ≤ effectF coefs r ∧ effectF coefs r ≤ E) : ∀ {n : Nat} {v w : List Int} {B : Int}, v.length = ns → mod ≤ B → InB B v →
    potF mod coefs rs n v = some w → w.length = ns ∧ InB (B + (n + 1 : Nat) * (rs.length * E)) w
  | 0, v, w, B, hl, hB, hv, h => by
    rw [potF] at h
    split at h
    · rename_i e; injection h with h; subst h
      have := round_bnd hE0 hr hE hl hB hv e
      refine ⟨this.1, this.2.mono ?_⟩
      omega
    · cases h
  | n + 1, v, w, B, hl, hB, hv, h => by
    have hp : 0 ≤ (rs.length : Int) * E := Int.mul_nonneg (by omega) hE0
    have hq : 0 ≤ ((n + 1 : Nat) : Int) * (rs.length * E) := Int.mul_nonneg (by omega) hp
    have e1 : ((n + 1 + 1 : Nat) : Int) * (rs.length * E) = ((n + 1 : Nat) : Int) * (rs.length * E) + rs.length * E := by rw [Int.natCast_add (n + 1) 1, Int.add_mul]; omega
    rw [potF] at h
    split at h
    · rename_i e; injection h with h; subst h
      have := round_bnd hE0 hr hE hl hB hv e
      exact ⟨this.1, this.2.mono (by omega)⟩
    · rename_i e
      have h1 := round_bnd hE0 hr hE hl hB hv e
      have := pot_bnd hE0 hr hE h1.1 (by omega) h1.2 h
      exact ⟨this.1, this.2.mono (by omega)⟩
    · cases h
end Go.AM

/-! ## CmA -/
namespace Go.AM
open Go Go.Proofs Go.RowKit

def vStr (s : ByteArray) : AV := .sc (.string s)
def vss (l : List ByteArray) : AV := .sl 0 1 (l.map vStr)
def vTake (t : Int × Int × Int) : AV := .ag [vi t.1, vi t.2.1, vi t.2.2]
/-- a rule: 14 cells -/
def vRule (r : RD) : AV := .ag [vStr r.name, vi r.src, vi r.dst, vs 0 r.need, vs 0 r.give, vs 0 r.move, vi r.channel, vi r.act, vi r.letter, vs 0 r.path, vs 0 r.next, .sl 0 3 (r.takes.map vTake), vs 0 r.makes, vi r.second]
/-- a model -/
structure MD where
  kind : Int
  states : List ByteArray
  places : List ByteArray
  letters : List ByteArray := []
  ranks : List Int := []
  levels : Int := 0
  age : Int := 0
  rules : List RD
  start : CV
  deriving Inhabited
/-- a model: 10 cells -/
def cM (m : MD) : List AV := [vi m.kind, vss m.states, vss m.places, vss m.letters, vs 0 m.ranks, vi m.levels, vi m.age, .sl 0 14 (m.rules.map vRule), vi m.start.n, .sl 0 2 (m.start.kids.map vV)]
def vM (m : MD) : AV := .ag (cM m)

/-! ### valid counter models -/
def letterB (c : UInt8) : Bool := decide (97 ≤ c) && decide (c ≤ 122)
def digitB (c : UInt8) : Bool := decide (48 ≤ c) && decide (c ≤ 57)
def partB (c : UInt8) : Bool := letterB c || digitB c || c == 95
/-- a name -/
def wordB (s : ByteArray) : Bool := decide (0 < s.size) && decide (s.size ≤ 12) && letterB (s.get! 0) && s.toList.all partB
def kwL : List ByteArray := [⟨#[109, 111, 100, 101, 108]⟩, ⟨#[115, 116, 97, 116, 101, 115]⟩, ⟨#[112, 108, 97, 99, 101, 115]⟩, ⟨#[108, 101, 116, 116, 101, 114, 115]⟩, ⟨#[108, 101, 118, 101, 108, 115]⟩, ⟨#[97, 103, 101]⟩, ⟨#[114, 117, 108, 101]⟩, ⟨#[110, 101, 101, 100]⟩, ⟨#[103, 105, 118, 101]⟩, ⟨#[109, 111, 118, 101]⟩, ⟨#[101, 109, 112, 116, 121]⟩, ⟨#[115, 101, 110, 100]⟩, ⟨#[114, 101, 99, 101, 105, 118, 101]⟩, ⟨#[112, 97, 116, 104]⟩, ⟨#[110, 101, 120, 116]⟩, ⟨#[116, 97, 107, 101]⟩, ⟨#[109, 97, 107, 101]⟩, ⟨#[115, 116, 97, 114, 116]⟩]
def keywordB (s : ByteArray) : Bool := kwL.any fun k => s.toList == k.toList
/-- the name with a number: it is one, and not there before -/
def okN (l : List ByteArray) (i : Nat) : Bool := wordB l[i]! && !keywordB l[i]! && !((l.take i).map fun s => s.data.toList).contains l[i]!.data.toList
/-- names, each once -/
def namesB (l : List ByteArray) : Bool := (List.range l.length).all (okN l)
def namesOf (m : MD) : List ByteArray := m.states ++ m.places ++ m.letters ++ m.rules.map RD.name
def betweenB (x low high : Int) : Bool := decide (low ≤ x) && decide (x ≤ high)
def smallB (l : List Int) : Bool := l.all fun x => betweenB x 0 16
def changesB (np : Nat) (r : RD) : Bool := decide (r.need.length = np) && decide (r.give.length = np) && smallB r.need && smallB r.give
def movesB (np : Nat) (r : RD) : Bool := (r.move.length == 0) || (decide (r.move.length = np) && r.move.all fun x => betweenB x (-1) (np - 1))
def indexB (x : Int) (n : Nat) : Bool := decide (0 ≤ x) && decide (x < n)
/-- a rule of a counter model with so many states and places -/
def ruleB (ns np : Nat) (r : RD) : Bool := indexB r.dst ns && indexB r.src ns && changesB np r && movesB np r
/-- the fields of other kinds are empty -/
def bareB (r : RD) : Bool := r.channel == 0 && r.act == 0 && r.letter == 0 && r.path.length == 0 && r.next.length == 0 && r.takes.length == 0 && r.makes.length == 0 && r.second == 0
/-- a configuration with so many states and places -/
def confB (ns np : Nat) (c : CV) : Bool :=
  match c with
  | .mk n (x :: l) => n == 0 && decide (0 ≤ x.n) && decide (x.n < ns) && x.kids.length == 0 && l.length == np && l.all (fun k => decide (0 ≤ k.n) && decide (k.n ≤ 1048576) && k.kids.length == 0)
  | _ => false
structure GoodM (m : MD) : Prop where
  kind : m.kind = 1
  states : 1 ≤ m.states.length ∧ m.states.length ≤ 8
  places : 1 ≤ m.places.length ∧ m.places.length ≤ 6
  few : m.rules.length ≤ 12
  letters : m.letters = []
  ranks : m.ranks = []
  levels : m.levels = 0
  age : m.age = 0
  names : namesB (namesOf m) = true
  rules : ∀ r ∈ m.rules, ruleB m.states.length m.places.length r = true ∧ bareB r = true
  start : confB m.states.length m.places.length m.start = true
theorem getRule {l : List RD} {i : Nat} (h : i < l.length) : (l.map vRule)[i]? = some (vRule l[i]!) := by
  rw [List.getElem?_map, List.getElem?_eq_getElem h, getElem!_pos l i h, Option.map_some]
theorem getStr {l : List ByteArray} {i : Nat} (h : i < l.length) : (l.map vStr)[i]? = some (.sc (.string l[i]!)) := by
  rw [List.getElem?_map, List.getElem?_eq_getElem h, getElem!_pos l i h, Option.map_some]; rfl
end Go.AM

/-! ## LCand -/
namespace Go.AM

/-- the k lowest digits (base 3) of a number, each less one -/
def digs : Nat → Nat → List Int
  | 0, _ => []
  | k + 1, c => (((c % 3 : Nat) : Int) - 1) :: digs k (c / 3)
theorem digs_len : ∀ k c, (digs k c).length = k
  | 0, _ => rfl
  | k + 1, c => by rw [digs, List.length_cons, digs_len k]
theorem digs_inj : ∀ k {c e : Nat}, c < 3 ^ k → e < 3 ^ k → digs k c = digs k e → c = e
  | 0, c, e, hc, he, _ => by simp at hc he; omega
  | k + 1, c, e, hc, he, h => by
    rw [digs, digs] at h
    injection h with h1 h2
    rw [Nat.pow_succ] at hc he
    have := digs_inj k (c := c / 3) (e := e / 3) (by omega) (by omega) h2
    omega
theorem digs_mem : ∀ k c x, x ∈ digs k c → -1 ≤ x ∧ x ≤ 1
  | 0, _, x, h => by simp [digs] at h
  | k + 1, c, x, h => by
    rw [digs, List.mem_cons] at h
    rcases h with rfl | h
    · omega
    · exact digs_mem k _ x h
theorem digs_at : ∀ k c i, i < k → (digs k c)[i]! = ((c / 3 ^ i % 3 : Nat) : Int) - 1
  | k + 1, c, 0, _ => by simp [digs]
  | k + 1, c, i + 1, h => by
    rw [digs, List.getElem!_cons_succ, digs_at k _ i (by omega), Nat.div_div_eq_div_mul, Nat.pow_succ, Nat.mul_comm 3]
/-- the modulus of a candidate -/
def candMod (k n : Nat) : Nat := if n / 3 ^ k = 0 then 0 else n / 3 ^ k + 1
theorem candMod_ne (k n : Nat) : candMod k n ≠ 1 := by unfold candMod; split <;> omega
theorem candMod_le {k n : Nat} (h : n < 8 * 3 ^ k) : candMod k n ≤ 8 := by
  have : n / 3 ^ k < 8 := (Nat.div_lt_iff_lt_mul (Nat.pow_pos (by decide))).2 h
  unfold candMod; split <;> omega
theorem cand_inj {k n m : Nat} (h1 : candMod k n = candMod k m) (h2 : digs k (n % 3 ^ k) = digs k (m % 3 ^ k)) : n = m := by
  have hp : 0 < 3 ^ k := Nat.pow_pos (by decide)
  have e1 := digs_inj k (Nat.mod_lt n hp) (Nat.mod_lt m hp) h2
  have e2 : n / 3 ^ k = m / 3 ^ k := by
    unfold candMod at h1
    revert h1
    generalize n / 3 ^ k = x
    generalize m / 3 ^ k = y
    intro h1
    split at h1 <;> split at h1 <;> omega
  rw [← Nat.div_add_mod n (3 ^ k), ← Nat.div_add_mod m (3 ^ k), e1, e2]
/-- the next ones, up to 20 further, are others -/
theorem cand_next {t n p : Nat} (ht : 24 ≤ t) (hp : p < 20) : n % t ≠ (n + 1 + p) % t := by
  intro h
  have h2 : (n + 1 + p) % t = (n % t + (1 + p)) % t := by rw [Nat.add_assoc, Nat.add_mod, Nat.mod_eq_of_lt (show 1 + p < t by omega)]
  have h1 := Nat.mod_lt n (show 0 < t by omega)
  rw [h2] at h
  revert h h1
  generalize n % t = r
  intro h h1
  by_cases hl : r + (1 + p) < t
  · rw [Nat.mod_eq_of_lt hl] at h; omega
  · have e2 : r + (1 + p) = t + (r + (1 + p) - t) := by omega
    have e3 : (r + (1 + p)) % t = r + (1 + p) - t := by
      rw [e2, Nat.add_mod_left, Nat.mod_eq_of_lt (by omega)]; omega
    rw [e3] at h; omega
end Go.AM

/-! ## CmD -/
namespace Go.AM
open Go Go.Proofs Go.RowKit

/-- the dice, as they lie in memory -/
def diceA (l : List Int) (at_ : Nat) : List AV := [.sl 0 1 (l.map vu), .sc (.int .i64 at_)]
attribute [go_sem] diceA
/-- seeds -/
def Seeds (l : List Int) : Prop := l.length ≤ 200 ∧ ∀ x ∈ l, 0 ≤ x ∧ x < 256

set_option maxRecDepth 100000 in
theorem con_new (l : List Int) (hl : l.length ≤ 9223372036854775807) : Con Tryz.prog 14 [.sl 0 1 (l.map vu)] [] fun r b => r = .pb 0 0 ∧ b = [diceA (l.take 200) 0] := by
  refine Con.intro Tryz.func14 rfl Tryz.ntmps14 Tryz.results14 (by kernel_rfl) (by simp) 1 (by simp) ?_
  by_cases h : (200 : Int) < l.length
  · have h2 : 200 ≤ l.length := by omega
    simp only [go_sem, h, h2]
    simp [List.map_take]
  · have e : l.take 200 = l := List.take_of_length_le (by omega)
    simp only [go_sem, h, e]

def pickV (l : List Int) (at_ : Nat) (n : Int) : Int := if l.length ≤ at_ then 0 else l[at_]! % n
def pickA (l : List Int) (at_ : Nat) : Nat := if l.length ≤ at_ then at_ else at_ + 1
theorem pickV_lt {l : List Int} {at_ : Nat} {n : Int} (hn : 1 ≤ n) : 0 ≤ pickV l at_ n ∧ pickV l at_ n < n := by
  unfold pickV
  split
  · omega
  · exact ⟨Int.emod_nonneg _ (by omega), Int.emod_lt_of_pos _ (by omega)⟩
theorem pickA_le {l : List Int} {at_ : Nat} (h : at_ ≤ l.length) : pickA l at_ ≤ l.length := by
  unfold pickA; split <;> omega

set_option maxRecDepth 100000 in
theorem con_pickF (l : List Int) (at_ : Nat) (n : Int) (hs : Seeds l) (_ha : at_ ≤ l.length) (hn : 1 ≤ n) : Con Tryz.prog 18 [.pb 0 0, vi n] [diceA l at_]
    fun r b => r = vi (pickV l at_ n) ∧ b = [diceA l (pickA l at_)] := by
  refine Con.intro Tryz.func18 rfl Tryz.ntmps18 Tryz.results18 (by kernel_rfl) (by simp) 1 (by simp) ?_
  have hl := hs.1
  simp only [go_sem]
  refine DrawK.walk 9 mixed (by kernel_rfl) ?_
  by_cases hh : l.length ≤ at_
  · have e1 : pickV l at_ n = 0 := by unfold pickV; rw [if_pos hh]
    have e2 : pickA l at_ = at_ := by unfold pickA; rw [if_pos hh]
    simp only [go_sem, hh, e1, e2]
  · have h : at_ < l.length := by omega
    have hg := getu h
    have hw : IntKind.i64.wrap (at_ + 1) = at_ + 1 := wrap_in (by omega) (by omega)
    have hw2 : IntKind.i64.wrap ((at_ : Int) + 1 - 1) = at_ := by rw [wrap_in (by omega) (by omega)]; omega
    have hx := hs.2 l[at_]! (by simp [h])
    have hw3 : IntKind.i64.wrap l[at_]! = l[at_]! := wrap_in (by omega) (by omega)
    have e1 : pickV l at_ n = Int.tmod l[at_]! n := by unfold pickV; rw [if_neg hh, Int.tmod_eq_emod_of_nonneg hx.1]
    have e2 : pickA l at_ = at_ + 1 := by unfold pickA; rw [if_neg hh]
    simp only [go_sem, hh, hw]
    refine DrawK.walk 14 mixed (by kernel_rfl) ?_
    simp only [go_sem, h, hg, hw2, hw3, e1, e2]
    exact fun h => by omega

theorem pow3_le {k : Nat} (h : k ≤ 6) : 3 ^ k ≤ 729 := Nat.le_trans (Nat.pow_le_pow_right (by decide) h) (by decide : 3 ^ 6 ≤ 729)
theorem wrap_mul3 {x : Nat} (h : x ≤ 729) : IntKind.i64.wrap ((x : Int) * 3) = ((x * 3 : Nat) : Int) := by rw [wrap_in (by omega) (by omega)]; omega
theorem wrap_mul8 {x : Nat} (h : x ≤ 729) : IntKind.i64.wrap (8 * (x : Int)) = ((8 * x : Nat) : Int) := by rw [wrap_in (by omega) (by omega)]; omega
set_option maxRecDepth 100000 in
theorem con_lists (k : Nat) (h1 : 1 ≤ k) (h2 : k ≤ 6) : Con Tryz.prog 112 [vi k] [] fun r _ => r = vi ((3 ^ k : Nat) : Int) := by
  refine Con.intro Tryz.func112 rfl Tryz.ntmps112 Tryz.results112 (by kernel_rfl) (by simp) 0 (by simp) ?_
  have a1 : ¬ ((k : Int) < 1) := by omega
  have a2 : ¬ ((6 : Int) < k) := by omega
  simp only [go_sem, a1, a2]
  refine LoopK.intro (fun i : Nat => ⟨17, [(0, vi k), (3, vi ((3 ^ i : Nat) : Int)), (10, vi k), (11, vi i)], []⟩)
    (fun i => k - i) (fun i => i ≤ k) 0 (by omega) ?_ ?_
  · simp only [go_sem]
    exact leV_refl _
  rintro i hi
  by_cases h : i < k
  · have hw : IntKind.i64.wrap (i + 1) = i + 1 := wrap_in (by omega) (by omega)
    have hw2 : IntKind.i64.wrap (((3 ^ i : Nat) : Int) * 3) = ((3 ^ (i + 1) : Nat) : Int) := wrap_mul3 (pow3_le (by omega))
    simp only [go_sem, h, hw, hw2]
    refine roundK.intro (i + 1) (by omega) (by omega) ?_
    simp only [go_sem]
  · have e : i = k := by omega
    subst e
    simp only [go_sem, h]
set_option maxRecDepth 100000 in
theorem con_candidates (k : Nat) (h1 : 1 ≤ k) (h2 : k ≤ 6) : Con Tryz.prog 50 [vi k] [] fun r _ => r = vi ((8 * 3 ^ k : Nat) : Int) := by
  refine Con.intro Tryz.func50 rfl Tryz.ntmps50 Tryz.results50 (by kernel_rfl) (by simp) 0 (by simp) ?_
  simp only [go_sem]
  refine CallU.free (con_lists k h1 h2) (by simp only [go_sem]) (by simp only [go_sem]) ?_
  rintro r bx rfl
  have hw : IntKind.i64.wrap (8 * ((3 ^ k : Nat) : Int)) = ((8 * 3 ^ k : Nat) : Int) := wrap_mul8 (pow3_le h2)
  simp only [go_sem, hw]
theorem wrap_nat {x : Nat} (h : x ≤ 9223372036854775807) : IntKind.i64.wrap (x : Int) = (x : Int) := wrap_in (by omega) (by omega)
theorem digs_step {k c i : Nat} (h : i < k) : (digs k c).take (i + 1) = (digs k c).take i ++ [((c / 3 ^ i % 3 : Nat) : Int) - 1] := by
  rw [List.take_add_one, List.getElem?_eq_getElem (by rw [digs_len]; exact h), ← getElem!_pos _ _ (by rw [digs_len]; exact h), digs_at k c i h]; rfl
theorem dig_div {c i : Nat} (h : c ≤ 9223372036854775807) : IntKind.i64.wrap (Int.tdiv ((c / 3 ^ i : Nat) : Int) 3) = ((c / 3 ^ (i + 1) : Nat) : Int) := by
  have e : c / 3 ^ (i + 1) = c / 3 ^ i / 3 := by rw [Nat.pow_succ, Nat.div_div_eq_div_mul]
  rw [e]
  have h2 := Nat.div_le_self c (3 ^ i)
  revert h2
  generalize c / 3 ^ i = x
  intro h2
  exact wrap_nat (x := x / 3) (by omega)
theorem dig_mod {c : Nat} : IntKind.i64.wrap (Int.tmod (c : Int) 3 - 1) = ((c % 3 : Nat) : Int) - 1 := by
  show IntKind.i64.wrap (((c % 3 : Nat) : Int) - 1) = _
  exact wrap_in (by omega) (by omega)
theorem dig_round {k c i : Nat} (h : i < k) : (((digs k c).take i ++ List.replicate (k - i) 0).map vi).modify i (updElem 0 [.sc (.int .i64 (((c / 3 ^ i % 3 : Nat) : Int) - 1))]) = ((digs k c).take (i + 1) ++ List.replicate (k - (i + 1)) 0).map vi := by
  have hl : ((digs k c).take i).length = i := by rw [List.length_take, digs_len]; omega
  have e1 : List.replicate (k - i) (0 : Int) = 0 :: List.replicate (k - (i + 1)) 0 := by rw [show k - i = (k - (i + 1)) + 1 by omega, List.replicate_succ]
  rw [modify_vi, digs_step h, e1, List.set_append_right _ _ (by omega), hl, Nat.sub_self, List.set_cons_zero, List.append_assoc]
  rfl
set_option maxRecDepth 100000 in
set_option maxHeartbeats 1000000 in
theorem con_candidate (k n : Nat) (h1 : 1 ≤ k) (h2 : k ≤ 6) (hn : n < 8 * 3 ^ k) : Con Tryz.prog 51 [vi k, vi n] [] fun r _ => r = .tup [vs 2 (digs k (n % 3 ^ k)), vi (candMod k n), vb true] := by
  refine Con.intro Tryz.func51 rfl Tryz.ntmps51 Tryz.results51 (by kernel_rfl) (by simp) 0 (by simp) ?_
  have a1 : ¬ ((n : Int) < 0) := by omega
  have a2 : ¬ (((8 * 3 ^ k : Nat) : Int) ≤ (n : Int)) := by omega
  simp only [go_sem, a1]
  refine CallU.free (con_candidates k h1 h2) (by simp only [go_sem]) (by simp only [go_sem]) ?_
  rintro r bx rfl
  simp only [go_sem, a2]
  refine DrawK.walk 10 mixed (by kernel_rfl) ?_
  have hpos : 0 < 3 ^ k := Nat.pow_pos (by decide)
  have hz : ¬ ((3 ^ k : Nat) : Int) = 0 := by omega
  have hq : Int.tdiv (n : Int) ((3 ^ k : Nat) : Int) = ((n / 3 ^ k : Nat) : Int) := rfl
  have hm : Int.tmod (n : Int) ((3 ^ k : Nat) : Int) = ((n % 3 ^ k : Nat) : Int) := rfl
  simp only [go_sem]
  refine CallY.mk (con_lists k h1 h2) (by simp only [go_sem]) (by simp only [go_sem]) (.inl rfl) ?_
  simp only [go_sem, hz, hq]
  refine CallY.mk (con_lists k h1 h2) (by simp only [go_sem]) (by simp only [go_sem]) (.inl rfl) ?_
  simp only [go_sem, hz]
  have hlt : n / 3 ^ k < 8 := (Nat.div_lt_iff_lt_mul hpos).2 hn
  have hle := pow3_le h2
  have hml := Nat.mod_lt n hpos
  have hwq : IntKind.i64.wrap ((n / 3 ^ k : Nat) : Int) = ((n / 3 ^ k : Nat) : Int) := wrap_nat (Nat.le_trans (Nat.le_of_lt hlt) (by decide))
  have hwm : IntKind.i64.wrap ((n % 3 ^ k : Nat) : Int) = ((n % 3 ^ k : Nat) : Int) := wrap_nat (Nat.le_trans (Nat.le_of_lt hml) (Nat.le_trans hle (by decide)))
  have hw1 : IntKind.i64.wrap (((n / 3 ^ k : Nat) : Int) + 1) = ((n / 3 ^ k + 1 : Nat) : Int) := wrap_nat (x := n / 3 ^ k + 1) (Nat.le_trans (Nat.succ_le_succ (Nat.le_of_lt hlt)) (by decide))
  rcases Nat.eq_zero_or_pos (n / 3 ^ k) with h0 | h0
  · have e : candMod k n = 0 := by unfold candMod; rw [if_pos h0]
    have h3 : ¬ (0 : Int) < ((n / 3 ^ k : Nat) : Int) := by omega
    simp only [go_sem, hwq, hm, h3]
    refine ⟨by omega, by omega, by omega, ?_⟩
    rw [h0, e]
    refine LoopK.intro (fun i : Nat => ⟨49, [(0, vi k), (7, vi 0), (8, vi ((n % 3 ^ k / 3 ^ i : Nat) : Int)), (9, vs 2112 ((digs k (n % 3 ^ k)).take i ++ List.replicate (k - i) 0)), (34, vi k), (35, vi i)], []⟩)
      (fun i => k - i) (fun i => i ≤ k) 0 (by omega) ?_ ?_
    · simp only [go_sem, List.take_zero, List.nil_append, Nat.sub_zero, List.map_replicate, List.length_replicate, Nat.pow_zero, Nat.div_one]
      all_goals exact leV_refl _
    rintro i hi
    by_cases h : i < k
    · have hw : IntKind.i64.wrap (i + 1) = i + 1 := wrap_in (by omega) (by omega)
      have hc := Nat.div_le_self (n % 3 ^ k) (3 ^ i)
      have hr := dig_round (k := k) (c := n % 3 ^ k) h
      have hd := dig_div (c := n % 3 ^ k) (i := i) (by omega)
      have hm2 := dig_mod (c := n % 3 ^ k / 3 ^ i)
      have hlen : i < ((digs k (n % 3 ^ k)).take i ++ List.replicate (k - i) 0).length := by rw [List.length_append, List.length_take, digs_len, List.length_replicate]; omega
      simp only [go_sem, h, hw, hd, hm2, hr, hlen]
      refine roundK.intro (i + 1) (by omega) (by omega) ?_
      simp only [go_sem]
    · have e2 : i = k := by omega
      subst e2
      have e3 : (digs i (n % 3 ^ i)).take i ++ List.replicate (i - i) 0 = digs i (n % 3 ^ i) := by rw [List.take_of_length_le (by rw [digs_len]; exact Nat.le_refl _), Nat.sub_self]; simp
      simp only [go_sem, h, e3]
  · have e : candMod k n = n / 3 ^ k + 1 := by unfold candMod; rw [if_neg (by omega)]
    have h3 : (0 : Int) < ((n / 3 ^ k : Nat) : Int) := by omega
    simp only [go_sem, hwq, hm, h3, hw1]
    refine ⟨by omega, by omega, by omega, ?_⟩
    rw [e]
    refine LoopK.intro (fun i : Nat => ⟨49, [(0, vi k), (7, vi ((n / 3 ^ k + 1 : Nat) : Int)), (8, vi ((n % 3 ^ k / 3 ^ i : Nat) : Int)), (9, vs 2112 ((digs k (n % 3 ^ k)).take i ++ List.replicate (k - i) 0)), (34, vi k), (35, vi i)], []⟩)
      (fun i => k - i) (fun i => i ≤ k) 0 (by omega) ?_ ?_
    · simp only [go_sem, List.take_zero, List.nil_append, Nat.sub_zero, List.map_replicate, List.length_replicate, Nat.pow_zero, Nat.div_one]
      all_goals exact leV_refl _
    rintro i hi
    by_cases h : i < k
    · have hw : IntKind.i64.wrap (i + 1) = i + 1 := wrap_in (by omega) (by omega)
      have hc := Nat.div_le_self (n % 3 ^ k) (3 ^ i)
      have hr := dig_round (k := k) (c := n % 3 ^ k) h
      have hd := dig_div (c := n % 3 ^ k) (i := i) (by omega)
      have hm2 := dig_mod (c := n % 3 ^ k / 3 ^ i)
      have hlen : i < ((digs k (n % 3 ^ k)).take i ++ List.replicate (k - i) 0).length := by rw [List.length_append, List.length_take, digs_len, List.length_replicate]; omega
      simp only [go_sem, h, hw, hd, hm2, hr, hlen]
      refine roundK.intro (i + 1) (by omega) (by omega) ?_
      simp only [go_sem]
    · have e2 : i = k := by omega
      subst e2
      have e3 : (digs i (n % 3 ^ i)).take i ++ List.replicate (i - i) 0 = digs i (n % 3 ^ i) := by rw [List.take_of_length_le (by rw [digs_len]; exact Nat.le_refl _), Nat.sub_self]; simp
      simp only [go_sem, h, e3]
end Go.AM

/-! ## CmE -/
namespace Go.AM
open Go Go.Proofs Go.RowKit

set_option maxRecDepth 100000 in
theorem con_between (x low high : Int) : Con Tryz.prog 162 [vi x, vi low, vi high] [] fun r _ => r = vb (betweenB x low high) := by
  refine Con.intro Tryz.func162 rfl Tryz.ntmps162 Tryz.results162 (by kernel_rfl) (by simp) 0 (by simp) ?_
  unfold betweenB
  by_cases h1 : low ≤ x
  · by_cases h2 : x ≤ high
    · simp only [go_sem, h1, h2, Bool.and_true]
    · simp only [go_sem, h1, h2, Bool.and_false]
  · simp only [go_sem, h1, Bool.false_and]
set_option maxRecDepth 100000 in
theorem con_index (x : Int) (n : Int) (h1 : 0 ≤ n) (h2 : n ≤ 9223372036854775807) : Con Tryz.prog 209 [vi x, vi n] [] fun r _ => r = vb (decide (0 ≤ x) && decide (x < n)) := by
  refine Con.intro Tryz.func209 rfl Tryz.ntmps209 Tryz.results209 (by kernel_rfl) (by simp) 0 (by simp) ?_
  have hw : IntKind.i64.wrap (n - 1) = n - 1 := wrap_in (by omega) (by omega)
  have e : betweenB x 0 (n - 1) = (decide (0 ≤ x) && decide (x < n)) := by
    unfold betweenB
    congr 1
    exact decide_eq_decide.2 (by omega)
  simp only [go_sem, hw]
  refine CallU.free (con_between x 0 (n - 1)) (by simp only [go_sem]) (by simp only [go_sem]) ?_
  rintro r bx rfl
  simp only [go_sem, e]
set_option maxRecDepth 100000 in
theorem con_rest (n m : Int) (hm : 0 < m) (hm2 : m ≤ 1048576) : Con Tryz.prog 101 [vi n, vi m] [] fun r _ => r = vi (restF n m) := by
  refine Con.intro Tryz.func101 rfl Tryz.ntmps101 Tryz.results101 (by kernel_rfl) (by simp) 0 (by simp) ?_
  have hz : ¬ m = 0 := by omega
  have b1 := Int.lt_tmod_of_pos n hm
  have b2 := Int.tmod_lt_of_pos n hm
  have hw1 : IntKind.i64.wrap (Int.tmod n m) = Int.tmod n m := wrap_in (by omega) (by omega)
  have hw2 : IntKind.i64.wrap (Int.tmod n m + m) = Int.tmod n m + m := wrap_in (by omega) (by omega)
  have b3 := Int.lt_tmod_of_pos (Int.tmod n m + m) hm
  have b4 := Int.tmod_lt_of_pos (Int.tmod n m + m) hm
  have hw3 : IntKind.i64.wrap (Int.tmod (Int.tmod n m + m) m) = Int.tmod (Int.tmod n m + m) m := wrap_in (by omega) (by omega)
  simp only [go_sem, hz, hw2, restF]

theorem sum_take : ∀ {c v : List Int} {i : Nat}, i < c.length → i < v.length → sumF (c.take (i + 1)) (v.take (i + 1)) = sumF (c.take i) (v.take i) + c[i]! * v[i]!
  | c :: cs, v :: vs, 0, _, _ => by simp [sumF]
  | c :: cs, v :: vs, i + 1, h1, h2 => by
    rw [List.take_succ_cons, List.take_succ_cons, List.take_succ_cons, List.take_succ_cons, sumF, sumF, sum_take (by simpa using h1) (by simpa using h2), List.getElem!_cons_succ, List.getElem!_cons_succ]
    omega
  | [], _, _, h, _ => by simp at h
  | _ :: _, [], _, _, h => by simp at h
theorem sum_cut : ∀ {c v : List Int}, c.length ≤ v.length → sumF c (v.take c.length) = sumF c v
  | [], _, _ => rfl
  | c :: cs, v :: vs, h => by rw [List.length_cons, List.take_succ_cons, sumF, sumF, sum_cut (by simpa using h)]
  | _ :: _, [], h => by simp at h
/-- small enough -/
def SmallI (B : Int) (l : List Int) : Prop := ∀ x ∈ l, -B ≤ x ∧ x ≤ B
theorem mul_small {c x : Int} (hc : -4 ≤ c ∧ c ≤ 4) (hx : -1048576 ≤ x ∧ x ≤ 1048576) : -4194304 ≤ c * x ∧ c * x ≤ 4194304 := by
  obtain h | h | h | h | h | h | h | h | h : c = -4 ∨ c = -3 ∨ c = -2 ∨ c = -1 ∨ c = 0 ∨ c = 1 ∨ c = 2 ∨ c = 3 ∨ c = 4 := by omega
  all_goals (subst h; omega)
theorem sum_small : ∀ {c v : List Int}, SmallI 4 c → SmallI 1048576 v → -(4194304 * (c.length : Int)) ≤ sumF c v ∧ sumF c v ≤ 4194304 * c.length
  | [], v, _, _ => by simp [sumF]
  | c :: cs, [], _, _ => by simp only [sumF, List.length_cons]; omega
  | c :: cs, x :: vs, h1, h2 => by
    have h3 := sum_small (c := cs) (v := vs) (fun y hy => h1 y (List.mem_cons_of_mem _ hy)) (fun y hy => h2 y (List.mem_cons_of_mem _ hy))
    have h4 := mul_small (h1 c (List.mem_cons_self ..)) (h2 x (List.mem_cons_self ..))
    simp only [sumF, List.length_cons]; omega
set_option maxRecDepth 100000 in
theorem con_sum (c v : List Int) (hl : c.length ≤ v.length) (h6 : c.length ≤ 1000000) (hc : SmallI 4 c) (hv : SmallI 1048576 v) : Con Tryz.prog 99 [vs 0 c, vs 0 v] [] fun r _ => r = vi (sumF c v) := by
  refine Con.intro Tryz.func99 rfl Tryz.ntmps99 Tryz.results99 (by kernel_rfl) (by simp) 0 (by simp) ?_
  simp only [go_sem]
  refine LoopK.intro (fun i : Nat => ⟨25, [(1, vs 0 v), (5, vi (sumF (c.take i) (v.take i))), (8, vs 0 c), (9, vi c.length), (10, vi i)], []⟩)
    (fun i => c.length - i) (fun i => i ≤ c.length) 0 (by omega) ?_ ?_
  · simp only [go_sem, List.take_zero]
    all_goals exact leV_refl _
  rintro i hi
  by_cases h : i < c.length
  · have h2 : i < v.length := by omega
    have g1 := getv h
    have g2 := getv h2
    have hw : IntKind.i64.wrap (i + 1) = i + 1 := wrap_in (by omega) (by omega)
    have m1 := mul_small (hc _ (mem_bang h)) (hv _ (mem_bang h2))
    have hw1 : IntKind.i64.wrap (c[i]! * v[i]!) = c[i]! * v[i]! := wrap_in (by omega) (by omega)
    have m2 := sum_small (c := c.take (i + 1)) (v := v.take (i + 1)) (fun y hy => hc y (List.mem_of_mem_take hy)) (fun y hy => hv y (List.mem_of_mem_take hy))
    have e := sum_take h h2
    have m3 : ((c.take (i + 1)).length : Int) ≤ 1000000 := by rw [List.length_take]; omega
    have hw2 : IntKind.i64.wrap (sumF (c.take i) (v.take i) + c[i]! * v[i]!) = sumF (c.take (i + 1)) (v.take (i + 1)) := by rw [← e]; exact wrap_in (by omega) (by omega)
    simp only [go_sem, h, h2, g1, g2, hw, hw1, hw2]
    refine roundK.intro (i + 1) (by omega) (by omega) ?_
    simp only [go_sem]
  · have hi2 : i = c.length := by omega
    have e : sumF (c.take i) (v.take i) = sumF c v := by rw [hi2, List.take_length]; exact sum_cut hl
    simp only [go_sem, h, e]
end Go.AM

/-! ## CmF -/
namespace Go.AM
open Go Go.Proofs Go.RowKit

def vAtom (a : AtomD) : AV := .ag [vs 0 a.coefs, vi a.mod, vs 0 a.values]
attribute [go_sem] vAtom
set_option maxRecDepth 100000 in
theorem con_follows (a : AtomD) (n : Int) (s : Nat) (hs : s < a.values.length) (hm : 0 ≤ a.mod) (hm2 : a.mod ≤ 8) : Con Tryz.prog 154 [vAtom a, vi n, vi s] [] fun r _ => r = vb (followsF a n s) := by
  refine Con.intro Tryz.func154 rfl Tryz.ntmps154 Tryz.results154 (by kernel_rfl) (by simp) 0 (by simp) ?_
  have g := getv hs
  by_cases h1 : a.values[s]! = 1099511627776
  · have e : followsF a n s = false := by unfold followsF omegaI; rw [if_pos h1]
    simp only [go_sem, hs, g, h1, e]
  have h1' : (a.values[s]! == 1099511627776) = false := beq_eq_false_iff_ne.2 h1
  by_cases h2 : a.mod = 0
  · have e : followsF a n s = decide (a.values[s]! ≤ n) := by unfold followsF omegaI; rw [if_neg h1, if_pos h2]
    simp only [go_sem, hs, g, h1', h2, e]
  · have e : followsF a n s = (restF n a.mod == a.values[s]!) := by unfold followsF omegaI; rw [if_neg h1, if_neg h2]
    have h2' : (a.mod == 0) = false := beq_eq_false_iff_ne.2 h2
    simp only [go_sem, hs, g, h1', h2']
    refine CallU.free (con_rest n a.mod (by omega) (by omega)) (by simp only [go_sem]) (by simp only [go_sem]) ?_
    rintro r bx rfl
    simp only [go_sem, e]
end Go.AM

/-! ## CmG -/
namespace Go.AM
open Go Go.Proofs Go.RowKit

set_option maxRecDepth 100000 in
theorem con_numbers (n : Int) (x : CV) (l : List CV) (hl : l.length ≤ 1000000) : Con Tryz.prog 100 [.ag [vi n, .sl 0 2 ((x :: l).map vV)]] [] fun r _ => r = vs 2 (l.map CV.n) := by
  refine Con.intro Tryz.func100 rfl Tryz.ntmps100 Tryz.results100 (by kernel_rfl) (by simp) 0 (by simp) ?_
  have hd : (1 : Nat) ≤ (x :: l).length := by simp
  have ht : List.take l.length (l.map vV) = l.map vV := List.take_of_length_le (by simp)
  simp only [go_sem, List.map_cons]
  refine ⟨Nat.le_refl _, ?_⟩
  rw [ht]
  refine LoopK.intro (fun i : Nat => ⟨21, [(3, vs 1216 ((l.take i).map CV.n)), (8, .sl 0 2 (l.map vV)), (9, vi l.length), (10, vi i)], [vi n, .sl 0 2 ((x :: l).map vV)] :: Rk 2 i⟩)
    (fun i => l.length - i) (fun i => i ≤ l.length) 0 (by omega) ?_ ?_
  · simp only [go_sem]
    all_goals exact leB_self _
  rintro i hi
  by_cases h : i < l.length
  · have hg := getvV h
    have hw : IntKind.i64.wrap (i + 1) = i + 1 := wrap_in (by omega) (by omega)
    have hB := Rk_len 2 i
    have n0 := fun L : List (List AV) => app_at0 (L := L) hB
    have s0 := fun (L : List (List AV)) z => app_set0 (L := L) (z := z) hB
    have e : (l.take (i + 1)).map CV.n = (l.take i).map CV.n ++ [l[i]!.n] := by
      rw [List.take_add_one, List.getElem?_eq_getElem h, getElem!_pos l i h, List.map_append]; rfl
    simp only [go_sem, h, hg, hw, hB, n0, s0]
    refine ⟨by unfold roomFor; rw [List.length_take]; omega, ?_⟩
    refine roundK.intro (i + 1) (by omega) (by omega) ?_
    simp only [go_sem, Rk_succ, e]
    refine ⟨?_, leB_RkA (x := [[_, _]]) (y := [List.replicate 2 .any]) ⟨⟨leV_any _, leV_any _, trivial⟩, trivial⟩⟩
    rw [List.map_append, List.map_map]
    exact leV_refl _
  · have hi2 : i = l.length := by omega
    have e2 : l.take i = l := by rw [hi2, List.take_length]
    simp only [go_sem, h, e2]
end Go.AM

/-! ## CmH -/
namespace Go.AM
open Go Go.Proofs Go.RowKit

def u8v (c : UInt8) : AV := .sc (.int .u8 c.toNat)
attribute [go_sem] u8v vStr vss
theorem u8_low {k c : UInt8} {n : Nat} (h : k.toNat = n) : k ≤ c ↔ (n : Int) ≤ (c.toNat : Int) := UInt8.le_iff_toNat_le.trans (by rw [h]; omega)
theorem u8_high {k c : UInt8} {n : Nat} (h : k.toNat = n) : c ≤ k ↔ (c.toNat : Int) ≤ (n : Int) := UInt8.le_iff_toNat_le.trans (by rw [h]; omega)
theorem letterB_eq (c : UInt8) : letterB c = (decide ((97 : Int) ≤ (c.toNat : Int)) && decide ((c.toNat : Int) ≤ 122)) := by
  unfold letterB
  rw [decide_eq_decide.2 (u8_low (k := 97) (c := c) (n := 97) rfl), decide_eq_decide.2 (u8_high (k := 122) (c := c) (n := 122) rfl)]; rfl
theorem digitB_eq (c : UInt8) : digitB c = (decide ((48 : Int) ≤ (c.toNat : Int)) && decide ((c.toNat : Int) ≤ 57)) := by
  unfold digitB
  rw [decide_eq_decide.2 (u8_low (k := 48) (c := c) (n := 48) rfl), decide_eq_decide.2 (u8_high (k := 57) (c := c) (n := 57) rfl)]; rfl
theorem u8_eq {k c : UInt8} {n : Nat} (h : k.toNat = n) : (c == k) = (((c.toNat : Int)) == (n : Int)) := by
  rw [Bool.eq_iff_iff, beq_iff_eq, beq_iff_eq, ← UInt8.toNat_inj, h]; omega

set_option maxRecDepth 100000 in
theorem con_letter (c : UInt8) : Con Tryz.prog 235 [u8v c] [] fun r _ => r = vb (letterB c) := by
  refine Con.intro Tryz.func235 rfl Tryz.ntmps235 Tryz.results235 (by kernel_rfl) (by simp) 0 (by simp) ?_
  rw [letterB_eq]
  by_cases h1 : (97 : Int) ≤ (c.toNat : Int)
  · by_cases h2 : (c.toNat : Int) ≤ 122
    · simp only [go_sem, h1, h2, Bool.and_true]
    · simp only [go_sem, h1, h2, Bool.and_false]
  · simp only [go_sem, h1, Bool.false_and]
set_option maxRecDepth 100000 in
theorem con_digit (c : UInt8) : Con Tryz.prog 257 [u8v c] [] fun r _ => r = vb (digitB c) := by
  refine Con.intro Tryz.func257 rfl Tryz.ntmps257 Tryz.results257 (by kernel_rfl) (by simp) 0 (by simp) ?_
  rw [digitB_eq]
  by_cases h1 : (48 : Int) ≤ (c.toNat : Int)
  · by_cases h2 : (c.toNat : Int) ≤ 57
    · simp only [go_sem, h1, h2, Bool.and_true]
    · simp only [go_sem, h1, h2, Bool.and_false]
  · simp only [go_sem, h1, Bool.false_and]
set_option maxRecDepth 100000 in
theorem con_part (c : UInt8) : Con Tryz.prog 237 [u8v c] [] fun r _ => r = vb (partB c) := by
  refine Con.intro Tryz.func237 rfl Tryz.ntmps237 Tryz.results237 (by kernel_rfl) (by simp) 0 (by simp) ?_
  unfold partB
  rw [u8_eq (k := 95) (c := c) (n := 95) rfl]
  simp only [go_sem]
  refine CallU.free (con_letter c) (by simp only [go_sem]) (by simp only [go_sem]) ?_
  rintro r bx rfl
  cases h1 : letterB c
  · simp only [go_sem]
    refine CallU.free (con_digit c) (by simp only [go_sem]) (by simp only [go_sem]) ?_
    rintro r bx rfl
    cases h2 : digitB c
    · simp only [go_sem]
      all_goals simp
    · simp only [go_sem]
      all_goals simp
  · simp only [go_sem]
    all_goals simp

/-- how many bytes at the beginning p holds of -/
def runL (p : UInt8 → Bool) (l : List UInt8) : Nat := (l.takeWhile p).length
theorem run_stop {p : UInt8 → Bool} : ∀ {l : List UInt8} {i : Nat}, (∀ j, j < i → p l[j]! = true) → i ≤ l.length → (i < l.length → p l[i]! = false) → runL p l = i
  | [], i, _, h2, _ => by simp at h2; subst h2; rfl
  | x :: l, 0, _, _, h3 => by
    have := h3 (by simp)
    simp at this
    simp [runL, this]
  | x :: l, i + 1, h1, h2, h3 => by
    have hx := h1 0 (by omega)
    simp at hx
    have := run_stop (p := p) (l := l) (i := i) (fun j hj => by simpa using h1 (j + 1) (by omega)) (by simpa using h2) (fun h => by simpa using h3 (by simpa using h))
    unfold runL at *
    rw [List.takeWhile_cons, hx, if_pos rfl, List.length_cons, this]
theorem run_all {p : UInt8 → Bool} {l : List UInt8} : (runL p l == l.length) = l.all p := by
  unfold runL
  induction l with
  | nil => rfl
  | cons x l ih =>
    cases h : p x
    · simp [h]
    · simp only [List.takeWhile_cons, h, if_true, List.length_cons, List.all_cons, Bool.true_and]
      rw [← ih]
      rw [Bool.eq_iff_iff]; simp
theorem ba_get {s : ByteArray} {i : Nat} (h : i < s.size) : s[i]? = some s.data.toList[i]! := by
  rw [getElem?_pos s i h]
  congr 1
  have h2 : i < s.data.toList.length := by simpa using h
  rw [getElem!_pos s.data.toList i h2, Array.getElem_toList]; rfl
theorem ba_len (s : ByteArray) : s.data.toList.length = s.size := Array.length_toList
set_option maxRecDepth 100000 in
theorem con_run (s : ByteArray) (f : FuncId) (p : UInt8 → Bool) (hf : ∀ c, Con Tryz.prog f [u8v c] [] fun r _ => r = vb (p c)) (hs : s.size ≤ 9223372036854775806) : Con Tryz.prog 236 [vStr s, .fn f []] [] fun r _ => r = vi (runL p s.data.toList) := by
  refine Con.intro Tryz.func236 rfl Tryz.ntmps236 Tryz.results236 (by kernel_rfl) (by simp) 0 (by simp) ?_
  simp only [go_sem]
  refine LoopK.intro (fun i : Nat => ⟨20, [(0, vStr s), (1, .fn f []), (4, vi 0), (5, vi i)], []⟩)
    (fun i => s.size - i) (fun i => i ≤ s.size ∧ ∀ j, j < i → p s.data.toList[j]! = true) 0 ⟨by omega, fun j hj => by omega⟩ ?_ ?_
  · simp only [go_sem]
    all_goals exact leV_refl _
  rintro i ⟨hi, hb⟩
  by_cases h : i < s.size
  · have hg := ba_get h
    have hw : IntKind.i64.wrap (i + 1) = i + 1 := wrap_in (by omega) (by omega)
    simp only [go_sem, h, hg]
    refine CallU.free (hf s.data.toList[i]!) (by simp only [go_sem]) (by simp only [go_sem]) ?_
    rintro r bx rfl
    cases hp : p s.data.toList[i]!
    · simp only [go_sem]
      rw [run_stop hb (by rw [ba_len]; exact hi) (fun _ => hp)]
    · simp only [go_sem, hw]
      refine roundK.intro (i + 1) ⟨by omega, fun j hj => ?_⟩ (by omega) ?_
      · by_cases hji : j = i
        · subst hji; exact hp
        · exact hb j (by omega)
      · simp only [go_sem]
  · simp only [go_sem, h]
    rw [run_stop hb (by rw [ba_len]; exact hi) (fun h' => absurd (by rw [ba_len] at h'; exact h') h)]
theorem size_zero {s : ByteArray} : (s.toList == ByteArray.toList { data := #[] }) = decide (s.size = 0) := by
  rw [ByteArray.toList_eq, ByteArray.toList_eq, ← ba_len]
  cases h : s.data.toList <;> simp
set_option maxRecDepth 100000 in
theorem con_word (s : ByteArray) (hs : s.size ≤ 9223372036854775806) : Con Tryz.prog 206 [vStr s] [] fun r _ => r = vb (wordB s) := by
  refine Con.intro Tryz.func206 rfl Tryz.ntmps206 Tryz.results206 (by kernel_rfl) (by simp) 0 (by simp) ?_
  have e : wordB s = (decide (0 < s.size) && decide (s.size ≤ 12) && letterB s.data.toList[0]! && (runL partB s.data.toList == s.data.toList.length)) := by
    rw [run_all]
    unfold wordB
    rw [ByteArray.toList_eq]
    by_cases h0 : 0 < s.size
    · have h2 := ba_get h0
      congr 2
      rw [show s.get! 0 = s.data.toList[0]! from ?_]
      have h3 : 0 < s.data.toList.length := by rw [ba_len]; exact h0
      rw [getElem!_pos s.data.toList 0 h3, Array.getElem_toList]
      show s.data[0]! = _
      rw [getElem!_pos s.data 0 h0]
    · rw [decide_eq_false h0]; simp
  rw [e]
  by_cases h0 : 0 < s.size
  · have h0' : ¬ s.size = 0 := by omega
    have hg := ba_get h0
    by_cases h1 : (s.size : Int) ≤ 12
    · have h1' : s.size ≤ 12 := by omega
      simp only [go_sem, size_zero, h0', h1]
      simp only [go_sem, hg]
      refine CallU.free (con_letter s.data.toList[0]!) (by simp only [go_sem]) (by simp only [go_sem]) ?_
      rintro r bx rfl
      cases h2 : letterB s.data.toList[0]!
      · simp only [go_sem]
        all_goals simp
      · simp only [go_sem]
        refine CallU.free (con_run s 237 partB con_part hs) (by simp only [go_sem]) (by simp only [go_sem]) ?_
        rintro r bx rfl
        simp only [go_sem, ba_len, h0, h1', decide_true, Bool.true_and]
        all_goals congr 2
    · have h1' : ¬ s.size ≤ 12 := by omega
      simp only [go_sem, size_zero, h0', h1, h1']
      all_goals simp
  · have h0' : s.size = 0 := by omega
    simp only [go_sem, size_zero, h0']
    all_goals simp
end Go.AM
