/-
  The abstract machine: a region that draws its order, among whose operations are calls that write to one variable, one after the other.
  The abstract machine: the library's Sort and Compact at lists of integers that the call owns: contracts off the shelf, over any program.
  The abstract machine: what walks have in common: numbers, lists, contracts.
  The abstract machine: configurations (values with values below them); elements of which less is known; loops that several branches come to.
  Walks: the plain functions.
  Walks: searches in lists.
  Walks: Clip, Clone, Grow, Concat.
  Walks: the check of a matrix, dot, column, Apply.
  Walks: Apply; the deck.
  Walks: the determinant; the leading rows and columns.
  Walks: the leading rows and columns; Rank.
  Plain laws: products of vectors without a bound; what Apply says of small numbers.
  Plain laws: determinants of small matrices do not overflow; what the leading rows and columns are.
  Walks: divisor, primitive.
-/
import Derived.Test.Ytoglpcfaojcmeaag8
import Derived.Test.Ytoglpcfaojcmeaag5
import Derived.Shelf.Sort.Plain
import Derived.Shelf.Slices.CompactI
import Derived.Maps.Views
import Derived.Test.Ytoglpcfaojcmeaag7
/-! ## AmW -/
namespace Go.AM
open Go.RowKit
theorem freeT_put {d : Nat} {x : AV} (hx : x.allLeaf (freeLeaf d) = true) : ∀ {l : List (Nat × AV)} {s : Nat}, freeT d l = true → freeT d (putT l s x) = true
 | [], s, _ => by simp [putT, freeT, hx]
 | (s', v) :: r, s, h => by
  simp only [freeT, Bool.and_eq_true] at h
  unfold putT
  split
  ·simp [freeT, hx, h.2]
  ·simp [freeT, h.1, freeT_put hx h.2]
def posE (E : List Nat) (L : Nat → Bool) : Nat := (E.filter L).length
def EffC (P : Program) (σ0 : St) (i0 : Nat) (o : Oper) (d : Nat) (ρ : Operand → AV) (c : List AV) (y : AV) (c' : List AV) : Prop :=
 o.guard = none ∧ ∃ fid args As r c1, o.op = .call { callee := .value (.func fid), args := args, argTypes := As } ∧ dedup (pbss (args.toList.map ρ)) = [i0] ∧ allLeafs noTag (args.toList.map ρ) = true ∧ allNoTags [c] = true ∧
  Con P fid (mapTops (pbIn [i0]) (args.toList.map ρ)) (mapB (pbIn [i0]) [c]) (fun r' bx => r' = r ∧ bx = [c1]) ∧ r.allLeaf lt64b = true ∧ allNoTags [c1] = true ∧
  y = r.mapTop (outLeaf (64 * (d + 1)) [i0] σ0.boxes.length) ∧ [c'] = mapB (outLeaf (64 * (d + 1)) [i0] σ0.boxes.length) [c1]
def blankC : List Nat → List AV → List AV
 | [], c => c
 | _ :: _, c => c.map fun _ => .any
structure AtE (vs : List (Nat × AV)) (E : List Nat) (C : Nat → List AV) (i0 : Nat) (L : Nat → Bool) (σ τ : St) : Prop where
 n : τ.n = σ.n
 boxes : τ.boxes = σ.boxes.set i0 (C (posE E L))
 dst : ∀ (i d : Nat) (y : AV), vs[i]? = some (d, y) → τ.get d = if L i = true then y else σ.get d
 rest : ∀ s : Nat, (∀ (i d : Nat) (y : AV), vs[i]? = some (d, y) → d ≠ s) → τ.get s = σ.get s
section
variable {P : Program} {ops : Array Oper} {m : Nat} {vs : List (Nat × AV)} {E : List Nat} {C : Nat → List AV} {i0 : Nat} {σ : St} {K : St → Prop} {G0 : Orig} {w0 : World} {Q : Exit → Act → World → Prop}
theorem BRel.blank {gh : Gh} {G : Nat → Status} {w : World} {bx : List (List AV)} {c c' : List AV} (h : BRel gh G w (bx.set i0 c)) (hl : c.length = c'.length) (he : E = [] → c = c') : BRel gh G w (bx.set i0 (blankC E c')) := by
 cases E with
 | nil => rw [← he rfl]; exact h
 | cons e E =>
 refine ⟨fun i vs hv => by have := h.low i vs hv; simpa using this, fun i cs hi => ?_⟩
 rw [List.getElem?_set] at hi
 by_cases hii : i0 = i
 ·subst hii
  rw [if_pos rfl] at hi
  split at hi
  ·rename_i hlt
   cases hi
   have h2 := h.cell i0 c (by rw [List.getElem?_set, if_pos rfl, if_pos hlt])
   refine h2.turn (by simp [blankC, hl]) (fun j x y v h3 h4 hr => ?_) (fun b hb => ⟨hb, rfl⟩) fun h0 => h0
   unfold blankC at h4
   rw [List.getElem?_map] at h4
   cases hc : c'[j]? with
   | none => simp [hc] at h4
   | some z => simp [hc] at h4; subst h4; exact .froz (.any _)
  ·cases hi
 ·rw [if_neg hii] at hi
  exact h.cell i cs (by rw [List.getElem?_set, if_neg hii]; exact hi)
theorem posE_step {L L' : Nat → Bool} {i : Nat} (hn : E.Nodup) (hL : ∀ j, j ≠ i → L' j = L j) (h1 : L i = false) (h2 : L' i = true) : posE E L' = posE E L + if i ∈ E then 1 else 0 := by
 unfold posE
 induction E with
 | nil => simp
 | cons e E ih =>
  have hn' := List.nodup_cons.1 hn
  have ih := ih hn'.2
  by_cases he : e = i
  ·subst he
   have hni : e ∉ E := hn'.1
   rw [if_neg hni] at ih
   simp only [List.filter_cons, h1, h2, if_true, Bool.false_eq_true, if_false, List.length_cons, List.mem_cons, true_or, if_true]
   omega
  ·simp only [List.filter_cons, hL e he, List.mem_cons, Ne.symm he, false_or]
   split
   ·simp only [List.length_cons]; omega
   ·exact ih
structure PlanE (ops : Array Oper) (m : Nat) (E : List Nat) : Prop where
 nodup : E.Nodup
 lt : ∀ e ∈ E, e < m
 chain : ∀ e ∈ E, ∀ e' ∈ E, e < e' → reach ops ops.size e' e = true
def sgIs (sg : Option (Nat × Tr)) (j : Nat) : Bool := match sg with
 | some (x, _) => j == x
 | none => false
def sgA (P : Program) (ops : Array Oper) (sg : Option (Nat × Tr)) (σ : St) (K : St → Prop) : Prop := match sg with
 | none => True
 | some (x, t) => match ops[x]? with
  | some o => ∃ d, o.dst = some d ∧ treeA P ops t (σ.put (some d) .any) K
  | none => False
structure PlanL (ops : Array Oper) (m : Nat) (E LF : List Nat) (tr : Tr) (sg : Option (Nat × Tr)) : Prop where
 le : m ≤ ops.size
 lt : ∀ i o, ops[i]? = some o → ∀ k ∈ edges o, k < i
 head : ∀ i o, ops[i]? = some o → i < m → ∃ d, o.dst = some d ∧ d ∉ slotsG ops o ∧ ∀ j p s, j < m → j ≠ i → ops[j]? = some p → p.dst = some s → s ≠ d ∧ (s ∈ slotsG ops o → if j < i then reach ops ops.size i j = true else reach ops ops.size j i = true)
 tail : ∀ i o, ops[i]? = some o → m ≤ i → ∀ j, j < m → j ∉ LF → sgIs sg j = false → reach ops ops.size i j = true
 fr : ∀ j ∈ LF, j < m ∧ j ∉ E ∧ ∀ p, ops[j]? = some p → ∃ d, Front ops j p d
 tr : trOk ops true (List.range m) tr = true
 sg : ∀ x t, sg = some (x, t) → x < m ∧ x ∉ E ∧ x ∉ LF ∧ (∀ j ∈ LF, ∀ p, ops[j]? = some p → x ∉ edges p) ∧ trOk ops true ((List.range m).filter fun i => !(i == x)) t = true
def FrontC (P : Program) (o : Oper) (ρ : Operand → AV) (y : AV) : Prop :=
 ∀ (G : Nat → Status) (a : Act) (w : World), Good G w → (∀ x ∈ o.op.operands, VRel G w (ρ x) (a.eval x)) → ∃ v, VRel G w y v ∧ ∀ w', (execOp a.eval o).run P w' = .ok (.value v) w'
theorem head_runE {LF : List Nat} {tr : Tr} {sg : Option (Nat × Tr)} (hp : PlanL ops m E LF tr sg) (hE : PlanE ops m E) (h0 : True) (hN : ∀ e a w, e ≠ .normal → ¬ Q e a w) (hQ : ∀ σ' G' a' w', K σ' → SRel G0 w0 σ' G' a' w' → Q .normal a' w') (hvl : vs.length = m) (hap : Apart vs) (hC : ∀ j, (C j).length = (C 0).length)
    (hK : treeA P ops tr (puts { σ with boxes := σ.boxes.set i0 (C E.length) } vs) K) (hK2 : sgA P ops sg (puts { σ with boxes := σ.boxes.set i0 (C E.length) } vs) K)
    (hst : ∀ i o, i < m → ops[i]? = some o → ∃ d y, vs[i]? = some (d, y) ∧ o.dst = some d ∧ d < σ.n ∧
      if i ∈ E then EffC P σ i0 o d (puts σ (vs.take i)).ev (C (E.filter fun e => decide (e < i)).length) y (C ((E.filter fun e => decide (e < i)).length + 1)) else if i ∈ LF then FrontC P o (puts σ (vs.take i)).ev y else StepG P ops o d (puts σ (vs.take i)) (σ.boxes.set i0 (blankC E (C 0))) y)
    (hfr : ∀ i o d, ops[i]? = some o → i < m → o.dst = some d → creates o.op = true → (∀ j d' y, j ≠ i → vs[j]? = some (d', y) → y.allLeaf (freeLeaf d) = true) ∧ ∀ j, allLeafs (freeLeaf d) (C j) = true) :
    ∀ (fuel : Nat) (listed : Array Bool) (U : List Nat) (τ : St) (G : Nat → Status) (a : Act) (w : World), Left ops listed U → U.length = fuel → (∀ i, m ≤ i → listed.getD i false = false) →
      Closed ops (fun k => listed.getD k false) → AtE vs E C i0 (fun i => listed.getD i false) σ τ → SRel G0 w0 τ G a w →
      (∀ i o d, ops[i]? = some o → i < m → o.dst = some d → creates o.op = true → listed.getD i false = false → τ.free d = true) → wpAny P .any ops Q fuel listed a w := by
  have posAll : ∀ {L : Nat → Bool}, (∀ i, i < m → L i = true) → posE E L = E.length := fun {L} h => by
    unfold posE
    rw [List.filter_eq_self.2 fun e he => h e (hE.lt e he)]
  have done : ∀ {τ G a w} {L : Nat → Bool}, AtE vs E C i0 L σ τ → (∀ i, i < m → L i = true) → SRel G0 w0 τ G a w → SRel G0 w0 (puts { σ with boxes := σ.boxes.set i0 (C E.length) } vs) G a w := by
    intro τ G a w L hat hall h
    have hpa := puts_at m vs { σ with boxes := σ.boxes.set i0 (C E.length) } hap
    rw [List.take_of_length_le (by omega)] at hpa
    refine h.slotsEq (by rw [hpa.n, hat.n]) (by rw [hpa.boxes, hat.boxes, posAll hall]) fun s => ?_
    by_cases hs : ∀ (i d : Nat) (y : AV), vs[i]? = some (d, y) → d ≠ s
    · rw [hpa.rest s hs, hat.rest s hs]; rfl
    · have : ∃ (i : Nat) (y : AV), vs[i]? = some (s, y) := by
        apply Classical.byContradiction
        intro hcon
        exact hs fun i d y hi hds => hcon ⟨i, y, by rw [← hds]; exact hi⟩
      obtain ⟨i, y, hi⟩ := this
      have hil : i < m := by rw [← hvl]; exact (List.getElem?_eq_some_iff.1 hi).1
      rw [hpa.dst i s y hi, hat.dst i s y hi]
      simp [hil, hall i hil]
  have done2 : ∀ {τ G a w} {L : Nat → Bool} {x dx : Nat} {yx : AV}, AtE vs E C i0 L σ τ → x ∉ E → vs[x]? = some (dx, yx) → (∀ i, i < m → i ≠ x → L i = true) → SRel G0 w0 τ G a w → SRel G0 w0 ((puts { σ with boxes := σ.boxes.set i0 (C E.length) } vs).put (some dx) .any) G a w := by
    intro τ G a w L x dx yx hat hxE hx hall h
    have hpa := puts_at m vs { σ with boxes := σ.boxes.set i0 (C E.length) } hap
    rw [List.take_of_length_le (by omega)] at hpa
    have hpos : posE E L = E.length := by
      unfold posE
      rw [List.filter_eq_self.2 fun e he => hall e (hE.lt e he) fun h' => hxE (h' ▸ he)]
    have h2 := h.reput (d := dx) (x := .any) (.froz (.any _))
    refine h2.slotsEq (by rw [put_n, put_n, hpa.n, hat.n]) (by rw [put_boxes, put_boxes, hpa.boxes, hat.boxes, hpos]) fun s => ?_
    rw [get_put, get_put]
    by_cases hds : dx = s
    · rw [if_pos hds, if_pos hds]
    rw [if_neg hds, if_neg hds]
    by_cases hs : ∀ (i d : Nat) (y : AV), vs[i]? = some (d, y) → d ≠ s
    · rw [hpa.rest s hs, hat.rest s hs]; rfl
    · have : ∃ (i : Nat) (y : AV), vs[i]? = some (s, y) := by
        apply Classical.byContradiction
        intro hcon
        exact hs fun i d y hi hds => hcon ⟨i, y, by rw [← hds]; exact hi⟩
      obtain ⟨i, y, hi⟩ := this
      have hil : i < m := by rw [← hvl]; exact (List.getElem?_eq_some_iff.1 hi).1
      have hix : i ≠ x := fun h' => by subst h'; rw [hx] at hi; cases hi; exact hds rfl
      rw [hpa.dst i s y hi, hat.dst i s y hi]
      simp [hil, hall i hil hix]
  intro fuel
  induction fuel with
  | zero =>
    intro listed U τ G a w hl hU hm hc hat h _
    have hUn : U = [] := List.eq_nil_of_length_eq_zero hU
    subst hUn
    have hall : ∀ i, i < ops.size → listed.getD i false = true := fun i hi => by
      cases hb : listed.getD i false
      · have := (hl.mem i).2 ⟨hi, hb⟩; simp at this
      · rfl
    have hms : m = ops.size := by
      apply Classical.byContradiction
      intro hne
      have := hp.le
      have h1 := hall m (by omega)
      rw [hm m (Nat.le_refl m)] at h1; cases h1
    exact (tree_run (P := P) h0 hp.lt hN hQ tr true (List.range m) listed [] _ G a w hp.tr hl hc (fun i hi => by rw [hall i hi]; simp; omega) hK (done hat (fun i hi => hall i (by have := hp.le; omega)) h)).1 rfl
  | succ fuel ih =>
    intro listed U τ G a w hl hU hm hc hat h hfree
    have hUn : U ≠ [] := by intro h; rw [h] at hU; simp at hU
    by_cases hdone : ∀ i, i < m → listed.getD i false = true
    · have := (tree_run (P := P) h0 hp.lt hN hQ tr true (List.range m) listed U _ G a w hp.tr hl hc (fun i hi => by
        simp only [List.contains_iff_mem, List.mem_range]
        refine ⟨fun hb => ?_, fun hlt => hdone i hlt⟩
        apply Classical.byContradiction
        intro hge
        rw [hm i (by omega)] at hb; cases hb) hK (done hat hdone h)).1 rfl
      rw [hU] at this; exact this
    by_cases hsg : ∃ x t, sg = some (x, t) ∧ ∀ i, i < m → i ≠ x → listed.getD i false = true
    · obtain ⟨x, t, rfl, hall⟩ := hsg
      obtain ⟨hxm, hxE, hxL, _, ht⟩ := hp.sg x t rfl
      obtain ⟨o, ho⟩ : ∃ p, ops[x]? = some p := ⟨ops[x]'(by have := hp.le; omega), by have := hp.le; simp [show x < ops.size by omega]⟩
      obtain ⟨dx, yx, hv, hd, _, _⟩ := hst x o hxm ho
      have hxf : listed.getD x false = false := by
        cases hb : listed.getD x false
        · rfl
        · exact absurd (fun i hi => by by_cases hix : i = x; · rw [hix]; exact hb
                                       · exact hall i hi hix) hdone
      simp only [sgA, ho] at hK2
      obtain ⟨d', hd', hK2⟩ := hK2
      rw [hd] at hd'; cases hd'
      have := (tree_run (P := P) h0 hp.lt hN hQ t true _ listed U _ G a w ht hl hc (fun i hi => by
        simp only [List.contains_iff_mem, List.mem_filter, List.mem_range, Bool.not_eq_true', beq_eq_false_iff_ne, ne_eq]
        refine ⟨fun hb => ⟨?_, fun hix => by rw [hix, hxf] at hb; cases hb⟩, fun ⟨h1, h2⟩ => hall i h1 h2⟩
        apply Classical.byContradiction
        intro hge
        rw [hm i (by omega)] at hb; cases hb) hK2 (done2 hat hxE hv hall h)).1 rfl
      rw [hU] at this; exact this
    · suffices key : ∀ i, i ∈ Region.ready .any ops listed → i < m → (i ∈ LF → wpAny P .any ops Q (fuel + 1) listed a w) ∧ (i ∉ LF → Go.wpOp P ops Q i (wpAny P .any ops Q fuel (listed.setIfInBounds i true)) a w) by
        by_cases hLF : ∃ j, j ∈ LF ∧ j ∈ Region.ready .any ops listed
        · obtain ⟨j, h1, h2⟩ := hLF
          exact (key j h2 (hp.fr j h1).1).1 h1
        · refine ⟨fun hr => absurd hr (some_ready hl hp.lt hUn), fun i hi => (key i hi ?_).2 fun hiL => hLF ⟨i, hiL, hi⟩⟩
          obtain ⟨o, ho, h1, h2⟩ := (ready_iff hl.size).1 hi
          apply Classical.byContradiction
          intro hge
          have hall : ∀ j, j < m → sgIs sg j = false → listed.getD j false = true := fun j => by
            refine Nat.strongRecOn (motive := fun j => j < m → sgIs sg j = false → listed.getD j false = true) j ?_
            intro j ihj hjm hjs
            by_cases hjL : j ∈ LF
            · obtain ⟨p, hpj⟩ : ∃ p, ops[j]? = some p := ⟨ops[j]'(by have := hp.le; omega), by have := hp.le; simp [show j < ops.size by omega]⟩
              cases hb : listed.getD j false
              · exact absurd ⟨j, hjL, (ready_iff hl.size).2 ⟨p, hpj, hb, fun k hk => by
                  have := hp.lt j p hpj k hk
                  refine ihj k this (by omega) ?_
                  cases hsg' : sg with
                  | none => rfl
                  | some q =>
                    obtain ⟨x, t⟩ := q
                    have := (hp.sg x t hsg').2.2.2.1 j hjL p hpj
                    simp only [sgIs, beq_eq_false_iff_ne, ne_eq]
                    exact fun hkx => this (hkx ▸ hk)⟩⟩ hLF
              · rfl
            · exact reach_listed hc ops.size i j o ho h2 (hp.tail i o ho (by omega) j hjm hjL hjs)
          cases hsg' : sg with
          | none => exact hdone fun j hj => hall j hj (by rw [hsg']; rfl)
          | some q =>
            obtain ⟨x, t⟩ := q
            exact hsg ⟨x, t, hsg', fun j hj hjx => hall j hj (by rw [hsg']; simpa [sgIs] using hjx)⟩
      intro i hi him
      obtain ⟨o, ho, h1, h2⟩ := (ready_iff hl.size).1 hi
      have hlt := (Array.getElem?_eq_some_iff.1 ho).1
      obtain ⟨d, y, hv, hd, hdn, hstep⟩ := hst i o him ho
      obtain ⟨d', hd', hself, hpair⟩ := hp.head i o ho him
      rw [hd] at hd'; cases hd'
      have hmem : i ∈ U := (hl.mem i).2 ⟨hlt, h1⟩
      obtain ⟨l1, l2⟩ := hl.step hmem
      have hsz : i < listed.size := by rw [hl.size]; exact hlt
      have hsame : ∀ s ∈ slotsG ops o, (puts σ (vs.take i)).get s = τ.get s := by
        intro s hsm
        have hpa := puts_at i vs σ hap
        by_cases hs : ∀ (i d : Nat) (y : AV), vs[i]? = some (d, y) → d ≠ s
        · rw [hpa.rest s hs, hat.rest s hs]
        · have : ∃ (j : Nat) (y : AV), vs[j]? = some (s, y) := by
            apply Classical.byContradiction
            intro hcon
            exact hs fun i d y hi hds => hcon ⟨i, y, by rw [← hds]; exact hi⟩
          obtain ⟨j, y', hj⟩ := this
          have hjl : j < m := by rw [← hvl]; exact (List.getElem?_eq_some_iff.1 hj).1
          obtain ⟨p, hpj⟩ : ∃ p, ops[j]? = some p := ⟨ops[j]'(by have := hp.le; omega), by have := hp.le; simp [show j < ops.size by omega]⟩
          obtain ⟨d'', y'', hv'', hds'', _⟩ := hst j p hjl hpj
          rw [hj] at hv''; cases hv''
          have hji : j ≠ i := fun hji => by subst hji; rw [hv] at hj; cases hj; exact hself hsm
          have hre := (hpair j p s hjl hji hpj hds'').2 hsm
          rw [hpa.dst j s y' hj, hat.dst j s y' hj]
          by_cases hjlt : j < i
          · rw [if_pos hjlt] at hre
            have := reach_listed hc ops.size i j o ho h2 hre
            simp [hjlt, this]
          · rw [if_neg hjlt] at hre
            have hjf : listed.getD j false = false := by
              cases hb : listed.getD j false
              · rfl
              · have := reach_listed hc ops.size j i p hpj (fun k hk => hc j p hpj hb k hk) hre
                rw [h1] at this; cases this
            simp [hjlt, hjf]
      have hevs : ∀ x ∈ o.op.operands, (puts σ (vs.take i)).ev x = τ.ev x := by
        intro x hx
        cases x with
        | tmp s =>
          simp only [St.ev]
          refine hsame s (List.mem_append.2 (.inr ?_))
          unfold slotsOf
          exact List.mem_filterMap.2 ⟨.tmp s, by simpa using hx, rfl⟩
        | const v => rfl
        | func f => rfl
        | global g => rfl
      -- the frame behind the step
      have hLi : (listed.setIfInBounds i true).getD i false = true := by rw [set_getD hsz]; simp
      have hLj : ∀ j, j ≠ i → (listed.setIfInBounds i true).getD j false = listed.getD j false := fun j hj => by rw [set_getD hsz, if_neg (Ne.symm hj)]
      have hpos := posE_step (L := fun k => listed.getD k false) (L' := fun k => (listed.setIfInBounds i true).getD k false) hE.nodup hLj h1 hLi
      have hgo : ∀ {τ' G' a' w'}, τ'.n = τ.n → τ'.tmps = putT τ.tmps d y → τ'.boxes = σ.boxes.set i0 (C (posE E fun k => (listed.setIfInBounds i true).getD k false)) → SRel G0 w0 τ' G' a' w' → wpAny P .any ops Q fuel (listed.setIfInBounds i true) a' w' := by
        intro τ' G' a' w' e1 e2 e3 hs'
        have hget : ∀ s, τ'.get s = if d = s then y else τ.get s := fun s => by unfold St.get; rw [e2, lookT_put]
        refine ih _ _ τ' G' _ _ l1 (by omega) (fun j hj => ?_) (hc.step hsz ho h2) ⟨by rw [e1, hat.n], e3, fun j d' y' hj => ?_, fun s hs => ?_⟩ hs' (fun j oj dj hoj hjm hdj hcr hjf => ?_)
        · rw [set_getD hsz, if_neg (by omega)]; exact hm j hj
        · rw [hget]
          by_cases hij : j = i
          · subst hij; rw [hv] at hj; cases hj; simp [hLi]
          · rw [if_neg (hap i j d y d' y' hv hj (Ne.symm hij)), hat.dst j d' y' hj, hLj j hij]
        · rw [hget, if_neg (hs i d y hv), hat.rest s hs]
        · by_cases hij : j = i
          · subst hij; rw [hLi] at hjf; cases hjf
          · rw [hLj j hij] at hjf
            have hf := hfree j oj dj hoj hjm hdj hcr hjf
            obtain ⟨f1, f2⟩ := hfr j oj dj hoj hjm hdj hcr
            simp only [St.free, Bool.and_eq_true, decide_eq_true_eq] at hf ⊢
            refine ⟨hf.1, by rw [e2]; exact freeT_put (f1 i d y (Ne.symm hij) hv) hf.2.1, ?_⟩
            rw [e3]
            have hfb := hf.2.2
            rw [hat.boxes] at hfb
            have hset : ∀ (bx : List (List AV)) (k : Nat) (c c' : List AV), freeB dj (bx.set k c) = true → allLeafs (freeLeaf dj) c' = true → freeB dj (bx.set k c') = true := by
              intro bx
              induction bx with
              | nil => intro k c c' _ _; rfl
              | cons b bx ihb =>
                intro k c c' h1 h2
                cases k with
                | zero => simp only [List.set_cons_zero, freeB, Bool.and_eq_true] at h1 ⊢; exact ⟨h2, h1.2⟩
                | succ k => simp only [List.set_cons_succ, freeB, Bool.and_eq_true] at h1 ⊢; exact ⟨h1.1, ihb k c c' h1.2 h2⟩
            exact hset _ _ _ _ hfb (f2 _)
      refine ⟨fun hiL => ?_, fun hnL => ?_⟩
      · obtain ⟨_, hiE, hfr'⟩ := hp.fr i hiL
        obtain ⟨d', hfront⟩ := hfr' o ho
        obtain rfl : d = d' := by have := hfront.dst; rw [hd] at this; simpa using this
        rw [if_neg hiE, if_pos hiL] at hstep
        rw [if_neg hiE, Nat.add_zero] at hpos
        obtain ⟨v, hv', hex⟩ := hstep G a w h.good (fun x hx => by rw [hevs x hx]; exact h.ev x)
        have hs' := h.add (.refl G w) h.good (fun _ _ h => h) (d := some d) (x := y) (v := v) (by simp [dstOk, hat.n, hdn]) hv'
        exact front_run hN hfront fuel listed a w v hl.size hc hi hex (hgo (τ' := τ.put (some d) y) rfl rfl (by rw [put_boxes, hat.boxes, hpos]) hs')
      by_cases hiE : i ∈ E
      case neg =>
        rw [if_neg hiE, if_neg hnL] at hstep
        rw [if_neg hiE, Nat.add_zero] at hpos
        have hops : ∀ x ∈ o.op.operands, ∀ {G}, SRel G0 w0 τ G a w → VRel G w ((puts σ (vs.take i)).ev x) (a.eval x) := fun x hx G h => by rw [hevs x hx]; exact h.ev x
        have hgo2 : ∀ {G' a' w'}, SRel G0 w0 (τ.put (some d) y) G' a' w' → wpAny P .any ops Q fuel (listed.setIfInBounds i true) a' w' := fun hs' =>
          hgo (τ' := τ.put (some d) y) rfl rfl (by rw [put_boxes, hat.boxes, hpos]) hs'
        have hrun : StepOk P o d (puts σ (vs.take i)).ev (σ.boxes.set i0 (blankC E (C 0))) y → o.wp P a w (wpAny P .any ops Q fuel (listed.setIfInBounds i true)) Q := by
          intro hstep
          have key : ∀ {G}, SRel G0 w0 τ G a w → (creates o.op = true → Fresh d G) → o.wp P a w (wpAny P .any ops Q fuel (listed.setIfInBounds i true)) Q := fun {G} h hfr' =>
            hstep _ G a w h.good ((show BRel _ G w (σ.boxes.set i0 (C (posE E fun k => listed.getD k false))) from by rw [← hat.boxes]; exact h.boxes).blank (hC _) fun hE0 => by rw [hE0]; rfl) hfr' (fun x hx => hops x hx h) _ _ fun v w' G' g1 g2 g3 g4 =>
              hgo2 (by rw [hd]; exact h.add g2 g3 g4.boxes (by simp [dstOk, hat.n, hdn]) g1)
          by_cases hcr : creates o.op = true
          · obtain ⟨hs, hf⟩ := h.fresh (hfree i o d ho him hd hcr h1) h0
            exact key hs fun _ => hf
          · exact key h fun hc' => absurd hc' hcr
        simp only [Go.wpOp, ho]
        rcases hstep with ⟨hg, hstep⟩ | ⟨j, want, g, c, hg, hgs, hgv, hc2⟩ | ⟨j, want, g, vs', hg, hgs, hgv, rfl⟩
        · rw [if_pos (by simp [Region.wanted, hg])]
          exact .inl (hrun hstep)
        · have hgm : g ∈ slotsG ops o := by simp [slotsG, guardS, hg, hgs]
          have hv2 := h.slots g
          rw [← hsame g hgm, hgv] at hv2
          have hy := yielded_bool hgs hv2.sc_inv
          rcases hc2 with ⟨rfl, hstep⟩ | ⟨hne, rfl⟩
          · rw [if_pos (by simp [Region.wanted, hg, hy])]
            exact .inl (hrun hstep)
          · rw [if_neg (by simp [Region.wanted, hg, hy, hne])]
            have hs' := h.add (.refl G w) h.good (fun _ _ h => h) (d := o.dst) (x := .sc undef) (v := undef) (by rw [hd]; simp [dstOk, hat.n, hdn]) (.froz (.sc _))
            exact hgo2 (G' := G) (by rw [hd] at hs' ⊢; exact hs')
        · have hgm : g ∈ slotsG ops o := by simp [slotsG, guardS, hg, hgs]
          have hv2 := h.slots g
          rw [← hsame g hgm, hgv] at hv2
          have hy := yielded_none hgs hv2.sc_inv
          rw [if_neg (by simp [Region.wanted, hg, hy])]
          have hs' := h.add (.refl G w) h.good (fun _ _ h => h) (d := o.dst) (x := .sc undef) (v := undef) (by rw [hd]; simp [dstOk, hat.n, hdn]) (.froz (.sc _))
          exact hgo2 (G' := G) (by rw [hd] at hs' ⊢; exact hs')
      case pos =>
        rw [if_pos hiE] at hstep
        rw [if_pos hiE] at hpos
        obtain ⟨hg, fid, args, As, r, c1, hop, hpb, hnt, hnt0, hcon, hr1, hr2, hye, hce⟩ := hstep
        -- all effects ahead of it are listed, none behind it is
        have hposi : posE E (fun k => listed.getD k false) = (E.filter fun e => decide (e < i)).length := by
          unfold posE
          congr 1
          refine List.filter_congr fun e he => ?_
          rcases Nat.lt_trichotomy e i with hlt' | heq | hgt
          · have := reach_listed hc ops.size i e o ho h2 (hE.chain e he i hiE hlt')
            simp [hlt', this]
          · subst heq; simp [h1]
          · have hnl : listed.getD e false = false := by
              cases hb : listed.getD e false
              · rfl
              · have hel := hE.lt e he
                obtain ⟨p, hpe⟩ : ∃ p, ops[e]? = some p := ⟨ops[e]'(by have := hp.le; omega), by have := hp.le; simp [show e < ops.size by omega]⟩
                have := reach_listed hc ops.size e i p hpe (fun k hk => hc e p hpe hb k hk) (hE.chain i hiE e he hgt)
                rw [h1] at this; cases this
            simp [hnl]; omega
        have hargs : args.toList.map (puts σ (vs.take i)).ev = args.toList.map τ.ev := by
          refine List.map_congr_left fun x hx => hevs x ?_
          simp [hop, Op.operands, Call.operands]
          exact .inr (by simpa using hx)
        rw [hargs] at hpb hnt hcon
        have hcr : creates o.op = true := by simp [creates, hop]
        have hfd := hfree i o d ho him hd hcr h1
        -- the variable is there
        have hva : ∀ G, SRel G0 w0 τ G a w → PW (VRel G w) (args.toList.map τ.ev) (args.map a.eval).toList := fun G hs => by
          rw [Array.toList_map]
          refine ⟨by simp, fun j x u hx hu => ?_⟩
          simp only [List.getElem?_map] at hx hu
          cases hj : args.toList[j]? with
          | none => simp [hj] at hx
          | some c => simp [hj] at hx hu; subst hx; subst hu; exact hs.ev c
        have hi0 : i0 < σ.boxes.length := by
          obtain ⟨b, hb⟩ := pbss_real (i := i0) _ _ (hva G h) (dedup_mem _ (by rw [hpb]; simp))
          have := h.blt b i0 hb
          rw [hat.boxes] at this; simpa using this
        have hbx : getAll τ.boxes [i0] = some [C (posE E fun k => listed.getD k false)] := by
          simp only [getAll, hat.boxes, List.getElem?_set, if_true, hi0]
        have hlen : τ.boxes.length = σ.boxes.length := by rw [hat.boxes]; simp
        rw [← hposi] at hcon hnt0 hce
        have hcall : CallB P fid (args.toList.map τ.ev) [i0] d τ fun σ' => σ'.n = τ.n ∧ σ'.tmps = putT τ.tmps d y ∧ σ'.boxes = σ.boxes.set i0 (C (posE E (fun k => listed.getD k false) + 1)) := by
          refine ⟨hfd, by rw [hat.n]; exact hdn, hnt, rfl, _, hbx, hnt0, hcon.mono ?_⟩
          rintro r' bx ⟨rfl, rfl⟩
          refine ⟨hr1, hr2, rfl, by rw [hlen, ← hye]; rfl, ?_⟩
          rw [put_boxes]
          have hce' : mapB (outLeaf (64 * (d + 1)) [i0] σ.boxes.length) [c1] = [C (posE E (fun k => listed.getD k false) + 1)] := hce.symm
          simp only [List.length_singleton, List.take_succ_cons, List.take_zero, List.drop_succ_cons, List.drop_nil, hlen, hce', mapB, setAll, List.append_nil]
          rw [hat.boxes, List.set_set]
        obtain ⟨⟨fn, hfn, hname, hbody⟩, hcalls⟩ := CallB.sound hcall h h0 hva (fun G hs j hj => by
          simp at hj; subst hj
          exact pbss_real _ _ (hva G hs) (dedup_mem _ (by rw [hpb]; simp)))
        have hrun : (execOp a.eval o).run P w = .ok (.enter fid (args.map a.eval)) w := by
          have hname' : ¬ fn.name = "runtime.NumGoroutine" := by simpa using hname
          have hbody' : ¬ fn.body = none := by intro h; rw [h] at hbody; simp at hbody
          have hfe : a.eval (.func fid) = .func (.func fid) #[] #[] := rfl
          simp [execOp, hop, resolve, hfe, Deferred.ofValue, invoke, callFunc, hfn, hname', hbody']
        simp only [Go.wpOp, ho]
        rw [if_pos (by simp [Region.wanted, hg])]
        refine .inl ?_
        unfold Oper.wp
        rw [hrun, Oper.upon_enter]
        refine hcalls.mono ?_
        rintro e w' ⟨v, σ', G', rfl, ⟨e1, e2, e3⟩, hs'⟩
        exact hgo e1 e2 (by rw [e3, hpos]) (by rw [hd]; exact hs')
end
def EffK (P : Program) (n0 i0 : Nat) (o : Oper) (σ : St) (c : List AV) (K : St → List AV → Prop) : Prop :=
 ∃ d y c', o.dst = some d ∧ d < σ.n ∧ EffC P ⟨0, [], List.replicate n0 []⟩ i0 o d σ.ev c y c' ∧ c'.length = c.length ∧ allLeafs noTag c' = true ∧ K (σ.put (some d) y) c'
def frB (P : Program) (o : Oper) (σ : St) (K : St → Prop) : Prop := frA P (some o) σ K
theorem frB_sound {P : Program} {o : Oper} {σ : St} {K : St → Prop} (h : frB P o σ K) : ∃ d y, o.dst = some d ∧ d < σ.n ∧ K (σ.put (some d) y) ∧ FrontC P o σ.ev y := by
 unfold frB frA at h
 split at h
 ·rename_i d op T pos af g hj
  cases hj
  obtain ⟨hdn, h⟩ := h
  obtain ⟨y, hK, hy⟩ := frontW_sound' (p := ⟨some d, op, T, pos, af, g⟩) h
  exact ⟨d, y, rfl, hdn, hK, hy⟩
 ·exact h.elim
def headE (P : Program) (ops : Array Oper) (n0 i0 : Nat) (E LF : List Nat) : Nat → List Oper → St → List AV → (St → List AV → Prop) → Prop
 | _, [], σ, c, K => K σ c
 | k, o :: r, σ, c, K => if E.contains k = true then EffK P n0 i0 o σ c fun σ' c' => headE P ops n0 i0 E LF (k + 1) r σ' c' K else if LF.contains k = true then frB P o σ fun σ' => headE P ops n0 i0 E LF (k + 1) r σ' c K else headG P ops o σ fun σ' => headE P ops n0 i0 E LF (k + 1) r σ' c K
def cntE (E : List Nat) (i : Nat) : Nat := posE E fun e => decide (e < i)
theorem cntE_succ {E : List Nat} (hn : E.Nodup) (i : Nat) : cntE E (i + 1) = cntE E i + if i ∈ E then 1 else 0 :=
 posE_step hn (fun j hj => by simp only [decide_eq_decide]; omega) (by simp) (by simp)
section
variable {P : Program} {ops : Array Oper} {n0 i0 : Nat} {E LF : List Nat}
theorem headE_vals (hn : E.Nodup) : ∀ (l : List Oper) (k : Nat) (σ : St) (c : List AV) (K : St → List AV → Prop), headE P ops n0 i0 E LF k l σ c K → allLeafs noTag c = true → ∃ (vs : List (Nat × AV)) (C : Nat → List AV), vs.length = l.length ∧ (∀ j, j ≤ cntE E k → C j = c) ∧ (∀ j, (C j).length = c.length ∧ allLeafs noTag (C j) = true) ∧ K (puts σ vs) (C (cntE E (k + l.length))) ∧
  ∀ i o, l[i]? = some o → ∃ d y, vs[i]? = some (d, y) ∧ o.dst = some d ∧ d < σ.n ∧
   if k + i ∈ E then EffC P ⟨0, [], List.replicate n0 []⟩ i0 o d (puts σ (vs.take i)).ev (C (cntE E (k + i))) y (C (cntE E (k + i) + 1)) else if k + i ∈ LF then FrontC P o (puts σ (vs.take i)).ev y else StepG P ops o d (puts σ (vs.take i)) σ.boxes y
 | [], k, σ, c, K, h, hc => ⟨[], fun _ => c, rfl, fun _ _ => rfl, fun _ => ⟨rfl, hc⟩, h, fun i o hi => by simp at hi⟩
 | o :: l, k, σ, c, K, h, hc => by
  unfold headE at h
  have hcs := cntE_succ hn k
  by_cases hk : k ∈ E
  ·rw [if_pos (by simpa using hk)] at h
   rw [if_pos hk] at hcs
   obtain ⟨d, y, c', h1, h2, h3, h4, h5, h6⟩ := h
   obtain ⟨vs, C, g1, g2, g3, g4, g5⟩ := headE_vals hn l (k + 1) _ c' K h6 h5
   refine ⟨(d, y) :: vs, fun j => if j ≤ cntE E k then c else C j, by simp [g1], fun j hj => if_pos hj, fun j => ?_, ?_, fun i o' hi => ?_⟩
   ·simp only
    split
    ·exact ⟨rfl, hc⟩
    ·exact ⟨(g3 j).1.trans h4, (g3 j).2⟩
   ·simp only [puts, List.length_cons]
    rw [show k + (l.length + 1) = k + 1 + l.length by omega]
    have : ¬ cntE E (k + 1 + l.length) ≤ cntE E k := by
     have : ∀ t, cntE E (k + 1) ≤ cntE E (k + 1 + t) := fun t => by
      induction t with
      | zero => exact Nat.le_refl _
      | succ t ih => have := cntE_succ hn (k + 1 + t); rw [show k + 1 + (t + 1) = k + 1 + t + 1 by omega]; omega
     have := this l.length; omega
    rw [if_neg this]; exact g4
   ·cases i with
    | zero =>
     simp at hi; subst hi
     refine ⟨d, y, rfl, h1, h2, ?_⟩
     rw [Nat.add_zero, if_pos hk]
     dsimp only
     rw [if_pos (Nat.le_refl _), if_neg (by omega), ← hcs, g2 _ (Nat.le_refl _)]
     exact h3
    | succ i =>
     obtain ⟨d', y', k1, k2, k3, k4⟩ := g5 i o' (by simpa using hi)
     rw [put_n] at k3
     refine ⟨d', y', by simpa using k1, k2, k3, ?_⟩
     rw [show k + (i + 1) = k + 1 + i by omega]
     have hge : ∀ t, cntE E (k + 1) ≤ cntE E (k + 1 + t) := fun t => by
      induction t with
      | zero => exact Nat.le_refl _
      | succ t ih => have := cntE_succ hn (k + 1 + t); rw [show k + 1 + (t + 1) = k + 1 + t + 1 by omega]; omega
     have := hge i
     dsimp only
     rw [if_neg (show ¬ cntE E (k + 1 + i) ≤ cntE E k by omega), if_neg (show ¬ cntE E (k + 1 + i) + 1 ≤ cntE E k by omega)]
     rw [put_boxes] at k4
     exact k4
  ·rw [if_neg (by simpa using hk)] at h
   rw [if_neg hk, Nat.add_zero] at hcs
   obtain ⟨d, y, h1, h2, h3, h4⟩ : ∃ d y, o.dst = some d ∧ d < σ.n ∧ headE P ops n0 i0 E LF (k + 1) l (σ.put (some d) y) c K ∧ if k ∈ LF then FrontC P o σ.ev y else StepG P ops o d σ σ.boxes y := by
    by_cases hkL : k ∈ LF
    ·rw [if_pos (by simpa using hkL)] at h
     obtain ⟨d, y, h1, h2, h3, h4⟩ := frB_sound h
     exact ⟨d, y, h1, h2, h3, by rw [if_pos hkL]; exact h4⟩
    ·rw [if_neg (by simpa using hkL)] at h
     obtain ⟨d, y, h1, h2, h3, h4⟩ := headG_sound h
     exact ⟨d, y, h1, h2, h3, by rw [if_neg hkL]; exact h4⟩
   obtain ⟨vs, C, g1, g2, g3, g4, g5⟩ := headE_vals hn l (k + 1) _ c K h3 hc
   refine ⟨(d, y) :: vs, C, by simp [g1], fun j hj => g2 j (by omega), g3, ?_, fun i o' hi => ?_⟩
   ·simp only [puts, List.length_cons]
    rw [show k + (l.length + 1) = k + 1 + l.length by omega]; exact g4
   ·cases i with
    | zero =>
     simp at hi; subst hi
     refine ⟨d, y, rfl, h1, h2, ?_⟩
     rw [Nat.add_zero, if_neg hk]; exact h4
    | succ i =>
     obtain ⟨d', y', k1, k2, k3, k4⟩ := g5 i o' (by simpa using hi)
     rw [put_n] at k3
     rw [put_boxes] at k4
     refine ⟨d', y', by simpa using k1, k2, k3, ?_⟩
     rw [show k + (i + 1) = k + 1 + i by omega]; exact k4
def freeBut (d : Nat) : List (Nat × AV) → Bool
 | [] => true
 | (s, v) :: r => (s == d || v.allLeaf (freeLeaf d)) && freeBut d r
def freeOthers (l : List (Nat × AV)) : List Nat → Bool
 | [] => true
 | d :: r => freeBut d l && freeOthers l r
theorem freeBut_look {d : Nat} : ∀ {l : List (Nat × AV)}, freeBut d l = true → ∀ s, s ≠ d → (lookT l s).allLeaf (freeLeaf d) = true
 | [], _, _, _ => rfl
 | (s', v) :: r, h, s, hs => by
  simp only [freeBut, Bool.and_eq_true, Bool.or_eq_true, beq_iff_eq] at h
  unfold lookT
  split
  ·rename_i he
   rcases h.1 with h1 | h1
   ·exact absurd (he.symm.trans h1) (by intro e; exact hs e)
   ·exact h1
  ·exact freeBut_look h.2 s hs
theorem freeOthers_mem {l : List (Nat × AV)} : ∀ {ds : List Nat}, freeOthers l ds = true → ∀ d ∈ ds, freeBut d l = true
 | d' :: r, h, d, hd => by
  simp only [freeOthers, Bool.and_eq_true] at h
  rcases List.mem_cons.1 hd with rfl | hd
  ·exact h.1
  ·exact freeOthers_mem h.2 d hd
theorem noTag_free {d : Nat} : ∀ (x : AV), noTag x = true → freeLeaf d x = true := fun x h => by
 cases x <;> simp [noTag, freeLeaf] at h ⊢
 all_goals (first | (unfold root; omega) | skip)
def nodupE : List Nat → Bool
 | [] => true
 | e :: r => !r.contains e && nodupE r
theorem nodupE_spec : ∀ {E : List Nat}, nodupE E = true → E.Nodup
 | [], _ => List.nodup_nil
 | e :: r, h => by
  simp only [nodupE, Bool.and_eq_true, Bool.not_eq_true'] at h
  exact List.nodup_cons.2 ⟨by simpa using h.1, nodupE_spec h.2⟩
def effOk (ops : Array Oper) (m : Nat) (E : List Nat) : Bool :=
 nodupE E && E.all (fun e => decide (e < m)) && E.all fun e => E.all fun e' => !decide (e < e') || reach ops ops.size e' e
def lateOk (ops : Array Oper) (m : Nat) (E LF : List Nat) (tr : Tr) (sg : Option (Nat × Tr)) : Bool :=
 decide (m ≤ ops.size) && ((List.range ops.size).all (fun i => match ops[i]? with
  | none => false
  | some o => if i < m then headOkG ops m i o else (edges o).all (fun k => decide (k < i)) && (List.range m).all fun j => LF.contains j || (sgIs sg j || reach ops ops.size i j)) &&
 (LF.all (fun j => decide (j < m) && (!E.contains j && match ops[j]? with | none => false | some p => frontOk ops j p)) && (trOk ops true (List.range m) tr && match sg with
  | none => true
  | some (x, t) => decide (x < m) && (!E.contains x && (!LF.contains x && ((LF.all fun j => match ops[j]? with | none => false | some p => !(edges p).contains x) && trOk ops true ((List.range m).filter fun i => !(i == x)) t))))))
theorem lateOk_plan {ops : Array Oper} {m : Nat} {E LF : List Nat} {tr : Tr} {sg : Option (Nat × Tr)} (h : lateOk ops m E LF tr sg = true) : PlanL ops m E LF tr sg := by
 simp only [lateOk, Bool.and_eq_true, decide_eq_true_eq, List.all_eq_true, List.mem_range, Bool.not_eq_true'] at h
 obtain ⟨h1, h2, h3, h4, h5⟩ := h
 have hof : ∀ i o, ops[i]? = some o → (if i < m then headOkG ops m i o else (edges o).all (fun k => decide (k < i)) && (List.range m).all fun j => LF.contains j || (sgIs sg j || reach ops ops.size i j)) = true := fun i o ho => by
  have := h2 i (Array.getElem?_eq_some_iff.1 ho).1
  rw [ho] at this; simpa using this
 refine ⟨h1, fun i o ho k hk => ?_, fun i o ho hi => ?_, fun i o ho hi j hj hjL hjs => ?_, fun j hj => ⟨(h3 j hj).1, by simpa using (h3 j hj).2.1, fun p hp => ?_⟩, h4, fun x t hsg => ?_⟩
 ·have := hof i o ho
  split at this
  ·simp only [headOkG, Bool.and_eq_true, List.all_eq_true, decide_eq_true_eq] at this
   exact this.1 k hk
  ·simp only [Bool.and_eq_true, List.all_eq_true, decide_eq_true_eq] at this
   exact this.1 k hk
 ·have := hof i o ho
  rw [if_pos hi] at this
  simp only [headOkG, Bool.and_eq_true] at this
  obtain ⟨_, g3⟩ := this
  split at g3
  ·cases g3
  ·rename_i d hd
   simp only [Bool.and_eq_true, List.all_eq_true, List.mem_range, Bool.not_eq_true', Bool.or_eq_true, beq_iff_eq] at g3
   refine ⟨d, hd, by simpa using g3.1, fun j p s hj hji hp hs => ?_⟩
   have := (g3.2 j hj).resolve_left hji
   simp only [hp, hs, Bool.and_eq_true, bne_iff_ne, ne_eq, Bool.or_eq_true, Bool.not_eq_true'] at this
   refine ⟨this.1, fun hm => ?_⟩
   have h' := this.2.resolve_left (by simpa using hm)
   split at h'
   ·rename_i hlt; rw [if_pos hlt]; exact h'
   ·rename_i hlt; rw [if_neg hlt]; exact h'
 ·have := hof i o ho
  rw [if_neg (by omega)] at this
  simp only [Bool.and_eq_true, List.all_eq_true, List.mem_range, Bool.or_eq_true] at this
  exact ((this.2 j hj).resolve_left (by simpa using hjL)).resolve_left (by rw [hjs]; simp)
 ·have := (h3 j hj).2.2
  rw [hp] at this
  exact frontOk_front hp this
 ·subst hsg
  simp only [Bool.and_eq_true, decide_eq_true_eq, Bool.not_eq_true', List.all_eq_true] at h5
  refine ⟨h5.1, by simpa using h5.2.1, by simpa using h5.2.2.1, fun j hj p hp => ?_, h5.2.2.2.2⟩
  have := h5.2.2.2.1 j hj
  rw [hp] at this
  simpa using this
theorem puts_eq : ∀ (vs : List (Nat × AV)) (σ : St) (b : List (List AV)), puts { σ with boxes := b } vs = { puts σ vs with boxes := b }
 | [], σ, b => rfl
 | p :: r, σ, b => by simp only [puts]; exact puts_eq r (σ.put (some p.1) p.2) b
theorem puts_boxes : ∀ (vs : List (Nat × AV)) (σ : St), (puts σ vs).boxes = σ.boxes
 | [], σ => rfl
 | p :: r, σ => by simp only [puts]; rw [puts_boxes r, put_boxes]
theorem puts_ev (vs : List (Nat × AV)) (σ : St) (b : List (List AV)) : (puts { σ with boxes := b } vs).ev = (puts σ vs).ev := by
 funext x; rw [puts_eq]; cases x <;> rfl
theorem puts_get (vs : List (Nat × AV)) (σ : St) (b : List (List AV)) (s : Nat) : (puts { σ with boxes := b } vs).get s = (puts σ vs).get s := by rw [puts_eq]; rfl
def DrawN (P : Program) (ops : Array Oper) (σ : St) (K : St → Prop) : Prop :=
 ∀ (G0 : Orig) (w0 : World) (G : Nat → Status) (a : Act) (w : World) (Q : Exit → Act → World → Prop), True → SRel G0 w0 σ G a w → (∀ e a w, e ≠ .normal → ¬ Q e a w) → (∀ σ' G' a' w', K σ' → SRel G0 w0 σ' G' a' w' → Q .normal a' w') → wpAny P .any ops Q ops.size (Array.replicate ops.size false) a w
theorem DrawK.ofN {σ : St} {K : St → Prop} (hm : P.follows .mixedOrders = true) (h : DrawN P ops σ K) : DrawK P ops σ K := by
 intro G0 w0 G a w id Q h0 hs hQ
 exact wp_region_any hm (wpAny_normal _ _ _ _ (h G0 w0 G a _ _ h0 (hs.drawn (w.drawn + 1)) (fun e a w hn h => hn h.1) fun σ' G' a' w' hk hs => ⟨rfl, hQ σ' G' a' w' hk hs⟩))
theorem DrawN.eff {σ : St} {K : St → Prop} (i0 : Nat) (E LF : List Nat) (m : Nat) (tr : Tr) (sg : Option (Nat × Tr)) (c : List AV) (hok : lateOk ops m E LF tr sg = true) (hE : effOk ops m E = true) (hc : σ.boxes[i0]? = some c) (hnt : allLeafs noTag c = true) (hfree : freeAll σ (creators ops m) = true)
  (h : headE P ops σ.boxes.length i0 E LF 0 (ops.toList.take m) { σ with boxes := σ.boxes.set i0 (blankC E c) } c fun σ' c' => freeOthers σ'.tmps (creators ops m) = true ∧ treeA P ops tr { σ' with boxes := σ'.boxes.set i0 c' } K ∧ sgA P ops sg { σ' with boxes := σ'.boxes.set i0 c' } K) : DrawN P ops σ K := by
 intro G0 w0 G a w Q h0 hs hN hQ
 have hp := lateOk_plan hok
 simp only [effOk, Bool.and_eq_true, List.all_eq_true, decide_eq_true_eq, Bool.or_eq_true, Bool.not_eq_true', decide_eq_false_iff_not] at hE
 have hpE : PlanE ops m E := ⟨nodupE_spec hE.1.1, hE.1.2, fun e he e' he' hlt => (hE.2 e he e' he').resolve_left (fun hn => hn hlt)⟩
 obtain ⟨vs, C, hvl, hC0, hC, ⟨hoth, hK, hK2⟩, hst⟩ := headE_vals hpE.nodup _ _ _ _ _ h hnt
 have hlen : (ops.toList.take m).length = m := by have := hp.le; simp; omega
 rw [hlen] at hvl
 have hcm : cntE E (0 + (ops.toList.take m).length) = E.length := by
  rw [hlen, Nat.zero_add]
  unfold cntE posE
  rw [List.filter_eq_self.2 fun e he => by simpa using hpE.lt e he]
 rw [hcm] at hK hK2
 have hst' : ∀ i o, i < m → ops[i]? = some o → ∃ d y, vs[i]? = some (d, y) ∧ o.dst = some d ∧ d < σ.n ∧
   if i ∈ E then EffC P σ i0 o d (puts σ (vs.take i)).ev (C (E.filter fun e => decide (e < i)).length) y (C ((E.filter fun e => decide (e < i)).length + 1)) else if i ∈ LF then FrontC P o (puts σ (vs.take i)).ev y else StepG P ops o d (puts σ (vs.take i)) (σ.boxes.set i0 (blankC E (C 0))) y := fun i o hi ho => by
  obtain ⟨d, y, k1, k2, k3, k4⟩ := hst i o (by rw [List.getElem?_take, if_pos hi]; simpa using ho)
  refine ⟨d, y, k1, k2, k3, ?_⟩
  rw [Nat.zero_add] at k4
  split
  ·rename_i hiE
   rw [if_pos hiE, puts_ev] at k4
   unfold EffC at k4 ⊢
   simp only [List.length_replicate] at k4
   exact k4
  ·rename_i hiE
   rw [if_neg hiE] at k4
   rw [hC0 0 (Nat.zero_le _)]
   split
   ·rename_i hiL
    rw [if_pos hiL, puts_ev] at k4
    exact k4
   rename_i hiL
   rw [if_neg hiL] at k4
   unfold StepG at k4 ⊢
   rw [puts_ev] at k4
   simp only [puts_get] at k4
   exact k4
 have hap : Apart vs := by
  intro i j d y d' y' h1 h2 hij
  have hil : i < m := by have := (List.getElem?_eq_some_iff.1 h1).1; omega
  have hjl : j < m := by have := (List.getElem?_eq_some_iff.1 h2).1; omega
  have hle := hp.le
  obtain ⟨oi, hoi⟩ : ∃ p, ops[i]? = some p := ⟨ops[i]'(by omega), by simp [show i < ops.size by omega]⟩
  obtain ⟨oj, hoj⟩ : ∃ p, ops[j]? = some p := ⟨ops[j]'(by omega), by simp [show j < ops.size by omega]⟩
  obtain ⟨_, _, k1, k2, _⟩ := hst' i oi hil hoi
  obtain ⟨_, _, k3, k4, _⟩ := hst' j oj hjl hoj
  rw [h1] at k1; cases k1
  rw [h2] at k3; cases k3
  obtain ⟨d1, e1, _, e2⟩ := hp.head j oj hoj hjl
  rw [k4] at e1; cases e1
  exact (e2 i oi d hil hij hoi k2).1
 have hs' := hs
 have hgd : ∀ i, (Array.replicate ops.size false).getD i false = false := fun i => by
  by_cases hi : i < ops.size <;> simp [hi]
 have hcrm : ∀ i o d, ops[i]? = some o → i < m → o.dst = some d → creates o.op = true → d ∈ creators ops m := fun i o d ho hi hd hcr => by
  unfold creators
  refine List.mem_filterMap.2 ⟨o, ?_, by rw [if_pos hcr]; exact hd⟩
  refine List.mem_of_getElem? (i := i) ?_
  rw [List.getElem?_take, if_pos hi]; simpa using ho
 have hset : ∀ c', (puts { σ with boxes := σ.boxes.set i0 (blankC E c) } vs).boxes.set i0 c' = σ.boxes.set i0 c' := fun c' => by rw [puts_boxes, List.set_set]
 refine head_runE (P := P) hp hpE h0 hN hQ hvl hap (fun j => by rw [(hC j).1, (hC 0).1]) ?_ ?_ hst' (fun i o d ho hi hd hcr => ⟨fun j d' y hji hj => ?_, fun j => allLeafs_mono noTag_free _ (hC j).2⟩) ops.size (Array.replicate ops.size false) (List.range ops.size) σ G a _ ⟨by simp, List.nodup_range, fun i => ?_⟩ (by simp) (fun i _ => hgd i)
  (fun i o _ hi => absurd (show (Array.replicate ops.size false).getD i false = true from hi) (by rw [hgd]; simp)) ⟨rfl, ?_, fun i d y _ => by simp only [hgd]; simp, fun _ _ => rfl⟩ hs' (fun i o d ho hi hd hcr _ => freeAll_mem hfree d (hcrm i o d ho hi hd hcr))
 ·rw [hset] at hK
  rw [puts_eq] at hK ⊢
  exact hK
 ·rw [hset] at hK2
  rw [puts_eq] at hK2 ⊢
  exact hK2
 ·have hb := freeOthers_mem hoth d (hcrm i o d ho hi hd hcr)
  obtain ⟨oi, yi, k1, k2, _⟩ := hst' i o hi ho
  rw [hd] at k2; cases k2
  have hne := hap i j d yi d' y k1 hj (Ne.symm hji)
  have hpa := puts_at m vs { σ with boxes := σ.boxes.set i0 (blankC E c) } hap
  rw [List.take_of_length_le (by omega)] at hpa
  have hjm : j < m := by have := (List.getElem?_eq_some_iff.1 hj).1; omega
  have hg := hpa.dst j d' y hj
  simp only [hjm, decide_true, if_true] at hg
  rw [← hg]
  exact freeBut_look hb d' (Ne.symm hne)
 ·rw [List.mem_range, hgd]; simp
 ·have : posE E (fun i => (Array.replicate ops.size false).getD i false) = 0 := by
   unfold posE
   rw [List.filter_eq_nil_iff.2 fun e _ => by rw [hgd]; simp]; rfl
  rw [this, hC0 0 (Nat.zero_le _)]
  have hi := (List.getElem?_eq_some_iff.1 hc).1
  rw [← (List.getElem?_eq_some_iff.1 hc).2, List.set_getElem_self]
end
def renO (π : List Nat) (o : Oper) : Oper := ⟨o.dst, o.op, o.type, o.pos, o.after.map fun e => ⟨π.idxOf e.on, e.ground⟩, o.guard.map fun p => (π.idxOf p.1, p.2)⟩
def permG (π : List Nat) (l : List Oper) : List Nat → List Oper
 | [] => []
 | i :: r => match l[i]? with
  | some o => renO π o :: permG π l r
  | none => []
def headX (P : Program) (ops : Array Oper) (n0 i0 : Nat) (E LF ds : List Nat) (tr : Tr) (sg : Option (Nat × Tr)) : Nat → Nat → List Oper → St → List AV → (St → Prop) → Prop
 | _, 0, _, σ, c, K => freeOthers σ.tmps ds = true ∧ (treeA P ops tr { σ with boxes := σ.boxes.set i0 c } K ∧ sgA P ops sg { σ with boxes := σ.boxes.set i0 c } K)
 | _, _ + 1, [], σ, c, K => freeOthers σ.tmps ds = true ∧ (treeA P ops tr { σ with boxes := σ.boxes.set i0 c } K ∧ sgA P ops sg { σ with boxes := σ.boxes.set i0 c } K)
 | k, m + 1, o :: r, σ, c, K => if E.contains k = true then EffK P n0 i0 o σ c fun σ' c' => headX P ops n0 i0 E LF ds tr sg (k + 1) m r σ' c' K else if LF.contains k = true then frB P o σ fun σ' => headX P ops n0 i0 E LF ds tr sg (k + 1) m r σ' c K else headG P ops o σ fun σ' => headX P ops n0 i0 E LF ds tr sg (k + 1) m r σ' c K
theorem headX_eq {P : Program} {ops : Array Oper} {n0 i0 : Nat} {E LF ds : List Nat} {tr : Tr} {sg : Option (Nat × Tr)} {K : St → Prop} : ∀ (m k : Nat) (l : List Oper) (σ : St) (c : List AV), headX P ops n0 i0 E LF ds tr sg k m l σ c K =
  headE P ops n0 i0 E LF k (l.take m) σ c fun σ' c' => freeOthers σ'.tmps ds = true ∧ (treeA P ops tr { σ' with boxes := σ'.boxes.set i0 c' } K ∧ sgA P ops sg { σ' with boxes := σ'.boxes.set i0 c' } K)
 | 0, k, l, σ, c => by cases l <;> rfl
 | m + 1, k, [], σ, c => rfl
 | m + 1, k, o :: l, σ, c => by
  have ih : ∀ σ' c', headX P ops n0 i0 E LF ds tr sg (k + 1) m l σ' c' K = headE P ops n0 i0 E LF (k + 1) (l.take m) σ' c' fun σ' c' => freeOthers σ'.tmps ds = true ∧ (treeA P ops tr { σ' with boxes := σ'.boxes.set i0 c' } K ∧ sgA P ops sg { σ' with boxes := σ'.boxes.set i0 c' } K) := fun σ' c' => headX_eq m (k + 1) l σ' c'
  simp only [headX, List.take_succ_cons, headE, ih]
theorem crs_creators (l : List Oper) (m : Nat) : creators l.toArray m = crs (l.take m) := by rw [crs_eq]; rfl
theorem DrawN.effs {P : Program} {l : List Oper} {σ : St} {K : St → Prop} (i0 : Nat) (E LF : List Nat) (m : Nat) (tr : Tr) (sg : Option (Nat × Tr)) (c : List AV) (hok : lateOk l.toArray m E LF tr sg = true) (hE : effOk l.toArray m E = true) (hc : σ.boxes[i0]? = some c) (hnt : allLeafs noTag c = true)
  (h : andK (freeAll σ (crs (l.take m)) = true) (headX P l.toArray σ.boxes.length i0 E LF (crs (l.take m)) tr sg 0 m l ⟨σ.n, σ.tmps, σ.boxes.set i0 (blankC E c)⟩ c K)) : DrawN P l.toArray σ K :=
 DrawN.eff i0 E LF m tr sg c hok hE hc hnt (by rw [crs_creators]; exact h.1) (by rw [crs_creators]; have := h.2; rw [headX_eq] at this; exact this)
theorem DrawK.effs0 {P : Program} {l : List Oper} {σ : St} {K : St → Prop} (i0 : Nat) (E LF : List Nat) (m : Nat) (tr : Tr) (sg : Option (Nat × Tr)) (c : List AV) (hm : P.follows .mixedOrders = true) (hok : lateOk l.toArray m E LF tr sg = true) (hE : effOk l.toArray m E = true) (hc : σ.boxes[i0]? = some c) (hnt : allLeafs noTag c = true)
  (h : andK (freeAll σ (crs (l.take m)) = true) (headX P l.toArray σ.boxes.length i0 E LF (crs (l.take m)) tr sg 0 m l ⟨σ.n, σ.tmps, σ.boxes.set i0 (blankC E c)⟩ c K)) : DrawK P l.toArray σ K :=
 DrawK.ofN hm (DrawN.effs i0 E LF m tr sg c hok hE hc hnt h)
section
variable {P : Program} {n : Nat} {t : List (Nat × AV)} {b : List (List AV)} {ops : Array Oper} {n0 i0 k m : Nat} {E LF ds : List Nat} {tr : Tr} {sg : Option (Nat × Tr)} {l : List Oper} {c : List AV} {K : St → Prop}
variable {d : Nat} {T : TypeId} {pos : String} {af : Array Edge} {g : Option (Nat × Bool)}
@[congr] theorem headX_congr {n0' k' : Nat} {σ σ' : St} {c' : List AV} (h0 : n0 = n0') (h1 : k = k') (h : mkd σ = σ') (h2 : c = c') : headX P ops n0 i0 E LF ds tr sg k m l σ c K = headX P ops n0' i0 E LF ds tr sg k' m l σ' c' K := by subst_vars; rfl
@[congr] theorem EffK_congr {n0' : Nat} {o : Oper} {σ σ' : St} {c' : List AV} {K : St → List AV → Prop} (h0 : n0 = n0') (h : mkd σ = σ') (h2 : c = c') : EffK P n0 i0 o σ c K = EffK P n0' i0 o σ' c' K := by subst_vars; rfl
@[congr] theorem frB_congr {o : Oper} {σ σ' : St} {K : St → Prop} (h : mkd σ = σ') : frB P o σ K = frB P o σ' K := by subst_vars; rfl
@[go_sem] theorem frB_eq {o : Oper} : frB P o ⟨n, t, b⟩ K = frA P (some o) ⟨n, t, b⟩ K := rfl
@[go_sem] theorem headX_zero : headX P ops n0 i0 E LF ds tr sg k 0 l ⟨n, t, b⟩ c K = andK (freeOthers t ds = true) (andK (treeA P ops tr ⟨n, t, b.set i0 c⟩ K) (sgA P ops sg ⟨n, t, b.set i0 c⟩ K)) := by cases l <;> rfl
@[go_sem] theorem headX_nil : headX P ops n0 i0 E LF ds tr sg k (m + 1) [] ⟨n, t, b⟩ c K = andK (freeOthers t ds = true) (andK (treeA P ops tr ⟨n, t, b.set i0 c⟩ K) (sgA P ops sg ⟨n, t, b.set i0 c⟩ K)) := rfl
@[go_sem] theorem headX_succ {dst : Option Tmp} {op : Op} : headX P ops n0 i0 E LF ds tr sg k (m + 1) (⟨dst, op, T, pos, af, none⟩ :: l) ⟨n, t, b⟩ c K = selK (E.contains k) (EffK P n0 i0 ⟨dst, op, T, pos, af, none⟩ ⟨n, t, b⟩ c fun σ' c' => headX P ops n0 i0 E LF ds tr sg (k + 1) m l σ' c' K)
  (selK (LF.contains k) (frB P ⟨dst, op, T, pos, af, none⟩ ⟨n, t, b⟩ fun σ' => headX P ops n0 i0 E LF ds tr sg (k + 1) m l σ' c K) (headOp P ⟨dst, op, T, pos, af, none⟩ ⟨n, t, b⟩ fun σ' => headX P ops n0 i0 E LF ds tr sg (k + 1) m l σ' c K)) := by rw [selK_ite, selK_ite]; rfl
def sgD (P : Program) (ops : Array Oper) (o : Option Oper) (tr : Tr) (σ : St) (K : St → Prop) : Prop := match o with
 | some ⟨some d, _, _, _, _, _⟩ => treeA P ops tr (σ.put (some d) .any) K
 | _ => False
@[congr] theorem sgA_congr {σ σ' : St} (h : mkd σ = σ') : sgA P ops sg σ K = sgA P ops sg σ' K := by subst_vars; rfl
@[congr] theorem sgD_congr {o o' : Option Oper} {σ σ' : St} (h1 : o = o') (h : mkd σ = σ') : sgD P ops o tr σ K = sgD P ops o' tr σ' K := by subst_vars; rfl
@[go_sem] theorem sgA_none : sgA P ops none ⟨n, t, b⟩ K = True := rfl
@[go_sem] theorem sgA_some {x : Nat} : sgA P l.toArray (some (x, tr)) ⟨n, t, b⟩ K = sgD P l.toArray l[x]? tr ⟨n, t, b⟩ K := by
 simp only [sgA, sgD, List.getElem?_toArray]
 cases l[x]? with
 | none => rfl
 | some o =>
  obtain ⟨dst, op, T, pos, af, g⟩ := o
  cases dst <;> simp
@[go_sem] theorem sgD_some {op : Op} : sgD P ops (some ⟨some d, op, T, pos, af, g⟩) tr ⟨n, t, b⟩ K = treeA P ops tr (St.put ⟨n, t, b⟩ (some d) .any) K := rfl
def consO (o : Option Oper) (r : List Oper) : List Oper := match o with
 | some o => o :: r
 | none => []
@[go_sem] theorem consO_some {o : Oper} {r : List Oper} : consO (some o) r = o :: r := rfl
@[go_sem] theorem permG_nil {π : List Nat} : permG π l [] = [] := rfl
@[go_sem] theorem renO_mk {π : List Nat} {dst : Option Tmp} {op : Op} : renO π ⟨dst, op, T, pos, af, none⟩ = ⟨dst, op, T, pos, af.map fun e => ⟨π.idxOf e.on, e.ground⟩, none⟩ := rfl
attribute [go_sem] freeOthers freeBut blankC
theorem EffK.mk {fid : FuncId} {args : List Operand} {As : Array TypeId} {args' c0 c1 : List AV} {r : AV} {K : St → List AV → Prop} (hcon : Con P fid args' [c0] fun r' bx => r' = r ∧ bx = [c1])
  (hc : d < n ∧ dedup (pbss (evAll ⟨n, t, b⟩ args)) = [i0] ∧ allLeafs noTag (evAll ⟨n, t, b⟩ args) = true ∧ allLeafs noTag c = true) (ha : mapTops (pbIn [i0]) (evAll ⟨n, t, b⟩ args) = args') (hc0 : mapTops (pbIn [i0]) c = c0)
  (hr : r.allLeaf lt64b = true ∧ allLeafs noTag c1 = true ∧ (mapTops (outLeaf (64 * (d + 1)) [i0] n0) c1).length = c.length ∧ allLeafs noTag (mapTops (outLeaf (64 * (d + 1)) [i0] n0) c1) = true)
  (hk : K (St.put ⟨n, t, b⟩ (some d) (r.mapTop (outLeaf (64 * (d + 1)) [i0] n0))) (mapTops (outLeaf (64 * (d + 1)) [i0] n0) c1)) :
  EffK P n0 i0 ⟨some d, .call ⟨.value (.func fid), args.toArray, As⟩, T, pos, af, none⟩ ⟨n, t, b⟩ c K := by
 rw [evAll_eq] at hc ha
 refine ⟨d, _, _, rfl, hc.1, ⟨rfl, fid, args.toArray, As, r, c1, rfl, hc.2.1, hc.2.2.1, by simp [allNoTags, hc.2.2.2], ?_, hr.1, by simp [allNoTags, hr.2.1], by rw [List.length_replicate], by simp [mapB]⟩, hr.2.2.1, hr.2.2.2, hk⟩
 rw [ha, show mapB (pbIn [i0]) [c] = [c0] by simp [mapB, hc0]]
 exact hcon
end
end Go.AM

/-! ## AmZ -/
namespace Go.AM
open Go.RowKit Go.Proofs Go.Shelf
end Go.AM

/-! ## Am0 -/
namespace Go.AM
open Go Go.Proofs Go.RowKit
theorem wrap_in {n : Int} (h1 : -9223372036854775808 ≤ n) (h2 : n ≤ 9223372036854775807) : IntKind.i64.wrap n = n := by rw [IntKind.wrap_i64]; omega
def vi (x : Int) : AV := .sc (.int .i64 x)
def vu (x : Int) : AV := .sc (.int .u8 x)
def vs (t : Nat) (l : List Int) : AV := .sl t 1 (l.map vi)
theorem getv {l : List Int} {i : Nat} (h : i < l.length) : (l.map vi)[i]? = some (.sc (.int .i64 l[i]!)) := by simp [vi, h]
def findI {α : Type} (p : α → Bool) (l : List α) : Int := match l.findIdx? p with | some i => i | none => -1
theorem findI_stop {α : Type} [Inhabited α] {p : α → Bool} {l : List α} {i : Nat} (h : i < l.length) (hb : ∀ j, j < i → p l[j]! = false) (hp : p l[i]! = true) : findI p l = i := by
 have : l.findIdx? p = some i := by
  rw [List.findIdx?_eq_some_iff_getElem]
  refine ⟨h, by simpa [h] using hp, fun j hj => ?_⟩
  have := hb j hj
  have hjl : j < l.length := by omega
  simpa [hjl] using this
 simp [findI, this]
theorem findI_none {α : Type} [Inhabited α] {p : α → Bool} {l : List α} (hb : ∀ j, j < l.length → p l[j]! = false) : findI p l = -1 := by
 have : l.findIdx? p = none := by
  rw [List.findIdx?_eq_none_iff]
  intro x hx
  obtain ⟨j, hj⟩ := List.getElem?_of_mem hx
  have hjl := (List.getElem?_eq_some_iff.1 hj).1
  have := hb j hjl
  have e : l[j]! = x := by simp [hj]
  rw [e] at this; exact this
 simp [findI, this]
theorem findI_ge {α : Type} (p : α → Bool) (l : List α) : decide (0 ≤ findI p l) = l.any p := by
 unfold findI
 cases h : l.findIdx? p with
 | none =>
  rw [List.findIdx?_eq_none_iff] at h
  have : l.any p = false := by simpa using h
  simp [this]
 | some i =>
  rw [List.findIdx?_eq_some_iff_getElem] at h
  obtain ⟨h1, h2, _⟩ := h
  have : l.any p = true := List.any_eq_true.2 ⟨l[i], List.getElem_mem _, h2⟩
  simp [this]
theorem mem_bang {α : Type} [Inhabited α] {l : List α} {i : Nat} (h : i < l.length) : l[i]! ∈ l := by rw [getElem!_pos l i h]; exact List.getElem_mem _
def vb (b : Bool) : AV := .sc (.bool b)
attribute [go_sem] vi vu vs vb
def vbl (t : Nat) (row : List Bool) : AV := .sl t 1 (row.map vb)
theorem take_snoc {α : Type} [Inhabited α] {l : List α} {j : Nat} (h : j < l.length) : l.take (j + 1) = l.take j ++ [l[j]!] := by
 rw [List.take_add_one, List.getElem?_eq_getElem h, ← getElem!_pos l j h]; rfl
theorem modify_vi {Z : List Int} {q : Nat} {x : Int} : (List.map vi Z).modify q (updElem 0 [AV.sc (.int .i64 x)]) = List.map vi (Z.set q x) := by
 apply List.ext_getElem?
 intro j
 rw [List.getElem?_modify, List.getElem?_map, List.getElem?_map, List.getElem?_set]
 by_cases hq : q = j
 ·subst hq
  by_cases hl : q < Z.length
  ·simp [hl, vi, updElem]
  ·simp [hl]
 ·simp [hq]
attribute [go_sem] vbl
end Go.AM

/-! ## Am4 -/
namespace Go.AM
open Go Go.Proofs Go.RowKit
inductive CV where
 | mk (n : Int) (kids : List CV)
 deriving Inhabited
def CV.n : CV → Int
 | .mk n _ => n
def CV.kids : CV → List CV
 | .mk _ k => k
mutual
def vV : CV → AV
 | .mk n kids => .ag [vi n, .sl 0 2 (vVs kids)]
def vVs : List CV → List AV
 | [] => []
 | x :: l => vV x :: vVs l
end
def ordI (a b : Int) : Int := if a < b then -1 else if b < a then 1 else 0
theorem ordI_zero {a b : Int} : ordI a b = 0 ↔ a = b := by unfold ordI; split <;> (try split) <;> omega
theorem share3 {body : (Exit → St → Prop) → St → Prop} {Q : Exit → St → Prop} {T : St → Prop} {A : Prop} (h : (∀ τ, T τ → LoopK body Q τ) → A) (key : ∀ τ, T τ → LoopK body Q τ) : A := h key
end Go.AM

/-! ## MxW1 -/
namespace Go.AM
open Go Go.Proofs Go.RowKit
set_option maxRecDepth 100000
def vm (t : Nat) (m : List (List Int)) : AV := .sl t 1 (m.map (vs 0))
attribute [go_sem] vm
theorem getm {l : List (List Int)} {i : Nat} (h : i < l.length) : (l.map (vs 0))[i]? = some (.sl 0 1 (l[i]!.map vi)) := by simp [vs, h]
def w64 (x : Int) : Int := IntKind.i64.wrap x
theorem con_amount (x : Int) : Con Try.prog 73 [vi x] [] fun r _ => r = vi (max x (w64 (-x))) := by
 refine Con.intro Try.func73 rfl Try.ntmps73 Try.results73 (by kernel_rfl) (by simp) 0 (by simp) ?_
 simp only [go_sem, w64, Int.zero_sub]
theorem con_few (l : List Int) (t : Nat) (_ht : t < 2) : Con Try.prog 9 [vs t l] [] fun r _ => r = .sc (.bool (decide (l.length ≤ 400))) := by
 refine Con.intro Try.func9 rfl Try.ntmps9 Try.results9 (by kernel_rfl) (by simp) 0 (by simp) ?_
 simp only [go_sem]
def lawBad (x : Int) : Bool := decide (x < -16) || decide (16 < x)
theorem con_mxCheck1 (x : Int) : Con Try.prog 59 [vi x] [] fun r _ => r = .sc (.bool (lawBad x)) := by
 refine Con.intro Try.func59 rfl Try.ntmps59 Try.results59 (by kernel_rfl) (by simp) 0 (by simp) ?_
 by_cases h : x < -16 <;> simp only [go_sem, h, lawBad]
end Go.AM

/-! ## MxW2 -/
namespace Go.AM
open Go Go.Proofs Go.RowKit
set_option maxRecDepth 100000
theorem con_mxIndex (l : List Int) (v : Int) (hl : l.length ≤ 9223372036854775806) : Con Try.prog 90 [vs 0 l, vi v] [] fun r _ => r = vi (findI (fun x => v == x) l) := by
 refine Con.intro Try.func90 rfl Try.ntmps90 Try.results90 (by kernel_rfl) (by simp) 0 (by simp) ?_
 simp only [go_sem]
 refine LoopK.intro (fun i : Nat => ⟨19, [(0, .sl 0 1 (l.map vi)), (1, .sc (.int .i64 v)), (7, .sc (.int .i64 l.length)), (8, .sc (.int .i64 i))], []⟩)
  (fun i => l.length - i) (fun i => i ≤ l.length ∧ ∀ j, j < i → (v == l[j]!) = false) 0 ⟨by omega, fun j hj => by omega⟩ ?_ ?_
 ·simp only [go_sem]
 ·rintro i ⟨hi, hb⟩
  by_cases h : i < l.length
  ·have hg := getv h
   have hw : IntKind.i64.wrap (i + 1) = i + 1 := wrap_in (by omega) (by omega)
   cases hp : (v == l[i]!)
   ·simp only [go_sem, h, hg, hw, hp]
    refine roundK.intro (i + 1) ⟨by omega, fun j hj => ?_⟩ (by omega) ?_
    ·by_cases hji : j = i
     ·subst hji; exact hp
     ·exact hb j (by omega)
    ·simp only [go_sem]
   ·simp only [go_sem, h, hg, hp]
    rw [findI_stop h hb hp]
  ·simp only [go_sem, h]
   rw [findI_none (fun j hj => hb j (by omega))]
   
theorem con_mxContains (l : List Int) (v : Int) (hl : l.length ≤ 9223372036854775806) : Con Try.prog 72 [vs 0 l, vi v] [] fun r _ => r = .sc (.bool (l.any fun x => v == x)) := by
 refine Con.intro Try.func72 rfl Try.ntmps72 Try.results72 (by kernel_rfl) (by simp) 0 (by simp) ?_
 simp only [go_sem]
 refine CallU.free (con_mxIndex l v hl) (by simp only [go_sem]) (by simp only [go_sem]) ?_
 rintro r bx rfl
 simp only [go_sem, findI_ge]
def Tells (f : FuncId) (p : Int → Bool) : Prop := ∀ x, Con Try.prog f [vi x] [] fun r _ => r = .sc (.bool (p x))
theorem con_indexFunc (l : List Int) (f : FuncId) (p : Int → Bool) (hf : Tells f p) (hl : l.length ≤ 9223372036854775806) : Con Try.prog 69 [vs 0 l, .fn f []] [] fun r _ => r = vi (findI p l) := by
 refine Con.intro Try.func69 rfl Try.ntmps69 Try.results69 (by kernel_rfl) (by simp) 0 (by simp) ?_
 simp only [go_sem]
 refine LoopK.intro (fun i : Nat => ⟨19, [(0, .sl 0 1 (l.map vi)), (1, .fn f []), (7, .sc (.int .i64 l.length)), (8, .sc (.int .i64 i))], []⟩)
  (fun i => l.length - i) (fun i => i ≤ l.length ∧ ∀ j, j < i → p l[j]! = false) 0 ⟨by omega, fun j hj => by omega⟩ ?_ ?_
 ·simp only [go_sem]
 ·rintro i ⟨hi, hb⟩
  by_cases h : i < l.length
  ·have hg := getv h
   have hw : IntKind.i64.wrap (i + 1) = i + 1 := wrap_in (by omega) (by omega)
   simp only [go_sem, h, hg]
   refine CallU.free (hf l[i]!) (by simp only [go_sem]) (by simp only [go_sem]) ?_
   rintro r bx rfl
   cases hp : p l[i]!
   ·simp only [go_sem, hw]
    refine roundK.intro (i + 1) ⟨by omega, fun j hj => ?_⟩ (by omega) ?_
    ·by_cases hji : j = i
     ·subst hji; exact hp
     ·exact hb j (by omega)
    ·simp only [go_sem]
   ·simp only [go_sem]
    rw [findI_stop h hb hp]
  ·simp only [go_sem, h]
   rw [findI_none (fun j hj => hb j (by omega))]
theorem con_containsFunc (l : List Int) (f : FuncId) (p : Int → Bool) (hf : Tells f p) (hl : l.length ≤ 9223372036854775806) : Con Try.prog 54 [vs 0 l, .fn f []] [] fun r _ => r = .sc (.bool (l.any p)) := by
 refine Con.intro Try.func54 rfl Try.ntmps54 Try.results54 (by kernel_rfl) (by simp) 0 (by simp) ?_
 simp only [go_sem]
 refine CallU.free (con_indexFunc l f p hf hl) (by simp only [go_sem]) (by simp only [go_sem]) ?_
 rintro r bx rfl
 simp only [go_sem, findI_ge]
end Go.AM

/-! ## MxW9 -/
namespace Go.AM
open Go Go.Proofs Go.RowKit
set_option maxRecDepth 100000
theorem Con.le {P : Program} {f : FuncId} {args : List AV} {bx : List (List AV)} {post post' : AV → List (List AV) → Prop} (h : Con P f args bx post) (hp : ∀ r b, post r b → ∃ r', leV r r' ∧ post' r' b) : Con P f args bx post' :=
 ⟨h.1, fun G w vs h1 h2 h3 h4 h5 => (h.2 G w vs h1 h2 h3 h4 h5).mono fun e w' ⟨v, r, bx', G', he, hq, hr, rest⟩ => by
  obtain ⟨r', hl, hq'⟩ := hp r bx' hq
  exact ⟨v, r', bx', G', he, hq', hr.le hl, rest⟩⟩
theorem con_clip (l : List Int) : Con Try.prog 88 [vs 0 l] [] fun r _ => r = vs 1 l := by
 refine Con.intro Try.func88 rfl Try.ntmps88 Try.results88 (by kernel_rfl) (by simp) 0 (by simp) ?_
 simp only [go_sem]
 exact ⟨Nat.le_refl _, by rw [List.take_of_length_le (by simp)]⟩
theorem con_mxClone (l : List Int) (hl : l.length ≤ 1000000) : Con Try.prog 74 [vs 0 l] [] fun r _ => r = vs 2 l := by
 refine Con.le (post := fun r _ => r = .nil ∧ l = [] ∨ r = vs 2 l) ?_ (fun r b h => ⟨vs 2 l, by rcases h with ⟨rfl, rfl⟩ | rfl; exact leV_nil 2 1; exact leV_refl _, rfl⟩)
 refine Con.intro Try.func74 rfl Try.ntmps74 Try.results74 (by kernel_rfl) (by simp) 0 (by simp) ?_
 cases l with
 | nil =>
  simp only [go_sem]
  simp [roomFor]
 | cons x l =>
  simp only [go_sem]
  simp [roomFor]; simp at hl; omega
theorem con_mxGrow (n : Nat) (hn : n ≤ 1000000) : Con Try.prog 97 [.nil, vi n] [] fun r _ => r = vs 2 [] := by
 refine Con.le (post := fun r _ => r = .nil ∨ r = vs 2 []) ?_ (fun r b h => ⟨vs 2 [], by rcases h with rfl | rfl; exact leV_nil 2 1; exact leV_refl _, rfl⟩)
 refine Con.intro Try.func97 rfl Try.ntmps97 Try.results97 (by kernel_rfl) (by simp) 0 (by simp) ?_
 have hw0 : IntKind.i64.wrap 0 = 0 := wrap_in (by omega) (by omega)
 by_cases h : n = 0
 ·subst h
  simp only [go_sem, hw0, Int.sub_zero, true_or]
 ·have hz : ¬ n < 0 := by omega
  have hw : IntKind.i64.wrap (n : Int) = n := wrap_in (by omega) (by omega)
  have hp : 0 < n := by omega
  simp only [go_sem, hz, hw, hw0, hp, Int.sub_zero]
  exact ⟨by omega, by omega, .inr trivial⟩
def bound (m : List (List Int)) : Prop := m.length ≤ 1000 ∧ ∀ row ∈ m, row.length ≤ 1000
def totalN (m : List (List Int)) : Nat → Nat
 | 0 => 0
 | k + 1 => totalN m k + m[k]!.length
theorem totalN_le {m : List (List Int)} (hb : bound m) : ∀ k, k ≤ m.length → totalN m k ≤ k * 1000
 | 0, _ => by simp [totalN]
 | k + 1, hk => by
  have := totalN_le hb k (by omega)
  have := hb.2 m[k]! (by simp [show k < m.length by omega])
  simp only [totalN]; omega
theorem con_mxConcat (m : List (List Int)) (hb : bound m) : Con Try.prog 89 [vm 0 m] [] fun r _ => r = vs 2 m.flatten := by
 refine Con.intro Try.func89 rfl Try.ntmps89 Try.results89 (by kernel_rfl) (by simp) 0 (by simp) ?_
 have hm := hb.1
 simp only [go_sem]
 refine LoopK.intro (fun i : Nat => ⟨36, [(0, .sl 0 1 (m.map (vs 0))), (3, .sc (.int .i64 (totalN m i))), (9, .sl 0 1 (m.map (vs 0))), (10, .sc (.int .i64 m.length)), (11, .sc (.int .i64 i))], []⟩)
  (fun i => m.length - i) (fun i => i ≤ m.length) 0 (by omega) ?_ ?_
 ·simp only [go_sem, totalN]
 intro i hi
 by_cases h : i < m.length
 ·have hg := getm h
  have ht := totalN_le hb i hi
  have hr := hb.2 m[i]! (by simp [h])
  have hw : IntKind.i64.wrap (i + 1) = i + 1 := wrap_in (by omega) (by omega)
  have hw2 : IntKind.i64.wrap ((totalN m i : Int) + m[i]!.length) = ((totalN m (i + 1) : Nat) : Int) := by rw [wrap_in (by omega) (by omega)]; simp [totalN]
  have hnn : ¬ totalN m (i + 1) < 0 := by omega
  simp only [go_sem, h, hg, hw, hw2, hnn]
  refine roundK.intro (i + 1) (by omega) (by omega) ?_
  simp only [go_sem]
 simp only [go_sem, h]
 have htot := totalN_le hb i hi
 refine CallU.free (con_mxGrow (totalN m i) (by omega)) (by simp only [go_sem]) (by simp only [go_sem]) ?_
 rintro r bx rfl
 simp only [go_sem]
 refine LoopK.intro (fun k : Nat => ⟨36, [(6, .sl 1602 1 ((m.take k).flatten.map vi)), (25, .sl 0 1 (m.map (vs 0))), (26, .sc (.int .i64 m.length)), (27, .sc (.int .i64 k))], []⟩)
  (fun k => m.length - k) (fun k => k ≤ m.length) 0 (by omega) ?_ ?_
 ·simp only [go_sem, List.flatten_nil]
 intro k hk
 by_cases h2 : k < m.length
 ·have hg := getm h2
  have hw : IntKind.i64.wrap (k + 1) = k + 1 := wrap_in (by omega) (by omega)
  have hmk : m[k]? = some m[k]! := by simp [h2]
  have hfl : (m.take k).flatten.length ≤ 1000 * k := by
   have : ∀ l : List (List Int), (∀ row ∈ l, row.length ≤ 1000) → l.flatten.length ≤ 1000 * l.length := by
    intro l hl
    induction l with
    | nil => simp
    | cons a l ih =>
     have h1 := ih fun row hr => hl row (by simp [hr])
     have h2 := hl a (by simp)
     simp only [List.flatten_cons, List.length_append, List.length_cons]; omega
   have h3 := this (m.take k) fun row hr => hb.2 row (List.mem_of_mem_take hr)
   have h4 : (m.take k).length ≤ k := by rw [List.length_take]; omega
   omega
  have hr := hb.2 m[k]! (by simp [h2])
  simp only [go_sem, h2, hg, hw]
  refine ⟨⟨by omega, by omega⟩, roundK.intro (k + 1) (by omega) (by omega) ?_⟩
  simp only [go_sem]
  refine leV_sl ?_
  rw [List.take_add_one, hmk, List.flatten_append, List.map_append]; simp
 ·have e : m.take k = m := List.take_of_length_le (by omega)
  simp only [go_sem, h2, e]
end Go.AM

/-! ## MxW3 -/
namespace Go.AM
open Go Go.Proofs Go.RowKit
set_option maxRecDepth 100000
def badRow (n : Nat) (row : List Int) : Bool := decide (row.length ≠ n) || row.any lawBad
def mxCheckF (m : List (List Int)) : Int :=
 if m.length < 1 ∨ 12 < m.length then 10
 else if m[0]!.length < 1 ∨ 12 < m[0]!.length ∨ 6 < min m[0]!.length m.length then 10
 else if m.any (badRow m[0]!.length) then 10 else 0
def Fits (m : List (List Int)) : Prop := m.length ≤ 140737488355328 ∧ ∀ row ∈ m, row.length ≤ 140737488355328
theorem Fits.at {m : List (List Int)} (h : Fits m) {i : Nat} (hi : i < m.length) : m[i]!.length ≤ 140737488355328 := h.2 _ (by simp [hi])
theorem any_stop {α : Type} [Inhabited α] {p : α → Bool} {l : List α} {i : Nat} (h : i < l.length) (hp : p l[i]! = true) : l.any p = true :=
 List.any_eq_true.2 ⟨l[i]!, by simp [h], hp⟩
theorem mxAnyNone {α : Type} [Inhabited α] {p : α → Bool} {l : List α} (hb : ∀ j, j < l.length → p l[j]! = false) : l.any p = false := by
 rw [List.any_eq_false]
 intro x hx
 obtain ⟨j, hj⟩ := List.getElem?_of_mem hx
 have := hb j (List.getElem?_eq_some_iff.1 hj).1
 have e : l[j]! = x := by simp [hj]
 rw [e] at this; simp [this]
theorem con_mxCheck (m : List (List Int)) (hm : Fits m) : Con Try.prog 47 [vm 0 m] [] fun r _ => r = vi (mxCheckF m) := by
 refine Con.intro Try.func47 rfl Try.ntmps47 Try.results47 (by kernel_rfl) (by simp) 0 (by simp) ?_
 by_cases h1 : m.length < 1
 ·simp only [go_sem, h1, mxCheckF, true_or]
 by_cases h2 : 12 < m.length
 ·simp only [go_sem, h1, h2, mxCheckF, or_true]
 have hg0 := getm (l := m) (i := 0) (by omega)
 have hp0 : 0 < m.length := by omega
 by_cases h3 : m[0]!.length < 1
 ·simp only [go_sem, h1, h2, h3, hg0, hp0, mxCheckF, true_or, or_false]
 by_cases h4 : 12 < m[0]!.length
 ·simp only [go_sem, h1, h2, h3, h4, hg0, hp0, mxCheckF, true_or, or_false, or_true]
 by_cases h5 : 6 < min m[0]!.length m.length
 ·simp only [go_sem, h1, h2, h3, h4, h5, hg0, hp0, mxCheckF, or_false, or_true]
 simp only [go_sem, h1, h2, h3, h4, h5, hg0, hp0, mxCheckF, or_false]
 refine LoopK.intro (fun i : Nat => ⟨46, [(0, .sl 0 1 (m.map (vs 0))), (3, .sc (.int .i64 m[0]!.length)), (31, .sl 0 1 (m.map (vs 0))), (32, .sc (.int .i64 m.length)), (33, .sc (.int .i64 i))], []⟩)
  (fun i => m.length - i) (fun i => i ≤ m.length ∧ ∀ j, j < i → badRow m[0]!.length m[j]! = false) 0 ⟨by omega, fun j hj => by omega⟩ ?_ ?_
 ·simp only [go_sem]
 ·rintro i ⟨hi, hb⟩
  by_cases h : i < m.length
  ·have hg := getm h
   have hw : IntKind.i64.wrap (i + 1) = i + 1 := wrap_in (by omega) (by omega)
   have hr := hm.at h
   by_cases hn : m[i]!.length = m[0]!.length
   ·simp only [go_sem, h, hg, hn]
    refine CallU.free (con_containsFunc m[i]! 59 lawBad con_mxCheck1 (by omega)) (by simp only [go_sem]) (by simp only [go_sem]) ?_
    rintro r bx rfl
    cases hp : m[i]!.any lawBad
    ·simp only [go_sem, hw]
     refine roundK.intro (i + 1) ⟨by omega, fun j hj => ?_⟩ (by omega) ?_
     ·by_cases hji : j = i
      ·subst hji; simp only [badRow, hn, hp, ne_eq, not_true_eq_false, decide_false, Bool.or_false]
      ·exact hb j (by omega)
     ·simp only [go_sem]
    ·simp only [go_sem]
     rw [any_stop h (by simp only [badRow, hp, Bool.or_true])]; rfl
   ·simp only [go_sem, h, hg, hn]
    rw [any_stop h (by simp only [badRow, hn, ne_eq, not_false_eq_true, decide_true, Bool.true_or])]; rfl
  ·simp only [go_sem, h]
   rw [mxAnyNone (fun j hj => hb j (by omega))]; rfl
theorem con_column (m : List (List Int)) (j : Nat) (hj : ∀ row ∈ m, j < row.length) (hm : m.length ≤ 1000000) :
  Con Try.prog 56 [vm 0 m, vi j] [] fun r _ => r = vs 2 (m.map fun row => row[j]!) := by
 refine Con.intro Try.func56 rfl Try.ntmps56 Try.results56 (by kernel_rfl) (by simp) 0 (by simp) ?_
 simp only [go_sem]
 refine LoopK.intro (fun i : Nat => ⟨23, [(0, .sl 0 1 (m.map (vs 0))), (1, .sc (.int .i64 j)), (5, .sl 384 1 ((m.take i).map fun row => vi row[j]!)), (8, .sl 0 1 (m.map (vs 0))), (9, .sc (.int .i64 m.length)), (10, .sc (.int .i64 i))], []⟩)
  (fun i => m.length - i) (fun i => i ≤ m.length) 0 (by omega) ?_ ?_
 ·simp only [go_sem]
 ·intro i hi
  by_cases h : i < m.length
  ·have hg := getm h
   have hjj : j < m[i]!.length := hj _ (by simp [h])
   have hjg := getv hjj
   have hmi : m[i]? = some m[i]! := by simp [h]
   have hw : IntKind.i64.wrap (i + 1) = i + 1 := wrap_in (by omega) (by omega)
   simp only [go_sem, h, hg, hjj, hjg, hw]
   refine ⟨by simp [roomFor]; omega, roundK.intro (i + 1) (by omega) (by omega) ?_⟩
   simp only [go_sem]
   refine leV_sl ?_
   rw [List.take_add_one, hmi, List.map_append]; rfl
  ·have e : m.take i = m := List.take_of_length_le (by omega)
   simp only [go_sem, h, e]
   simp [vi]
def dotN (a b : List Int) : Nat → Int
 | 0 => 0
 | k + 1 => w64 (dotN a b k + w64 (a[k]! * b[k]!))
def dotF (a b : List Int) : Int := dotN a b a.length
end Go.AM

/-! ## MxW4 -/
namespace Go.AM
open Go Go.Proofs Go.RowKit
structure Valid (m : List (List Int)) : Prop where
 pos : 0 < m.length
 le : m.length ≤ 12
 cpos : 0 < m[0]!.length
 cle : m[0]!.length ≤ 12
 small : min m[0]!.length m.length ≤ 6
 row : ∀ row ∈ m, row.length = m[0]!.length ∧ ∀ x ∈ row, -16 ≤ x ∧ x ≤ 16
theorem check_ok {m : List (List Int)} (h : mxCheckF m = 0) : Valid m := by
 unfold mxCheckF at h
 split at h
 ·cases h
 ·split at h
  ·cases h
  ·split at h
   ·cases h
   ·rename_i h1 h2 h3
    refine ⟨by omega, by omega, by omega, by omega, by omega, fun row hr => ?_⟩
    have h3 : m.any (badRow m[0]!.length) = false := by simpa using h3
    rw [List.any_eq_false] at h3
    have h4 : badRow m[0]!.length row = false := by simpa using h3 row hr
    unfold badRow at h4
    rw [Bool.or_eq_false_iff] at h4
    refine ⟨by simpa using h4.1, fun x hx => ?_⟩
    have h5 := h4.2
    rw [List.any_eq_false] at h5
    have h6 : lawBad x = false := by simpa using h5 x hx
    unfold lawBad at h6
    rw [Bool.or_eq_false_iff] at h6
    simp at h6
    omega
end Go.AM

/-! ## MxWA -/
namespace Go.AM
open Go Go.Proofs Go.RowKit
set_option maxRecDepth 100000
set_option maxHeartbeats 8000000
def detGo (rec : List Int → Int) (row cols : List Int) : Nat → Int × Int
 | 0 => (0, 1)
 | k + 1 => (if row[cols[k]!.toNat]! = 0 then (detGo rec row cols k).1 else w64 ((detGo rec row cols k).1 + w64 (w64 ((detGo rec row cols k).2 * row[cols[k]!.toNat]!) * rec (cols.take k ++ cols.drop (k + 1)))), w64 (0 - (detGo rec row cols k).2))
def detF (m : List (List Int)) : List Int → List Int → Int
 | [], _ => 1
 | r :: rs, cols => (detGo (detF m rs) m[r.toNat]! cols cols.length).1
def Wide (n : Nat) (m : List (List Int)) : Prop := ∀ row ∈ m, row.length = n
theorem Wide.at {n : Nat} {m : List (List Int)} (h : Wide n m) {i : Nat} (hi : i < m.length) : m[i]!.length = n := h _ (by simp [hi])
def Below (n : Nat) (l : List Int) : Prop := ∀ x ∈ l, 0 ≤ x ∧ x < n
theorem Below.at {n : Nat} {l : List Int} (h : Below n l) {i : Nat} (hi : i < l.length) : 0 ≤ l[i]! ∧ l[i]! < n := h _ (by simp [hi])
@[go_sem] theorem succ_beq0 {n : Nat} : (((n : Int) + 1) == 0) = false := by simp; omega
@[go_sem] theorem take_len {α β : Type} {l : List α} {f : α → β} : (l.map f).take l.length = l.map f := List.take_of_length_le (by simp)
@[go_sem] theorem vi_memless {l : List Int} : (l.map vi).all memless = true := by simp [List.all_map, Function.comp_def, vi, memless]
attribute [go_sem] true_or or_true false_or or_false
theorem con_det (m : List (List Int)) (n : Nat) (hn : n ≤ 1000) (hm : m.length ≤ 1000) (hw : Wide n m) : ∀ (rows cols : List Int), Below m.length rows → Below n cols → rows.length ≤ 1000 → cols.length ≤ 1000 →
  Con Try.prog 71 [vm 0 m, vs 0 rows, vs 0 cols] [] fun r _ => r = vi (detF m rows cols)
 | [], cols, _, _, _, _ => by
  refine Con.intro Try.func71 rfl Try.ntmps71 Try.results71 (by kernel_rfl) (by simp) 0 (by simp) ?_
  simp only [go_sem, detF]
 | r :: rs, cols, hr, hc, hrl, hcl => by
  have ih := fun cols' h1 h2 => con_det m n hn hm hw rs cols' (fun x hx => hr x (by simp [hx])) h1 (by simp at hrl; omega) h2
  refine Con.intro Try.func71 rfl Try.ntmps71 Try.results71 (by kernel_rfl) (by simp) 0 (by simp) ?_
  have hr0 := hr r (by simp)
  have hrt : r.toNat < m.length := by omega
  have hgm := getm hrt
  have hrow := hw.at hrt
  simp only [go_sem]
  refine LoopK.intro (fun k : Nat => ⟨56, [(0, vm 0 m), (1, vs 0 (r :: rs)), (2, vs 0 cols), (7, vi (detGo (detF m rs) m[r.toNat]! cols k).1), (8, vi (detGo (detF m rs) m[r.toNat]! cols k).2), (15, vs 0 cols), (16, vi cols.length), (17, vi k)], []⟩)
   (fun k => cols.length - k) (fun k => k ≤ cols.length) 0 (by omega) ?_ ?_
  ·simp only [go_sem, detGo]
  intro k hk
  by_cases h : k < cols.length
  ·have hg := getv h
   have hck := hc.at h
   have hct : cols[k]!.toNat < m[r.toNat]!.length := by omega
   have hgc := getv hct
   have hwk : IntKind.i64.wrap (k + 1) = k + 1 := wrap_in (by omega) (by omega)
   have hs : 0 < (rs.length : Int) + 1 := by omega
   have hcl2 : cols[k]! < (m[r.toNat]!.length : Int) := by omega
   by_cases hx : m[r.toNat]![cols[k]!.toNat]! = 0
   ·simp only [go_sem, h, hg, hr0, hgm, hck, hcl2, hgc, hx, hwk, hs]
    refine roundK.intro (k + 1) (by omega) (by omega) ?_
    simp only [go_sem, detGo, hx, w64]
   ·have hxb : (m[r.toNat]![cols[k]!.toNat]! != 0) = true := bne_iff_ne.2 hx
    have hk1 : ((k : Int) + 1).toNat = k + 1 := by omega
    have hkn : 0 ≤ (k : Int) + 1 := by omega
    have hB : bound [cols.take k, cols.drop (k + 1)] := ⟨by simp, fun row hr => by
     simp only [List.mem_cons, List.not_mem_nil, or_false] at hr
     rcases hr with rfl | rfl
     ·rw [List.length_take]; omega
     ·rw [List.length_drop]; omega⟩
    have hB2 : Below n (cols.take k ++ cols.drop (k + 1)) := fun x hx => by
     rcases List.mem_append.1 hx with h | h
     ·exact hc x (List.mem_of_mem_take h)
     ·exact hc x (List.mem_of_mem_drop h)
    simp only [go_sem, h, hg, hr0, hgm, hck, hcl2, hgc, hxb, hs]
    refine DrawK.walk 19 mixed (by kernel_rfl) ?_
    simp only [go_sem, hwk, hk1, hkn]
    refine ⟨by omega, by omega, by omega, by omega, ?_⟩
    refine CallY.mk (con_mxConcat _ hB) (by simp only [go_sem]; simp [List.map_take, List.map_drop]) (by simp only [go_sem]) (by simp only [go_sem]) ?_
    simp only [go_sem]
    refine CallY.mk (ih (cols.take k ++ cols.drop (k + 1)) hB2 (by simp; omega)) (by simp only [go_sem]; simp []) (by simp only [go_sem]) (by simp only [go_sem]) ?_
    simp only [go_sem, hwk]
    refine roundK.intro (k + 1) (by omega) (by omega) ?_
    simp only [go_sem, detGo, hx, w64]
  ·have : k = cols.length := by omega
   subst this
   simp only [go_sem, Nat.lt_irrefl, detF]
end Go.AM

/-! ## MxWB -/
namespace Go.AM
open Go Go.Proofs Go.RowKit
set_option maxRecDepth 100000
set_option maxHeartbeats 8000000
def pickOk (m : List (List Int)) (p : List Int × List Int) (j : Int) (i : Nat) : Bool := !(p.1.any fun x => (i : Int) == x) && detF m (p.1 ++ [(i : Int)]) (p.2 ++ [j]) != 0
def pickF (m : List (List Int)) (p : List Int × List Int) (j : Int) : Option Nat := (List.range m.length).find? (pickOk m p j)
def leadGo (m : List (List Int)) : Nat → List Int × List Int
 | 0 => ([], [])
 | j + 1 => match pickF m (leadGo m j) j with
  | some i => ((leadGo m j).1 ++ [(i : Int)], (leadGo m j).2 ++ [(j : Int)])
  | none => leadGo m j
def leadF (m : List (List Int)) : List Int × List Int := leadGo m m[0]!.length
theorem pick_some {m : List (List Int)} {p : List Int × List Int} {j : Int} {i : Nat} (h : i < m.length) (hb : ∀ k, k < i → pickOk m p j k = false) (hp : pickOk m p j i = true) : pickF m p j = some i := by
 unfold pickF
 rw [List.find?_range_eq_some]
 exact ⟨hp, List.mem_range.2 h, fun k hk => by simp [hb k hk]⟩
theorem pick_none {m : List (List Int)} {p : List Int × List Int} {j : Int} (hb : ∀ k, k < m.length → pickOk m p j k = false) : pickF m p j = none := by
 unfold pickF
 rw [List.find?_eq_none]
 intro k hk
 simp [hb k (List.mem_range.1 hk)]
theorem pick_lt {m : List (List Int)} {p : List Int × List Int} {j : Int} {i : Nat} (h : pickF m p j = some i) : i < m.length ∧ pickOk m p j i = true := by
 have := List.find?_some h
 exact ⟨List.mem_range.1 (List.mem_of_find?_eq_some h), this⟩
structure LeadOk (m : List (List Int)) (j : Nat) : Prop where
 rows : Below m.length (leadGo m j).1
 cols : Below j (leadGo m j).2
 same : (leadGo m j).1.length = (leadGo m j).2.length
 le : (leadGo m j).2.length ≤ j
theorem Below.snoc {n : Nat} {l : List Int} {x : Int} (h : Below n l) (h1 : 0 ≤ x) (h2 : x < n) : Below n (l ++ [x]) := fun y hy => by
 rcases List.mem_append.1 hy with hy | hy
 ·exact h y hy
 ·simp at hy; subst hy; exact ⟨h1, h2⟩
theorem Below.mono {n k : Nat} {l : List Int} (h : Below n l) (hk : n ≤ k) : Below k l := fun x hx => by have := h x hx; omega
theorem lead_ok (m : List (List Int)) : ∀ j, LeadOk m j
 | 0 => ⟨by simp [leadGo, Below], by simp [leadGo, Below], rfl, by simp [leadGo]⟩
 | j + 1 => by
  obtain ⟨h1, h2, h3, h4⟩ := lead_ok m j
  cases hp : pickF m (leadGo m j) j with
  | none => exact ⟨by simpa [leadGo, hp] using h1, by simp only [leadGo, hp]; exact h2.mono (by omega), by simpa [leadGo, hp] using h3, by simp only [leadGo, hp]; omega⟩
  | some i =>
   have := (pick_lt hp).1
   exact ⟨by simp only [leadGo, hp]; exact h1.snoc (by omega) (by omega), by simp only [leadGo, hp]; exact (h2.mono (k := j + 1) (by omega)).snoc (by omega) (by omega), by simp [leadGo, hp, h3], by simp [leadGo, hp]; omega⟩
theorem con_leading (m : List (List Int)) (n : Nat) (hn : n ≤ 500) (h0 : 0 < m.length) (hm : m.length ≤ 500) (hw : Wide n m) : Con Try.prog 70 [vm 0 m] [] fun r _ => r = .tup [vs 0 (leadF m).1, vs 0 (leadF m).2] := by
 refine Con.intro Try.func70 rfl Try.ntmps70 Try.results70 (by kernel_rfl) (by simp) 0 (by simp) ?_
 have hg0 := getm h0
 have hn0 := hw.at h0
 simp only [go_sem, hg0, h0]
 refine LoopK.intro (fun j : Nat => ⟨44, [(0, vm 0 m), (2, vs 0 (leadGo m j).1), (3, vs 0 (leadGo m j).2), (11, vi m[0]!.length), (12, vi j)], []⟩)
  (fun j => m[0]!.length - j) (fun j => j ≤ m[0]!.length) 0 (by omega) ?_ ?_
 ·simp only [go_sem, leadGo, List.map_nil]
 intro j hj
 by_cases h : j < m[0]!.length
 ·have hwj : IntKind.i64.wrap (j + 1) = j + 1 := wrap_in (by omega) (by omega)
  obtain ⟨k1, k2, k3, k4⟩ := lead_ok m j
  simp only [go_sem, h]
  refine LoopK.intro (fun i : Nat => ⟨44, [(0, vm 0 m), (2, vs 0 (leadGo m j).1), (3, vs 0 (leadGo m j).2), (4, vi j), (11, vi m[0]!.length), (12, vi j), (16, vi m.length), (17, vi i)], []⟩)
   (fun i => m.length - i) (fun i => i ≤ m.length ∧ ∀ k, k < i → pickOk m (leadGo m j) j k = false) 0 ⟨by omega, fun k hk => by omega⟩ ?_ ?_
  ·simp only [go_sem]
  rintro i ⟨hi, hb⟩
  by_cases h2 : i < m.length
  ·have hwi : IntKind.i64.wrap (i + 1) = i + 1 := wrap_in (by omega) (by omega)
   simp only [go_sem, h2]
   refine CallU.free (con_mxContains (leadGo m j).1 i (by omega)) (by simp only [go_sem]) (by simp only [go_sem]) ?_
   rintro r bx rfl
   cases hc : (leadGo m j).1.any fun x => (i : Int) == x
   ·simp only [go_sem]
    refine CallU.free (con_clip (leadGo m j).1) (by simp only [go_sem]) (by simp only [go_sem]) ?_
    rintro r bx rfl
    simp only [go_sem]
    refine ⟨by simp [roomFor]; omega, ?_⟩
    refine CallU.free (con_clip (leadGo m j).2) (by simp only [go_sem]) (by simp only [go_sem]) ?_
    rintro r bx rfl
    simp only [go_sem]
    refine ⟨by simp [roomFor]; omega, ?_⟩
    refine CallU.flat (con_det m n (by omega) (by omega) hw ((leadGo m j).1 ++ [(i : Int)]) ((leadGo m j).2 ++ [(j : Int)]) (k1.snoc (by omega) (by omega)) ((k2.mono (k := n) (by omega)).snoc (by omega) (by omega)) (by simp; omega) (by simp; omega)) (by simp only [go_sem]) (by simp only [go_sem]; simp [vi]) ?_
    rintro r bx rfl
    by_cases hd : detF m ((leadGo m j).1 ++ [(i : Int)]) ((leadGo m j).2 ++ [(j : Int)]) = 0
    ·have hp : pickOk m (leadGo m j) j i = false := by simp [pickOk, hd]
     simp only [go_sem, hd, hwi]
     refine roundK.intro (i + 1) ⟨by omega, fun k hk => ?_⟩ (by omega) ?_
     ·by_cases hki : k = i
      ·subst hki; exact hp
      ·exact hb k (by omega)
     ·simp only [go_sem]
    ·have hdb : (detF m ((leadGo m j).1 ++ [(i : Int)]) ((leadGo m j).2 ++ [(j : Int)]) != 0) = true := bne_iff_ne.2 hd
     have hp : pickF m (leadGo m j) j = some i := pick_some h2 hb (by simp only [pickOk, hc, hdb]; rfl)
     simp only [go_sem, hdb, hwj]
     refine roundK.freeze (fun _ => true) (j + 1) (by omega) (by omega) ?_
     simp only [go_sem, leadGo, hp]
     exact ⟨leV_sl (by simp [vi]), leV_sl (by simp [vi])⟩
   ·have hp : pickOk m (leadGo m j) j i = false := by simp [pickOk, hc]
    simp only [go_sem, hwi]
    refine roundK.intro (i + 1) ⟨by omega, fun k hk => ?_⟩ (by omega) ?_
    ·by_cases hki : k = i
     ·subst hki; exact hp
     ·exact hb k (by omega)
    ·simp only [go_sem]
  ·have hp : pickF m (leadGo m j) j = none := pick_none fun k hk => hb k (by omega)
   simp only [go_sem, h2, hwj]
   refine roundK.intro (j + 1) (by omega) (by omega) ?_
   simp only [go_sem, leadGo, hp]
 ·have : j = m[0]!.length := by omega
  subst this
  simp only [go_sem, Nat.lt_irrefl, leadF]
theorem Valid.wide {m : List (List Int)} (h : Valid m) : Wide m[0]!.length m := fun row hr => (h.row row hr).1
end Go.AM

/-! ## MxW7 -/
namespace Go.AM
open Go Go.Proofs Go.RowKit
theorem mul_bound {x y a b : Int} (h1 : -a ≤ x) (h2 : x ≤ a) (h3 : -b ≤ y) (h4 : y ≤ b) : -(a * b) ≤ x * y ∧ x * y ≤ a * b := by
 have e1 : 0 ≤ (a - x) * (b + y) := Int.mul_nonneg (by omega) (by omega)
 have e2 : 0 ≤ (a + x) * (b - y) := Int.mul_nonneg (by omega) (by omega)
 have e3 : 0 ≤ (a - x) * (b - y) := Int.mul_nonneg (by omega) (by omega)
 have e4 : 0 ≤ (a + x) * (b + y) := Int.mul_nonneg (by omega) (by omega)
 simp only [Int.sub_mul, Int.add_mul, Int.mul_add, Int.mul_sub] at e1 e2 e3 e4
 omega
end Go.AM

/-! ## MxWC -/
namespace Go.AM
open Go Go.Proofs Go.RowKit
theorem mem_at {α : Type} [Inhabited α] {l : List α} {i : Nat} (h : i < l.length) : l[i]! ∈ l := by rw [getElem!_pos l i h]; exact List.getElem_mem h
def detGoZ (rec : List Int → Int) (row cols : List Int) : Nat → Int × Int
 | 0 => (0, 1)
 | k + 1 => ((detGoZ rec row cols k).1 + (detGoZ rec row cols k).2 * row[cols[k]!.toNat]! * rec (cols.take k ++ cols.drop (k + 1)), - (detGoZ rec row cols k).2)
def detZ (m : List (List Int)) : List Int → List Int → Int
 | [], _ => 1
 | r :: rs, cols => (detGoZ (detZ m rs) m[r.toNat]! cols cols.length).1
def Slight (m : List (List Int)) : Prop := ∀ row ∈ m, ∀ x ∈ row, -16 ≤ x ∧ x ≤ 16
theorem detGo_eq {rec recZ : List Int → Int} {row cols : List Int} {B : Int} (hB : 0 ≤ B) (hB2 : B ≤ 8153726976)
  (hrow : ∀ k, k < cols.length → -16 ≤ row[cols[k]!.toNat]! ∧ row[cols[k]!.toNat]! ≤ 16)
  (hrec : ∀ k, k < cols.length → rec (cols.take k ++ cols.drop (k + 1)) = recZ (cols.take k ++ cols.drop (k + 1)) ∧ -B ≤ recZ (cols.take k ++ cols.drop (k + 1)) ∧ recZ (cols.take k ++ cols.drop (k + 1)) ≤ B) :
  ∀ k, k ≤ cols.length → k ≤ 6 → detGo rec row cols k = detGoZ recZ row cols k ∧ -(k * (16 * B)) ≤ (detGoZ recZ row cols k).1 ∧ (detGoZ recZ row cols k).1 ≤ k * (16 * B) ∧ ((detGoZ recZ row cols k).2 = 1 ∨ (detGoZ recZ row cols k).2 = -1)
 | 0, _, _ => by simp [detGo, detGoZ]
 | k + 1, hk, h6 => by
  obtain ⟨h1, h2, h3, h4⟩ := detGo_eq hB hB2 hrow hrec k (by omega) (by omega)
  obtain ⟨g1, g2, g3⟩ := hrec k (by omega)
  have hr := hrow k (by omega)
  have hsx : ∃ s, s = (detGoZ recZ row cols k).2 * row[cols[k]!.toNat]! ∧ -16 ≤ s ∧ s ≤ 16 := ⟨_, rfl, by rcases h4 with h4 | h4 <;> rw [h4] <;> omega, by rcases h4 with h4 | h4 <;> rw [h4] <;> omega⟩
  obtain ⟨s, hs, hs1, hs2⟩ := hsx
  have hm := mul_bound hs1 hs2 g2 g3
  have hk6 : (k : Int) * (16 * B) ≤ 5 * (16 * B) := Int.mul_le_mul_of_nonneg_right (by omega) (by omega)
  have e1 : ((k + 1 : Nat) : Int) * (16 * B) = k * (16 * B) + 16 * B := by rw [Int.natCast_add, Int.add_mul]; simp
  have e2 : w64 s = s := wrap_in (by omega) (by omega)
  have e3 : w64 (s * recZ (cols.take k ++ cols.drop (k + 1))) = s * recZ (cols.take k ++ cols.drop (k + 1)) := wrap_in (by omega) (by omega)
  have e4 : w64 ((detGoZ recZ row cols k).1 + s * recZ (cols.take k ++ cols.drop (k + 1))) = (detGoZ recZ row cols k).1 + s * recZ (cols.take k ++ cols.drop (k + 1)) := wrap_in (by omega) (by omega)
  have e5 : w64 (0 - (detGoZ recZ row cols k).2) = -(detGoZ recZ row cols k).2 := by rcases h4 with h4 | h4 <;> rw [h4] <;> rfl
  simp only [detGo, detGoZ, h1, g1, ← hs, e2, e3, e4, e5]
  refine ⟨?_, by rw [e1]; omega, by rw [e1]; omega, by omega⟩
  by_cases hx : row[cols[k]!.toNat]! = 0
  ·have hs0 : s = 0 := by rw [hs, hx, Int.mul_zero]
   rw [if_pos hx, hs0, Int.zero_mul, Int.add_zero]
  ·rw [if_neg hx]
theorem det_eq (m : List (List Int)) (n : Nat) (hw : Wide n m) (hs : Slight m) : ∀ (rows cols : List Int), Below m.length rows → Below n cols → rows.length ≤ 6 → cols.length ≤ 6 →
  detF m rows cols = detZ m rows cols ∧ -(96 ^ rows.length) ≤ detZ m rows cols ∧ detZ m rows cols ≤ 96 ^ rows.length
 | [], cols, _, _, _, _ => by simp [detF, detZ]
 | r :: rs, cols, hr, hc, hrl, hcl => by
  have hr0 := hr r (by simp)
  have hrt : r.toNat < m.length := by omega
  have hrow := hw.at hrt
  have hsm := hs m[r.toNat]! (by simp [hrt])
  have hp : (0 : Int) ≤ 96 ^ rs.length := Int.pow_nonneg (by omega)
  have hp2 : (96 : Int) ^ rs.length ≤ 8153726976 := by
   have : rs.length ≤ 5 := by simp at hrl; omega
   have h : rs.length = 0 ∨ rs.length = 1 ∨ rs.length = 2 ∨ rs.length = 3 ∨ rs.length = 4 ∨ rs.length = 5 := by omega
   rcases h with h | h | h | h | h | h <;> rw [h] <;> decide
  have := detGo_eq (rec := detF m rs) (recZ := detZ m rs) (row := m[r.toNat]!) (cols := cols) hp hp2
   (fun k hk => by
    have hck := hc.at hk
    have hct : cols[k]!.toNat < m[r.toNat]!.length := by omega
    exact hsm _ (mem_at hct))
   (fun k hk => by
    refine det_eq m n hw hs rs (cols.take k ++ cols.drop (k + 1)) (fun x hx => hr x (by simp [hx])) (fun x hx => ?_) (by simp at hrl; omega) (by simp; omega)
    rcases List.mem_append.1 hx with h | h
    ·exact hc x (List.mem_of_mem_take h)
    ·exact hc x (List.mem_of_mem_drop h))
   cols.length (Nat.le_refl _) hcl
  obtain ⟨h1, h2, h3, _⟩ := this
  have hmul : (cols.length : Int) * (16 * 96 ^ rs.length) ≤ 6 * (16 * 96 ^ rs.length) := Int.mul_le_mul_of_nonneg_right (by omega) (by omega)
  have e : (96 : Int) ^ (r :: rs).length = 6 * (16 * 96 ^ rs.length) := by rw [List.length_cons, Int.pow_succ]; omega
  simp only [detF, detZ, h1, e]
  exact ⟨trivial, by omega, by omega⟩
theorem lead_nodup (m : List (List Int)) : ∀ j, (leadGo m j).1.Nodup
 | 0 => by simp [leadGo]
 | j + 1 => by
  have ih := lead_nodup m j
  cases hp : pickF m (leadGo m j) j with
  | none => simpa [leadGo, hp] using ih
  | some i =>
   have hq := (pick_lt hp).2
   simp only [leadGo, hp]
   rw [List.nodup_append]
   refine ⟨ih, by simp, fun a ha b hb => ?_⟩
   simp at hb; subst hb
   intro hab; subst hab
   simp only [pickOk, Bool.and_eq_true, Bool.not_eq_true'] at hq
   have := hq.1
   rw [List.any_eq_false] at this
   exact this _ ha (by simp)
theorem nodup_below : ∀ (n : Nat) (l : List Int), l.Nodup → Below n l → l.length ≤ n
 | 0, l, _, hb => by
  cases l with
  | nil => simp
  | cons x l => have := hb x (by simp); omega
 | n + 1, l, hn, hb => by
  have h1 := nodup_below n (l.filter fun x => x != (n : Int)) (hn.filter _) (fun x hx => by
   simp only [List.mem_filter, bne_iff_ne] at hx
   have := hb x hx.1; omega)
  have h2 : l.length ≤ (l.filter fun x => x != (n : Int)).length + 1 := by
   have hc : l.count (n : Int) ≤ 1 := List.nodup_iff_count.1 hn _
   have := List.length_eq_countP_add_countP (fun x => x != (n : Int)) (l := l)
   rw [List.countP_eq_length_filter] at this
   have e : List.countP (fun a => decide ¬(a != (n : Int)) = true) l = l.count (n : Int) := by
    rw [List.count]
    congr 1
    funext a
    by_cases h : a = n <;> simp [h]
   omega
  omega
theorem lead_len {m : List (List Int)} (hV : Valid m) : (leadF m).1.length ≤ 6 ∧ (leadF m).2.length = (leadF m).1.length ∧ Below m.length (leadF m).1 ∧ Below m[0]!.length (leadF m).2 := by
 obtain ⟨h1, h2, h3, h4⟩ := lead_ok m m[0]!.length
 have h5 := nodup_below _ _ (lead_nodup m m[0]!.length) h1
 have := hV.small
 unfold leadF
 exact ⟨by omega, h3.symm, h1, h2⟩
theorem lead_ne (m : List (List Int)) : ∀ j, detF m (leadGo m j).1 (leadGo m j).2 ≠ 0
 | 0 => by simp [leadGo, detF]
 | j + 1 => by
  cases hp : pickF m (leadGo m j) j with
  | none => simpa [leadGo, hp] using lead_ne m j
  | some i =>
   have hq := (pick_lt hp).2
   simp only [leadGo, hp]
   simp only [pickOk, Bool.and_eq_true, bne_iff_ne] at hq
   exact hq.2
end Go.AM

/-! ## MxWD -/
namespace Go.AM
open Go Go.Proofs Go.RowKit
set_option maxRecDepth 100000
set_option maxHeartbeats 8000000
theorem con_divisor (a b : Nat) : Con Try.prog 91 [vi a, vi b] [] fun r _ => r = vi (Nat.gcd a b) := by
 refine Con.intro Try.func91 rfl Try.ntmps91 Try.results91 (by kernel_rfl) (by simp) 0 (by simp) ?_
 simp only [go_sem]
 refine LoopK.intro (fun p : Nat × Nat => ⟨12, [(0, vi p.1), (1, vi p.2)], []⟩) (fun p => p.2) (fun p => Nat.gcd p.1 p.2 = Nat.gcd a b) (a, b) rfl ?_ ?_
 ·simp only [go_sem]
 rintro ⟨x, y⟩ hxy
 simp only at hxy
 by_cases h : 0 < y
 ·have hne : (y : Int) ≠ 0 := by omega
  have hm : Int.tmod (x : Int) (y : Int) = ((x % y : Nat) : Int) := by rw [Int.tmod_eq_emod_of_nonneg (by omega)]; rfl
  simp only [go_sem, h]
  refine DrawK.walk 5 mixed (by kernel_rfl) ?_
  simp only [go_sem, hm]
  refine ⟨hne, roundK.intro (y, x % y) ?_ ?_ ?_⟩
  ·simp only; rw [← hxy, Nat.gcd_comm x y, Nat.gcd_rec y x]; exact Nat.gcd_comm _ _
  ·exact Nat.mod_lt _ h
  ·simp only [go_sem]
 ·have : y = 0 := by omega
  subst this
  simp only [go_sem]
  rw [← hxy, Nat.gcd_zero_right]
def gcdN (l : List Int) : Nat → Nat
 | 0 => 0
 | k + 1 => Nat.gcd (gcdN l k) l[k]!.natAbs
def gcdF (l : List Int) : Nat := gcdN l l.length
def primF (l : List Int) : List Int := l.map fun x => x.tdiv (gcdF l)
theorem gcdN_dvd {l : List Int} : ∀ k i, i < k → (gcdN l k) ∣ l[i]!.natAbs
 | 0, i, h => by omega
 | k + 1, i, h => by
  by_cases hi : i = k
  ·subst hi; exact Nat.gcd_dvd_right _ _
  ·exact Nat.dvd_trans (Nat.gcd_dvd_left _ _) (gcdN_dvd k i (by omega))
theorem gcdF_pos {l : List Int} {x : Int} (h : x ∈ l) (hx : x ≠ 0) : 0 < gcdF l := by
 obtain ⟨i, hi⟩ := List.getElem?_of_mem h
 have hil := (List.getElem?_eq_some_iff.1 hi).1
 have := gcdN_dvd (l := l) l.length i hil
 have e : l[i]! = x := by simp [hi]
 rw [e] at this
 exact Nat.pos_of_dvd_of_pos this (by omega)
def divTo (l : List Int) (g : Int) (k : Nat) : List Int := (l.take k).map (fun x => x.tdiv g) ++ l.drop k
theorem divTo_zero (l : List Int) (g : Int) : divTo l g 0 = l := by simp [divTo]
theorem divTo_len (l : List Int) (g : Int) (k : Nat) : (divTo l g k).length = l.length := by simp [divTo]; omega
theorem divTo_end (l : List Int) (g : Int) : divTo l g l.length = l.map fun x => x.tdiv g := by simp [divTo]
theorem divTo_at {l : List Int} {g : Int} {k : Nat} (h : k < l.length) : (divTo l g k)[k]! = l[k]! := by
 simp only [divTo]
 rw [getElem!_pos _ _ (by simp; omega), List.getElem_append_right (by simp; omega)]
 simp [h, Nat.min_eq_left (Nat.le_of_lt h)]
theorem divTo_set {l : List Int} {g : Int} {k : Nat} (h : k < l.length) : (divTo l g k).set k (l[k]!.tdiv g) = divTo l g (k + 1) := by
 simp only [divTo]
 have hmin : min k l.length = k := by omega
 have e : l.take (k + 1) = l.take k ++ [l[k]!] := by rw [List.take_add_one, List.getElem?_eq_getElem h]; simp [h]
 rw [e, List.map_append, List.set_append_right _ _ (by simp; omega), List.length_map, List.length_take, hmin, Nat.sub_self, List.drop_eq_getElem_cons h, List.set_cons_zero, List.append_assoc]
 rfl
theorem con_primitive (l : List Int) (hl : l.length ≤ 1000000) (hb : ∀ x ∈ l, -4611686018427387904 ≤ x ∧ x ≤ 4611686018427387904) (hg : 0 < gcdF l) : Con Try.prog 75 [vs 0 l] [] fun r _ => r = vs 2 (primF l) := by
 refine Con.intro Try.func75 rfl Try.ntmps75 Try.results75 (by kernel_rfl) (by simp) 0 (by simp) ?_
 simp only [go_sem]
 refine LoopK.intro (fun k : Nat => ⟨35, [(0, vs 0 l), (3, vi (gcdN l k)), (8, vs 0 l), (9, vi l.length), (10, vi k)], []⟩) (fun k => l.length - k) (fun k => k ≤ l.length) 0 (by omega) ?_ ?_
 ·simp only [go_sem, gcdN]
 intro k hk
 by_cases h : k < l.length
 ·have hgk := getv h
  have hwk : IntKind.i64.wrap (k + 1) = k + 1 := wrap_in (by omega) (by omega)
  have hbk := hb l[k]! (mem_at h)
  have ha : max l[k]! (w64 (-l[k]!)) = (l[k]!.natAbs : Int) := by
   have : w64 (-l[k]!) = -l[k]! := wrap_in (by omega) (by omega)
   rw [this]; omega
  simp only [go_sem, h, hgk]
  refine CallU.free (con_amount l[k]!) (by simp only [go_sem]) (by simp only [go_sem]) ?_
  rintro r bx rfl
  simp only [go_sem, ha]
  refine CallU.free (con_divisor (gcdN l k) l[k]!.natAbs) (by simp only [go_sem]) (by simp only [go_sem]) ?_
  rintro r bx rfl
  simp only [go_sem, hwk]
  refine roundK.intro (k + 1) (by omega) (by omega) ?_
  simp only [go_sem, gcdN]
 have hkl : k = l.length := by omega
 simp only [go_sem, h]
 refine CallU.free (con_mxClone l (by omega)) (by simp only [go_sem]) (by simp only [go_sem]) ?_
 rintro r bx rfl
 subst hkl
 have hgc : gcdN l l.length = gcdF l := rfl
 simp only [go_sem, hgc]
 refine LoopK.intro (fun k : Nat => ⟨35, [(3, vi (gcdF l)), (6, vs 1346 (divTo l (gcdF l) k)), (22, vi l.length), (23, vi k)], []⟩) (fun k => l.length - k) (fun k => k ≤ l.length) 0 (by omega) ?_ ?_
 ·simp only [go_sem, divTo_zero]
 intro k hk
 by_cases h2 : k < l.length
 ·have hgk := getv (l := divTo l (gcdF l) k) (i := k) (by rw [divTo_len]; exact h2)
  rw [divTo_at h2] at hgk
  have hwk : IntKind.i64.wrap (k + 1) = k + 1 := wrap_in (by omega) (by omega)
  have hbk := hb l[k]! (mem_at h2)
  have hne : (gcdF l : Int) ≠ 0 := by omega
  have hq : IntKind.i64.wrap (l[k]!.tdiv (gcdF l)) = l[k]!.tdiv (gcdF l) := by
   have h1 : (l[k]!.tdiv (gcdF l)).natAbs ≤ l[k]!.natAbs := by rw [Int.natAbs_tdiv]; exact Nat.div_le_self _ _
   exact wrap_in (by omega) (by omega)
  simp only [go_sem, h2, hgk, divTo_len, hq]
  refine ⟨hne, ?_⟩
  simp only [go_sem, modify_vi, divTo_set h2, hwk]
  refine roundK.intro (k + 1) (by omega) (by omega) ?_
  simp only [go_sem]
 ·have hkl : k = l.length := by omega
  subst hkl
  simp only [go_sem, h2, divTo_end, primF]
end Go.AM
