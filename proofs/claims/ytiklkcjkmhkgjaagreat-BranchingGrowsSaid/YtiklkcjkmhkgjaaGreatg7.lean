/- AmW AmZ Am0 Am4 LInv CmA CmB0 LBra LBra2 LBra3 Ty LCand CmD CmE CmF CmG CmH CmI -/
import Derived.Test.YtiklkcjkmhkgjaaGreatg6
import Derived.Test.YtiklkcjkmhkgjaaGreatg4
import Derived.Shelf.Sort.Plain
import Derived.Shelf.Slices.CompactI
import Derived.Maps.Views
import Derived.Test.YtiklkcjkmhkgjaaGreatRows
import Derived.Test.YtiklkcjkmhkgjaaGreatProg
namespace Go.AM
open Go.RowKit
theorem freeT_put {d : Nat} {x : AV} (hx : x.allLeaf (freeLeaf d) = true) : ∀ {l : List (Nat × AV)} {s : Nat}, freeT d l = true -> freeT d (putT l s x) = true
 | [], s, _ => by simp [putT, freeT, hx]
 | (s', v) :: r, s, h => by
  simp only [freeT, Bool.and_eq_true] at h
  unfold putT
  split
  ·simp [freeT, hx, h.2]
  ·simp [freeT, h.1, freeT_put hx h.2]
def posE (E : List Nat) (L : Nat -> Bool) : Nat := (E.filter L).length
def EffC (P : Program) (σ0 : St) (i0 : Nat) (o : Oper) (d : Nat) (ρ : Operand -> AV) (c : List AV) (y : AV) (c' : List AV) : Prop :=
 o.guard = none /\ ∃ fid args As r c1, o.op = .call { callee := .value (.func fid), args := args, argTypes := As } /\ dedup (pbss (args.toList.map ρ)) = [i0] /\ allLeafs noTag (args.toList.map ρ) = true /\ allNoTags [c] = true /\
  Con P fid (mapTops (pbIn [i0]) (args.toList.map ρ)) (mapB (pbIn [i0]) [c]) (fun r' bx => r' = r /\ bx = [c1]) /\ r.allLeaf lt64b = true /\ allNoTags [c1] = true /\
  y = r.mapTop (outLeaf (64 * (d + 1)) [i0] σ0.boxes.length) /\ [c'] = mapB (outLeaf (64 * (d + 1)) [i0] σ0.boxes.length) [c1]
def blankC : List Nat -> List AV -> List AV
 | [], c => c
 | _ :: _, c => c.map fun _ => .any
structure AtE (vs : List (Nat × AV)) (E : List Nat) (C : Nat -> List AV) (i0 : Nat) (L : Nat -> Bool) (σ τ : St) : Prop where
 n : τ.n = σ.n
 boxes : τ.boxes = σ.boxes.set i0 (C (posE E L))
 dst : ∀ (i d : Nat) (y : AV), vs[i]? = some (d, y) -> τ.get d = if L i = true then y else σ.get d
 rest : ∀ s : Nat, (∀ (i d : Nat) (y : AV), vs[i]? = some (d, y) -> d ≠ s) -> τ.get s = σ.get s
section
variable {P : Program} {ops : Array Oper} {m : Nat} {vs : List (Nat × AV)} {E : List Nat} {C : Nat -> List AV} {i0 : Nat} {σ : St} {K : St -> Prop} {G0 : Orig} {w0 : World} {Q : Exit -> Act -> World -> Prop}
theorem BRel.blank {gh : Gh} {G : Nat -> Status} {w : World} {bx : List (List AV)} {c c' : List AV} (h : BRel gh G w (bx.set i0 c)) (hl : c.length = c'.length) (he : E = [] -> c = c') : BRel gh G w (bx.set i0 (blankC E c')) := by
 cases E with
 | nil => rw [<- he rfl]; exact h
 | cons e E =>
 refine ⟨fun i vs hv => by have := h.low i vs hv; simpa using this, fun i cs hi => ?_⟩
 rw [List.getElem?_set] at hi
 by_cases hii : i0 = i
 ·subst hii
  rw [if_pos rfl] at hi
  split at hi
  ·rename_i hlt
   cases hi
   have h2 := h.cell i0 c (by rw [List.getElem?_set, if_pos rfl, if_pos hlt])
   refine h2.turn (by simp [blankC, hl]) (fun j x y v h3 h4 hr => ?_) (fun b hb => ⟨hb, rfl⟩) fun h0 => h0
   unfold blankC at h4
   rw [List.getElem?_map] at h4
   cases hc : c'[j]? with
   | none => simp [hc] at h4
   | some z => simp [hc] at h4; subst h4; exact .froz (.any _)
  ·cases hi
 ·rw [if_neg hii] at hi
  exact h.cell i cs (by rw [List.getElem?_set, if_neg hii]; exact hi)
theorem posE_step {L L' : Nat -> Bool} {i : Nat} (hn : E.Nodup) (hL : ∀ j, j ≠ i -> L' j = L j) (h1 : L i = false) (h2 : L' i = true) : posE E L' = posE E L + if i ∈ E then 1 else 0 := by
 unfold posE
 induction E with
 | nil => simp
 | cons e E ih =>
  have hn' := List.nodup_cons.1 hn
  have ih := ih hn'.2
  by_cases he : e = i
  ·subst he
   have hni : e ∉ E := hn'.1
   rw [if_neg hni] at ih
   simp only [List.filter_cons, h1, h2, if_true, Bool.false_eq_true, if_false, List.length_cons, List.mem_cons, true_or, if_true]
   omega
  ·simp only [List.filter_cons, hL e he, List.mem_cons, Ne.symm he, false_or]
   split
   ·simp only [List.length_cons]; omega
   ·exact ih
structure PlanE (ops : Array Oper) (m : Nat) (E : List Nat) : Prop where
 nodup : E.Nodup
 lt : ∀ e ∈ E, e < m
 chain : ∀ e ∈ E, ∀ e' ∈ E, e < e' -> reach ops ops.size e' e = true
def sgIs (sg : Option (Nat × Tr)) (j : Nat) : Bool := match sg with
 | some (x, _) => j == x
 | none => false
def sgA (P : Program) (ops : Array Oper) (sg : Option (Nat × Tr)) (σ : St) (K : St -> Prop) : Prop := match sg with
 | none => True
 | some (x, t) => match ops[x]? with
  | some o => ∃ d, o.dst = some d /\ treeA P ops t (σ.put (some d) .any) K
  | none => False
structure PlanL (ops : Array Oper) (m : Nat) (E LF : List Nat) (tr : Tr) (sg : Option (Nat × Tr)) : Prop where
 le : m <= ops.size
 lt : ∀ i o, ops[i]? = some o -> ∀ k ∈ edges o, k < i
 head : ∀ i o, ops[i]? = some o -> i < m -> ∃ d, o.dst = some d /\ d ∉ slotsG ops o /\ ∀ j p s, j < m -> j ≠ i -> ops[j]? = some p -> p.dst = some s -> s ≠ d /\ (s ∈ slotsG ops o -> if j < i then reach ops ops.size i j = true else reach ops ops.size j i = true)
 tail : ∀ i o, ops[i]? = some o -> m <= i -> ∀ j, j < m -> j ∉ LF -> sgIs sg j = false -> reach ops ops.size i j = true
 fr : ∀ j ∈ LF, j < m /\ j ∉ E /\ ∀ p, ops[j]? = some p -> ∃ d, Front ops j p d
 tr : trOk ops true (List.range m) tr = true
 sg : ∀ x t, sg = some (x, t) -> x < m /\ x ∉ E /\ x ∉ LF /\ (∀ j ∈ LF, ∀ p, ops[j]? = some p -> x ∉ edges p) /\ trOk ops true ((List.range m).filter fun i => !(i == x)) t = true
def FrontC (P : Program) (o : Oper) (ρ : Operand -> AV) (y : AV) : Prop :=
 ∀ (G : Nat -> Status) (a : Act) (w : World), Good G w -> (∀ x ∈ o.op.operands, VRel G w (ρ x) (a.eval x)) -> ∃ v, VRel G w y v /\ ∀ w', (execOp a.eval o).run P w' = .ok (.value v) w'
theorem head_runE {LF : List Nat} {tr : Tr} {sg : Option (Nat × Tr)} (hp : PlanL ops m E LF tr sg) (hE : PlanE ops m E) (h0 : True) (hN : ∀ e a w, e ≠ .normal -> ¬ Q e a w) (hQ : ∀ σ' G' a' w', K σ' -> SRel G0 w0 σ' G' a' w' -> Q .normal a' w') (hvl : vs.length = m) (hap : Apart vs) (hC : ∀ j, (C j).length = (C 0).length)
    (hK : treeA P ops tr (puts { σ with boxes := σ.boxes.set i0 (C E.length) } vs) K) (hK2 : sgA P ops sg (puts { σ with boxes := σ.boxes.set i0 (C E.length) } vs) K)
    (hst : ∀ i o, i < m -> ops[i]? = some o -> ∃ d y, vs[i]? = some (d, y) /\ o.dst = some d /\ d < σ.n /\
      if i ∈ E then EffC P σ i0 o d (puts σ (vs.take i)).ev (C (E.filter fun e => decide (e < i)).length) y (C ((E.filter fun e => decide (e < i)).length + 1)) else if i ∈ LF then FrontC P o (puts σ (vs.take i)).ev y else StepG P ops o d (puts σ (vs.take i)) (σ.boxes.set i0 (blankC E (C 0))) y)
    (hfr : ∀ i o d, ops[i]? = some o -> i < m -> o.dst = some d -> creates o.op = true -> (∀ j d' y, j ≠ i -> vs[j]? = some (d', y) -> y.allLeaf (freeLeaf d) = true) /\ ∀ j, allLeafs (freeLeaf d) (C j) = true) :
    ∀ (fuel : Nat) (listed : Array Bool) (U : List Nat) (τ : St) (G : Nat -> Status) (a : Act) (w : World), Left ops listed U -> U.length = fuel -> (∀ i, m <= i -> listed.getD i false = false) ->
      Closed ops (fun k => listed.getD k false) -> AtE vs E C i0 (fun i => listed.getD i false) σ τ -> SRel G0 w0 τ G a w ->
      (∀ i o d, ops[i]? = some o -> i < m -> o.dst = some d -> creates o.op = true -> listed.getD i false = false -> τ.free d = true) -> wpAny P .any ops Q fuel listed a w := by
  have posAll : ∀ {L : Nat -> Bool}, (∀ i, i < m -> L i = true) -> posE E L = E.length := fun {L} h => by
    unfold posE
    rw [List.filter_eq_self.2 fun e he => h e (hE.lt e he)]
  have done : ∀ {τ G a w} {L : Nat -> Bool}, AtE vs E C i0 L σ τ -> (∀ i, i < m -> L i = true) -> SRel G0 w0 τ G a w -> SRel G0 w0 (puts { σ with boxes := σ.boxes.set i0 (C E.length) } vs) G a w := by
    intro τ G a w L hat hall h
    have hpa := puts_at m vs { σ with boxes := σ.boxes.set i0 (C E.length) } hap
    rw [List.take_of_length_le (by omega)] at hpa
    refine h.slotsEq (by rw [hpa.n, hat.n]) (by rw [hpa.boxes, hat.boxes, posAll hall]) fun s => ?_
    by_cases hs : ∀ (i d : Nat) (y : AV), vs[i]? = some (d, y) -> d ≠ s
    · rw [hpa.rest s hs, hat.rest s hs]; rfl
    · have : ∃ (i : Nat) (y : AV), vs[i]? = some (s, y) := by
        apply Classical.byContradiction
        intro hcon
        exact hs fun i d y hi hds => hcon ⟨i, y, by rw [<- hds]; exact hi⟩
      obtain ⟨i, y, hi⟩ := this
      have hil : i < m := by rw [<- hvl]; exact (List.getElem?_eq_some_iff.1 hi).1
      rw [hpa.dst i s y hi, hat.dst i s y hi]
      simp [hil, hall i hil]
  have done2 : ∀ {τ G a w} {L : Nat -> Bool} {x dx : Nat} {yx : AV}, AtE vs E C i0 L σ τ -> x ∉ E -> vs[x]? = some (dx, yx) -> (∀ i, i < m -> i ≠ x -> L i = true) -> SRel G0 w0 τ G a w -> SRel G0 w0 ((puts { σ with boxes := σ.boxes.set i0 (C E.length) } vs).put (some dx) .any) G a w := by
    intro τ G a w L x dx yx hat hxE hx hall h
    have hpa := puts_at m vs { σ with boxes := σ.boxes.set i0 (C E.length) } hap
    rw [List.take_of_length_le (by omega)] at hpa
    have hpos : posE E L = E.length := by
      unfold posE
      rw [List.filter_eq_self.2 fun e he => hall e (hE.lt e he) fun h' => hxE (h' ▸ he)]
    have h2 := h.reput (d := dx) (x := .any) (.froz (.any _))
    refine h2.slotsEq (by rw [put_n, put_n, hpa.n, hat.n]) (by rw [put_boxes, put_boxes, hpa.boxes, hat.boxes, hpos]) fun s => ?_
    rw [get_put, get_put]
    by_cases hds : dx = s
    · rw [if_pos hds, if_pos hds]
    rw [if_neg hds, if_neg hds]
    by_cases hs : ∀ (i d : Nat) (y : AV), vs[i]? = some (d, y) -> d ≠ s
    · rw [hpa.rest s hs, hat.rest s hs]; rfl
    · have : ∃ (i : Nat) (y : AV), vs[i]? = some (s, y) := by
        apply Classical.byContradiction
        intro hcon
        exact hs fun i d y hi hds => hcon ⟨i, y, by rw [<- hds]; exact hi⟩
      obtain ⟨i, y, hi⟩ := this
      have hil : i < m := by rw [<- hvl]; exact (List.getElem?_eq_some_iff.1 hi).1
      have hix : i ≠ x := fun h' => by subst h'; rw [hx] at hi; cases hi; exact hds rfl
      rw [hpa.dst i s y hi, hat.dst i s y hi]
      simp [hil, hall i hil hix]
  intro fuel
  induction fuel with
  | zero =>
    intro listed U τ G a w hl hU hm hc hat h _
    have hUn : U = [] := List.eq_nil_of_length_eq_zero hU
    subst hUn
    have hall : ∀ i, i < ops.size -> listed.getD i false = true := fun i hi => by
      cases hb : listed.getD i false
      · have := (hl.mem i).2 ⟨hi, hb⟩; simp at this
      · rfl
    have hms : m = ops.size := by
      apply Classical.byContradiction
      intro hne
      have := hp.le
      have h1 := hall m (by omega)
      rw [hm m (Nat.le_refl m)] at h1; cases h1
    exact (tree_run (P := P) h0 hp.lt hN hQ tr true (List.range m) listed [] _ G a w hp.tr hl hc (fun i hi => by rw [hall i hi]; simp; omega) hK (done hat (fun i hi => hall i (by have := hp.le; omega)) h)).1 rfl
  | succ fuel ih =>
    intro listed U τ G a w hl hU hm hc hat h hfree
    have hUn : U ≠ [] := by intro h; rw [h] at hU; simp at hU
    by_cases hdone : ∀ i, i < m -> listed.getD i false = true
    · have := (tree_run (P := P) h0 hp.lt hN hQ tr true (List.range m) listed U _ G a w hp.tr hl hc (fun i hi => by
        simp only [List.contains_iff_mem, List.mem_range]
        refine ⟨fun hb => ?_, fun hlt => hdone i hlt⟩
        apply Classical.byContradiction
        intro hge
        rw [hm i (by omega)] at hb; cases hb) hK (done hat hdone h)).1 rfl
      rw [hU] at this; exact this
    by_cases hsg : ∃ x t, sg = some (x, t) /\ ∀ i, i < m -> i ≠ x -> listed.getD i false = true
    · obtain ⟨x, t, rfl, hall⟩ := hsg
      obtain ⟨hxm, hxE, hxL, _, ht⟩ := hp.sg x t rfl
      obtain ⟨o, ho⟩ : ∃ p, ops[x]? = some p := ⟨ops[x]'(by have := hp.le; omega), by have := hp.le; simp [show x < ops.size by omega]⟩
      obtain ⟨dx, yx, hv, hd, _, _⟩ := hst x o hxm ho
      have hxf : listed.getD x false = false := by
        cases hb : listed.getD x false
        · rfl
        · exact absurd (fun i hi => by by_cases hix : i = x; · rw [hix]; exact hb
                                       · exact hall i hi hix) hdone
      simp only [sgA, ho] at hK2
      obtain ⟨d', hd', hK2⟩ := hK2
      rw [hd] at hd'; cases hd'
      have := (tree_run (P := P) h0 hp.lt hN hQ t true _ listed U _ G a w ht hl hc (fun i hi => by
        simp only [List.contains_iff_mem, List.mem_filter, List.mem_range, Bool.not_eq_true', beq_eq_false_iff_ne, ne_eq]
        refine ⟨fun hb => ⟨?_, fun hix => by rw [hix, hxf] at hb; cases hb⟩, fun ⟨h1, h2⟩ => hall i h1 h2⟩
        apply Classical.byContradiction
        intro hge
        rw [hm i (by omega)] at hb; cases hb) hK2 (done2 hat hxE hv hall h)).1 rfl
      rw [hU] at this; exact this
    · suffices key : ∀ i, i ∈ Region.ready .any ops listed -> i < m -> (i ∈ LF -> wpAny P .any ops Q (fuel + 1) listed a w) /\ (i ∉ LF -> Go.wpOp P ops Q i (wpAny P .any ops Q fuel (listed.setIfInBounds i true)) a w) by
        by_cases hLF : ∃ j, j ∈ LF /\ j ∈ Region.ready .any ops listed
        · obtain ⟨j, h1, h2⟩ := hLF
          exact (key j h2 (hp.fr j h1).1).1 h1
        · refine ⟨fun hr => absurd hr (some_ready hl hp.lt hUn), fun i hi => (key i hi ?_).2 fun hiL => hLF ⟨i, hiL, hi⟩⟩
          obtain ⟨o, ho, h1, h2⟩ := (ready_iff hl.size).1 hi
          apply Classical.byContradiction
          intro hge
          have hall : ∀ j, j < m -> sgIs sg j = false -> listed.getD j false = true := fun j => by
            refine Nat.strongRecOn (motive := fun j => j < m -> sgIs sg j = false -> listed.getD j false = true) j ?_
            intro j ihj hjm hjs
            by_cases hjL : j ∈ LF
            · obtain ⟨p, hpj⟩ : ∃ p, ops[j]? = some p := ⟨ops[j]'(by have := hp.le; omega), by have := hp.le; simp [show j < ops.size by omega]⟩
              cases hb : listed.getD j false
              · exact absurd ⟨j, hjL, (ready_iff hl.size).2 ⟨p, hpj, hb, fun k hk => by
                  have := hp.lt j p hpj k hk
                  refine ihj k this (by omega) ?_
                  cases hsg' : sg with
                  | none => rfl
                  | some q =>
                    obtain ⟨x, t⟩ := q
                    have := (hp.sg x t hsg').2.2.2.1 j hjL p hpj
                    simp only [sgIs, beq_eq_false_iff_ne, ne_eq]
                    exact fun hkx => this (hkx ▸ hk)⟩⟩ hLF
              · rfl
            · exact reach_listed hc ops.size i j o ho h2 (hp.tail i o ho (by omega) j hjm hjL hjs)
          cases hsg' : sg with
          | none => exact hdone fun j hj => hall j hj (by rw [hsg']; rfl)
          | some q =>
            obtain ⟨x, t⟩ := q
            exact hsg ⟨x, t, hsg', fun j hj hjx => hall j hj (by rw [hsg']; simpa [sgIs] using hjx)⟩
      intro i hi him
      obtain ⟨o, ho, h1, h2⟩ := (ready_iff hl.size).1 hi
      have hlt := (Array.getElem?_eq_some_iff.1 ho).1
      obtain ⟨d, y, hv, hd, hdn, hstep⟩ := hst i o him ho
      obtain ⟨d', hd', hself, hpair⟩ := hp.head i o ho him
      rw [hd] at hd'; cases hd'
      have hmem : i ∈ U := (hl.mem i).2 ⟨hlt, h1⟩
      obtain ⟨l1, l2⟩ := hl.step hmem
      have hsz : i < listed.size := by rw [hl.size]; exact hlt
      have hsame : ∀ s ∈ slotsG ops o, (puts σ (vs.take i)).get s = τ.get s := by
        intro s hsm
        have hpa := puts_at i vs σ hap
        by_cases hs : ∀ (i d : Nat) (y : AV), vs[i]? = some (d, y) -> d ≠ s
        · rw [hpa.rest s hs, hat.rest s hs]
        · have : ∃ (j : Nat) (y : AV), vs[j]? = some (s, y) := by
            apply Classical.byContradiction
            intro hcon
            exact hs fun i d y hi hds => hcon ⟨i, y, by rw [<- hds]; exact hi⟩
          obtain ⟨j, y', hj⟩ := this
          have hjl : j < m := by rw [<- hvl]; exact (List.getElem?_eq_some_iff.1 hj).1
          obtain ⟨p, hpj⟩ : ∃ p, ops[j]? = some p := ⟨ops[j]'(by have := hp.le; omega), by have := hp.le; simp [show j < ops.size by omega]⟩
          obtain ⟨d'', y'', hv'', hds'', _⟩ := hst j p hjl hpj
          rw [hj] at hv''; cases hv''
          have hji : j ≠ i := fun hji => by subst hji; rw [hv] at hj; cases hj; exact hself hsm
          have hre := (hpair j p s hjl hji hpj hds'').2 hsm
          rw [hpa.dst j s y' hj, hat.dst j s y' hj]
          by_cases hjlt : j < i
          · rw [if_pos hjlt] at hre
            have := reach_listed hc ops.size i j o ho h2 hre
            simp [hjlt, this]
          · rw [if_neg hjlt] at hre
            have hjf : listed.getD j false = false := by
              cases hb : listed.getD j false
              · rfl
              · have := reach_listed hc ops.size j i p hpj (fun k hk => hc j p hpj hb k hk) hre
                rw [h1] at this; cases this
            simp [hjlt, hjf]
      have hevs : ∀ x ∈ o.op.operands, (puts σ (vs.take i)).ev x = τ.ev x := by
        intro x hx
        cases x with
        | tmp s =>
          simp only [St.ev]
          refine hsame s (List.mem_append.2 (.inr ?_))
          unfold slotsOf
          exact List.mem_filterMap.2 ⟨.tmp s, by simpa using hx, rfl⟩
        | const v => rfl
        | func f => rfl
        | global g => rfl
      -- the frame behind the step
      have hLi : (listed.setIfInBounds i true).getD i false = true := by rw [set_getD hsz]; simp
      have hLj : ∀ j, j ≠ i -> (listed.setIfInBounds i true).getD j false = listed.getD j false := fun j hj => by rw [set_getD hsz, if_neg (Ne.symm hj)]
      have hpos := posE_step (L := fun k => listed.getD k false) (L' := fun k => (listed.setIfInBounds i true).getD k false) hE.nodup hLj h1 hLi
      have hgo : ∀ {τ' G' a' w'}, τ'.n = τ.n -> τ'.tmps = putT τ.tmps d y -> τ'.boxes = σ.boxes.set i0 (C (posE E fun k => (listed.setIfInBounds i true).getD k false)) -> SRel G0 w0 τ' G' a' w' -> wpAny P .any ops Q fuel (listed.setIfInBounds i true) a' w' := by
        intro τ' G' a' w' e1 e2 e3 hs'
        have hget : ∀ s, τ'.get s = if d = s then y else τ.get s := fun s => by unfold St.get; rw [e2, lookT_put]
        refine ih _ _ τ' G' _ _ l1 (by omega) (fun j hj => ?_) (hc.step hsz ho h2) ⟨by rw [e1, hat.n], e3, fun j d' y' hj => ?_, fun s hs => ?_⟩ hs' (fun j oj dj hoj hjm hdj hcr hjf => ?_)
        · rw [set_getD hsz, if_neg (by omega)]; exact hm j hj
        · rw [hget]
          by_cases hij : j = i
          · subst hij; rw [hv] at hj; cases hj; simp [hLi]
          · rw [if_neg (hap i j d y d' y' hv hj (Ne.symm hij)), hat.dst j d' y' hj, hLj j hij]
        · rw [hget, if_neg (hs i d y hv), hat.rest s hs]
        · by_cases hij : j = i
          · subst hij; rw [hLi] at hjf; cases hjf
          · rw [hLj j hij] at hjf
            have hf := hfree j oj dj hoj hjm hdj hcr hjf
            obtain ⟨f1, f2⟩ := hfr j oj dj hoj hjm hdj hcr
            simp only [St.free, Bool.and_eq_true, decide_eq_true_eq] at hf ⊢
            refine ⟨hf.1, by rw [e2]; exact freeT_put (f1 i d y (Ne.symm hij) hv) hf.2.1, ?_⟩
            rw [e3]
            have hfb := hf.2.2
            rw [hat.boxes] at hfb
            have hset : ∀ (bx : List (List AV)) (k : Nat) (c c' : List AV), freeB dj (bx.set k c) = true -> allLeafs (freeLeaf dj) c' = true -> freeB dj (bx.set k c') = true := by
              intro bx
              induction bx with
              | nil => intro k c c' _ _; rfl
              | cons b bx ihb =>
                intro k c c' h1 h2
                cases k with
                | zero => simp only [List.set_cons_zero, freeB, Bool.and_eq_true] at h1 ⊢; exact ⟨h2, h1.2⟩
                | succ k => simp only [List.set_cons_succ, freeB, Bool.and_eq_true] at h1 ⊢; exact ⟨h1.1, ihb k c c' h1.2 h2⟩
            exact hset _ _ _ _ hfb (f2 _)
      refine ⟨fun hiL => ?_, fun hnL => ?_⟩
      · obtain ⟨_, hiE, hfr'⟩ := hp.fr i hiL
        obtain ⟨d', hfront⟩ := hfr' o ho
        obtain rfl : d = d' := by have := hfront.dst; rw [hd] at this; simpa using this
        rw [if_neg hiE, if_pos hiL] at hstep
        rw [if_neg hiE, Nat.add_zero] at hpos
        obtain ⟨v, hv', hex⟩ := hstep G a w h.good (fun x hx => by rw [hevs x hx]; exact h.ev x)
        have hs' := h.add (.refl G w) h.good (fun _ _ h => h) (d := some d) (x := y) (v := v) (by simp [dstOk, hat.n, hdn]) hv'
        exact front_run hN hfront fuel listed a w v hl.size hc hi hex (hgo (τ' := τ.put (some d) y) rfl rfl (by rw [put_boxes, hat.boxes, hpos]) hs')
      by_cases hiE : i ∈ E
      case neg =>
        rw [if_neg hiE, if_neg hnL] at hstep
        rw [if_neg hiE, Nat.add_zero] at hpos
        have hops : ∀ x ∈ o.op.operands, ∀ {G}, SRel G0 w0 τ G a w -> VRel G w ((puts σ (vs.take i)).ev x) (a.eval x) := fun x hx G h => by rw [hevs x hx]; exact h.ev x
        have hgo2 : ∀ {G' a' w'}, SRel G0 w0 (τ.put (some d) y) G' a' w' -> wpAny P .any ops Q fuel (listed.setIfInBounds i true) a' w' := fun hs' =>
          hgo (τ' := τ.put (some d) y) rfl rfl (by rw [put_boxes, hat.boxes, hpos]) hs'
        have hrun : StepOk P o d (puts σ (vs.take i)).ev (σ.boxes.set i0 (blankC E (C 0))) y -> o.wp P a w (wpAny P .any ops Q fuel (listed.setIfInBounds i true)) Q := by
          intro hstep
          have key : ∀ {G}, SRel G0 w0 τ G a w -> (creates o.op = true -> Fresh d G) -> o.wp P a w (wpAny P .any ops Q fuel (listed.setIfInBounds i true)) Q := fun {G} h hfr' =>
            hstep _ G a w h.good ((show BRel _ G w (σ.boxes.set i0 (C (posE E fun k => listed.getD k false))) from by rw [<- hat.boxes]; exact h.boxes).blank (hC _) fun hE0 => by rw [hE0]; rfl) hfr' (fun x hx => hops x hx h) _ _ fun v w' G' g1 g2 g3 g4 =>
              hgo2 (by rw [hd]; exact h.add g2 g3 g4.boxes (by simp [dstOk, hat.n, hdn]) g1)
          by_cases hcr : creates o.op = true
          · obtain ⟨hs, hf⟩ := h.fresh (hfree i o d ho him hd hcr h1) h0
            exact key hs fun _ => hf
          · exact key h fun hc' => absurd hc' hcr
        simp only [Go.wpOp, ho]
        rcases hstep with ⟨hg, hstep⟩ | ⟨j, want, g, c, hg, hgs, hgv, hc2⟩ | ⟨j, want, g, vs', hg, hgs, hgv, rfl⟩
        · rw [if_pos (by simp [Region.wanted, hg])]
          exact .inl (hrun hstep)
        · have hgm : g ∈ slotsG ops o := by simp [slotsG, guardS, hg, hgs]
          have hv2 := h.slots g
          rw [<- hsame g hgm, hgv] at hv2
          have hy := yielded_bool hgs hv2.sc_inv
          rcases hc2 with ⟨rfl, hstep⟩ | ⟨hne, rfl⟩
          · rw [if_pos (by simp [Region.wanted, hg, hy])]
            exact .inl (hrun hstep)
          · rw [if_neg (by simp [Region.wanted, hg, hy, hne])]
            have hs' := h.add (.refl G w) h.good (fun _ _ h => h) (d := o.dst) (x := .sc undef) (v := undef) (by rw [hd]; simp [dstOk, hat.n, hdn]) (.froz (.sc _))
            exact hgo2 (G' := G) (by rw [hd] at hs' ⊢; exact hs')
        · have hgm : g ∈ slotsG ops o := by simp [slotsG, guardS, hg, hgs]
          have hv2 := h.slots g
          rw [<- hsame g hgm, hgv] at hv2
          have hy := yielded_none hgs hv2.sc_inv
          rw [if_neg (by simp [Region.wanted, hg, hy])]
          have hs' := h.add (.refl G w) h.good (fun _ _ h => h) (d := o.dst) (x := .sc undef) (v := undef) (by rw [hd]; simp [dstOk, hat.n, hdn]) (.froz (.sc _))
          exact hgo2 (G' := G) (by rw [hd] at hs' ⊢; exact hs')
      case pos =>
        rw [if_pos hiE] at hstep
        rw [if_pos hiE] at hpos
        obtain ⟨hg, fid, args, As, r, c1, hop, hpb, hnt, hnt0, hcon, hr1, hr2, hye, hce⟩ := hstep
        -- all effects ahead of it are listed, none behind it is
        have hposi : posE E (fun k => listed.getD k false) = (E.filter fun e => decide (e < i)).length := by
          unfold posE
          congr 1
          refine List.filter_congr fun e he => ?_
          rcases Nat.lt_trichotomy e i with hlt' | heq | hgt
          · have := reach_listed hc ops.size i e o ho h2 (hE.chain e he i hiE hlt')
            simp [hlt', this]
          · subst heq; simp [h1]
          · have hnl : listed.getD e false = false := by
              cases hb : listed.getD e false
              · rfl
              · have hel := hE.lt e he
                obtain ⟨p, hpe⟩ : ∃ p, ops[e]? = some p := ⟨ops[e]'(by have := hp.le; omega), by have := hp.le; simp [show e < ops.size by omega]⟩
                have := reach_listed hc ops.size e i p hpe (fun k hk => hc e p hpe hb k hk) (hE.chain i hiE e he hgt)
                rw [h1] at this; cases this
            simp [hnl]; omega
        have hargs : args.toList.map (puts σ (vs.take i)).ev = args.toList.map τ.ev := by
          refine List.map_congr_left fun x hx => hevs x ?_
          simp [hop, Op.operands, Call.operands]
          exact .inr (by simpa using hx)
        rw [hargs] at hpb hnt hcon
        have hcr : creates o.op = true := by simp [creates, hop]
        have hfd := hfree i o d ho him hd hcr h1
        -- the variable is there
        have hva : ∀ G, SRel G0 w0 τ G a w -> PW (VRel G w) (args.toList.map τ.ev) (args.map a.eval).toList := fun G hs => by
          rw [Array.toList_map]
          refine ⟨by simp, fun j x u hx hu => ?_⟩
          simp only [List.getElem?_map] at hx hu
          cases hj : args.toList[j]? with
          | none => simp [hj] at hx
          | some c => simp [hj] at hx hu; subst hx; subst hu; exact hs.ev c
        have hi0 : i0 < σ.boxes.length := by
          obtain ⟨b, hb⟩ := pbss_real (i := i0) _ _ (hva G h) (dedup_mem _ (by rw [hpb]; simp))
          have := h.blt b i0 hb
          rw [hat.boxes] at this; simpa using this
        have hbx : getAll τ.boxes [i0] = some [C (posE E fun k => listed.getD k false)] := by
          simp only [getAll, hat.boxes, List.getElem?_set, if_true, hi0]
        have hlen : τ.boxes.length = σ.boxes.length := by rw [hat.boxes]; simp
        rw [<- hposi] at hcon hnt0 hce
        have hcall : CallB P fid (args.toList.map τ.ev) [i0] d τ fun σ' => σ'.n = τ.n /\ σ'.tmps = putT τ.tmps d y /\ σ'.boxes = σ.boxes.set i0 (C (posE E (fun k => listed.getD k false) + 1)) := by
          refine ⟨hfd, by rw [hat.n]; exact hdn, hnt, rfl, _, hbx, hnt0, hcon.mono ?_⟩
          rintro r' bx ⟨rfl, rfl⟩
          refine ⟨hr1, hr2, rfl, by rw [hlen, <- hye]; rfl, ?_⟩
          rw [put_boxes]
          have hce' : mapB (outLeaf (64 * (d + 1)) [i0] σ.boxes.length) [c1] = [C (posE E (fun k => listed.getD k false) + 1)] := hce.symm
          simp only [List.length_singleton, List.take_succ_cons, List.take_zero, List.drop_succ_cons, List.drop_nil, hlen, hce', mapB, setAll, List.append_nil]
          rw [hat.boxes, List.set_set]
        obtain ⟨⟨fn, hfn, hname, hbody⟩, hcalls⟩ := CallB.sound hcall h h0 hva (fun G hs j hj => by
          simp at hj; subst hj
          exact pbss_real _ _ (hva G hs) (dedup_mem _ (by rw [hpb]; simp)))
        have hrun : (execOp a.eval o).run P w = .ok (.enter fid (args.map a.eval)) w := by
          have hname' : ¬ fn.name = "runtime.NumGoroutine" := by simpa using hname
          have hbody' : ¬ fn.body = none := by intro h; rw [h] at hbody; simp at hbody
          have hfe : a.eval (.func fid) = .func (.func fid) #[] #[] := rfl
          simp [execOp, hop, resolve, hfe, Deferred.ofValue, invoke, callFunc, hfn, hname', hbody']
        simp only [Go.wpOp, ho]
        rw [if_pos (by simp [Region.wanted, hg])]
        refine .inl ?_
        unfold Oper.wp
        rw [hrun, Oper.upon_enter]
        refine hcalls.mono ?_
        rintro e w' ⟨v, σ', G', rfl, ⟨e1, e2, e3⟩, hs'⟩
        exact hgo e1 e2 (by rw [e3, hpos]) (by rw [hd]; exact hs')
end
def EffK (P : Program) (n0 i0 : Nat) (o : Oper) (σ : St) (c : List AV) (K : St -> List AV -> Prop) : Prop :=
 ∃ d y c', o.dst = some d /\ d < σ.n /\ EffC P ⟨0, [], List.replicate n0 []⟩ i0 o d σ.ev c y c' /\ c'.length = c.length /\ allLeafs noTag c' = true /\ K (σ.put (some d) y) c'
def frB (P : Program) (o : Oper) (σ : St) (K : St -> Prop) : Prop := frA P (some o) σ K
theorem frB_sound {P : Program} {o : Oper} {σ : St} {K : St -> Prop} (h : frB P o σ K) : ∃ d y, o.dst = some d /\ d < σ.n /\ K (σ.put (some d) y) /\ FrontC P o σ.ev y := by
 unfold frB frA at h
 split at h
 ·rename_i d op T pos af g hj
  cases hj
  obtain ⟨hdn, h⟩ := h
  obtain ⟨y, hK, hy⟩ := frontW_sound' (p := ⟨some d, op, T, pos, af, g⟩) h
  exact ⟨d, y, rfl, hdn, hK, hy⟩
 ·exact h.elim
def headE (P : Program) (ops : Array Oper) (n0 i0 : Nat) (E LF : List Nat) : Nat -> List Oper -> St -> List AV -> (St -> List AV -> Prop) -> Prop
 | _, [], σ, c, K => K σ c
 | k, o :: r, σ, c, K => if E.contains k = true then EffK P n0 i0 o σ c fun σ' c' => headE P ops n0 i0 E LF (k + 1) r σ' c' K else if LF.contains k = true then frB P o σ fun σ' => headE P ops n0 i0 E LF (k + 1) r σ' c K else headG P ops o σ fun σ' => headE P ops n0 i0 E LF (k + 1) r σ' c K
def cntE (E : List Nat) (i : Nat) : Nat := posE E fun e => decide (e < i)
theorem cntE_succ {E : List Nat} (hn : E.Nodup) (i : Nat) : cntE E (i + 1) = cntE E i + if i ∈ E then 1 else 0 :=
 posE_step hn (fun j hj => by simp only [decide_eq_decide]; omega) (by simp) (by simp)
section
variable {P : Program} {ops : Array Oper} {n0 i0 : Nat} {E LF : List Nat}
theorem headE_vals (hn : E.Nodup) : ∀ (l : List Oper) (k : Nat) (σ : St) (c : List AV) (K : St -> List AV -> Prop), headE P ops n0 i0 E LF k l σ c K -> allLeafs noTag c = true -> ∃ (vs : List (Nat × AV)) (C : Nat -> List AV), vs.length = l.length /\ (∀ j, j <= cntE E k -> C j = c) /\ (∀ j, (C j).length = c.length /\ allLeafs noTag (C j) = true) /\ K (puts σ vs) (C (cntE E (k + l.length))) /\
  ∀ i o, l[i]? = some o -> ∃ d y, vs[i]? = some (d, y) /\ o.dst = some d /\ d < σ.n /\
   if k + i ∈ E then EffC P ⟨0, [], List.replicate n0 []⟩ i0 o d (puts σ (vs.take i)).ev (C (cntE E (k + i))) y (C (cntE E (k + i) + 1)) else if k + i ∈ LF then FrontC P o (puts σ (vs.take i)).ev y else StepG P ops o d (puts σ (vs.take i)) σ.boxes y
 | [], k, σ, c, K, h, hc => ⟨[], fun _ => c, rfl, fun _ _ => rfl, fun _ => ⟨rfl, hc⟩, h, fun i o hi => by simp at hi⟩
 | o :: l, k, σ, c, K, h, hc => by
  unfold headE at h
  have hcs := cntE_succ hn k
  by_cases hk : k ∈ E
  ·rw [if_pos (by simpa using hk)] at h
   rw [if_pos hk] at hcs
   obtain ⟨d, y, c', h1, h2, h3, h4, h5, h6⟩ := h
   obtain ⟨vs, C, g1, g2, g3, g4, g5⟩ := headE_vals hn l (k + 1) _ c' K h6 h5
   refine ⟨(d, y) :: vs, fun j => if j <= cntE E k then c else C j, by simp [g1], fun j hj => if_pos hj, fun j => ?_, ?_, fun i o' hi => ?_⟩
   ·simp only
    split
    ·exact ⟨rfl, hc⟩
    ·exact ⟨(g3 j).1.trans h4, (g3 j).2⟩
   ·simp only [puts, List.length_cons]
    rw [show k + (l.length + 1) = k + 1 + l.length by omega]
    have : ¬ cntE E (k + 1 + l.length) <= cntE E k := by
     have : ∀ t, cntE E (k + 1) <= cntE E (k + 1 + t) := fun t => by
      induction t with
      | zero => exact Nat.le_refl _
      | succ t ih => have := cntE_succ hn (k + 1 + t); rw [show k + 1 + (t + 1) = k + 1 + t + 1 by omega]; omega
     have := this l.length; omega
    rw [if_neg this]; exact g4
   ·cases i with
    | zero =>
     simp at hi; subst hi
     refine ⟨d, y, rfl, h1, h2, ?_⟩
     rw [Nat.add_zero, if_pos hk]
     dsimp only
     rw [if_pos (Nat.le_refl _), if_neg (by omega), <- hcs, g2 _ (Nat.le_refl _)]
     exact h3
    | succ i =>
     obtain ⟨d', y', k1, k2, k3, k4⟩ := g5 i o' (by simpa using hi)
     rw [put_n] at k3
     refine ⟨d', y', by simpa using k1, k2, k3, ?_⟩
     rw [show k + (i + 1) = k + 1 + i by omega]
     have hge : ∀ t, cntE E (k + 1) <= cntE E (k + 1 + t) := fun t => by
      induction t with
      | zero => exact Nat.le_refl _
      | succ t ih => have := cntE_succ hn (k + 1 + t); rw [show k + 1 + (t + 1) = k + 1 + t + 1 by omega]; omega
     have := hge i
     dsimp only
     rw [if_neg (show ¬ cntE E (k + 1 + i) <= cntE E k by omega), if_neg (show ¬ cntE E (k + 1 + i) + 1 <= cntE E k by omega)]
     rw [put_boxes] at k4
     exact k4
  ·rw [if_neg (by simpa using hk)] at h
   rw [if_neg hk, Nat.add_zero] at hcs
   obtain ⟨d, y, h1, h2, h3, h4⟩ : ∃ d y, o.dst = some d /\ d < σ.n /\ headE P ops n0 i0 E LF (k + 1) l (σ.put (some d) y) c K /\ if k ∈ LF then FrontC P o σ.ev y else StepG P ops o d σ σ.boxes y := by
    by_cases hkL : k ∈ LF
    ·rw [if_pos (by simpa using hkL)] at h
     obtain ⟨d, y, h1, h2, h3, h4⟩ := frB_sound h
     exact ⟨d, y, h1, h2, h3, by rw [if_pos hkL]; exact h4⟩
    ·rw [if_neg (by simpa using hkL)] at h
     obtain ⟨d, y, h1, h2, h3, h4⟩ := headG_sound h
     exact ⟨d, y, h1, h2, h3, by rw [if_neg hkL]; exact h4⟩
   obtain ⟨vs, C, g1, g2, g3, g4, g5⟩ := headE_vals hn l (k + 1) _ c K h3 hc
   refine ⟨(d, y) :: vs, C, by simp [g1], fun j hj => g2 j (by omega), g3, ?_, fun i o' hi => ?_⟩
   ·simp only [puts, List.length_cons]
    rw [show k + (l.length + 1) = k + 1 + l.length by omega]; exact g4
   ·cases i with
    | zero =>
     simp at hi; subst hi
     refine ⟨d, y, rfl, h1, h2, ?_⟩
     rw [Nat.add_zero, if_neg hk]; exact h4
    | succ i =>
     obtain ⟨d', y', k1, k2, k3, k4⟩ := g5 i o' (by simpa using hi)
     rw [put_n] at k3
     rw [put_boxes] at k4
     refine ⟨d', y', by simpa using k1, k2, k3, ?_⟩
     rw [show k + (i + 1) = k + 1 + i by omega]; exact k4
def freeBut (d : Nat) : List (Nat × AV) -> Bool
 | [] => true
 | (s, v) :: r => (s == d || v.allLeaf (freeLeaf d)) && freeBut d r
def freeOthers (l : List (Nat × AV)) : List Nat -> Bool
 | [] => true
 | d :: r => freeBut d l && freeOthers l r
theorem freeBut_look {d : Nat} : ∀ {l : List (Nat × AV)}, freeBut d l = true -> ∀ s, s ≠ d -> (lookT l s).allLeaf (freeLeaf d) = true
 | [], _, _, _ => rfl
 | (s', v) :: r, h, s, hs => by
  simp only [freeBut, Bool.and_eq_true, Bool.or_eq_true, beq_iff_eq] at h
  unfold lookT
  split
  ·rename_i he
   rcases h.1 with h1 | h1
   ·exact absurd (he.symm.trans h1) (by intro e; exact hs e)
   ·exact h1
  ·exact freeBut_look h.2 s hs
theorem freeOthers_mem {l : List (Nat × AV)} : ∀ {ds : List Nat}, freeOthers l ds = true -> ∀ d ∈ ds, freeBut d l = true
 | d' :: r, h, d, hd => by
  simp only [freeOthers, Bool.and_eq_true] at h
  rcases List.mem_cons.1 hd with rfl | hd
  ·exact h.1
  ·exact freeOthers_mem h.2 d hd
theorem noTag_free {d : Nat} : ∀ (x : AV), noTag x = true -> freeLeaf d x = true := fun x h => by
 cases x <;> simp [noTag, freeLeaf] at h ⊢
 all_goals (first | (unfold root; omega) | skip)
def nodupE : List Nat -> Bool
 | [] => true
 | e :: r => !r.contains e && nodupE r
theorem nodupE_spec : ∀ {E : List Nat}, nodupE E = true -> E.Nodup
 | [], _ => List.nodup_nil
 | e :: r, h => by
  simp only [nodupE, Bool.and_eq_true, Bool.not_eq_true'] at h
  exact List.nodup_cons.2 ⟨by simpa using h.1, nodupE_spec h.2⟩
def effOk (ops : Array Oper) (m : Nat) (E : List Nat) : Bool :=
 nodupE E && E.all (fun e => decide (e < m)) && E.all fun e => E.all fun e' => !decide (e < e') || reach ops ops.size e' e
def lateOk (ops : Array Oper) (m : Nat) (E LF : List Nat) (tr : Tr) (sg : Option (Nat × Tr)) : Bool :=
 decide (m <= ops.size) && ((List.range ops.size).all (fun i => match ops[i]? with
  | none => false
  | some o => if i < m then headOkG ops m i o else (edges o).all (fun k => decide (k < i)) && (List.range m).all fun j => LF.contains j || (sgIs sg j || reach ops ops.size i j)) &&
 (LF.all (fun j => decide (j < m) && (!E.contains j && match ops[j]? with | none => false | some p => frontOk ops j p)) && (trOk ops true (List.range m) tr && match sg with
  | none => true
  | some (x, t) => decide (x < m) && (!E.contains x && (!LF.contains x && ((LF.all fun j => match ops[j]? with | none => false | some p => !(edges p).contains x) && trOk ops true ((List.range m).filter fun i => !(i == x)) t))))))
theorem lateOk_plan {ops : Array Oper} {m : Nat} {E LF : List Nat} {tr : Tr} {sg : Option (Nat × Tr)} (h : lateOk ops m E LF tr sg = true) : PlanL ops m E LF tr sg := by
 simp only [lateOk, Bool.and_eq_true, decide_eq_true_eq, List.all_eq_true, List.mem_range, Bool.not_eq_true'] at h
 obtain ⟨h1, h2, h3, h4, h5⟩ := h
 have hof : ∀ i o, ops[i]? = some o -> (if i < m then headOkG ops m i o else (edges o).all (fun k => decide (k < i)) && (List.range m).all fun j => LF.contains j || (sgIs sg j || reach ops ops.size i j)) = true := fun i o ho => by
  have := h2 i (Array.getElem?_eq_some_iff.1 ho).1
  rw [ho] at this; simpa using this
 refine ⟨h1, fun i o ho k hk => ?_, fun i o ho hi => ?_, fun i o ho hi j hj hjL hjs => ?_, fun j hj => ⟨(h3 j hj).1, by simpa using (h3 j hj).2.1, fun p hp => ?_⟩, h4, fun x t hsg => ?_⟩
 ·have := hof i o ho
  split at this
  ·simp only [headOkG, Bool.and_eq_true, List.all_eq_true, decide_eq_true_eq] at this
   exact this.1 k hk
  ·simp only [Bool.and_eq_true, List.all_eq_true, decide_eq_true_eq] at this
   exact this.1 k hk
 ·have := hof i o ho
  rw [if_pos hi] at this
  simp only [headOkG, Bool.and_eq_true] at this
  obtain ⟨_, g3⟩ := this
  split at g3
  ·cases g3
  ·rename_i d hd
   simp only [Bool.and_eq_true, List.all_eq_true, List.mem_range, Bool.not_eq_true', Bool.or_eq_true, beq_iff_eq] at g3
   refine ⟨d, hd, by simpa using g3.1, fun j p s hj hji hp hs => ?_⟩
   have := (g3.2 j hj).resolve_left hji
   simp only [hp, hs, Bool.and_eq_true, bne_iff_ne, ne_eq, Bool.or_eq_true, Bool.not_eq_true'] at this
   refine ⟨this.1, fun hm => ?_⟩
   have h' := this.2.resolve_left (by simpa using hm)
   split at h'
   ·rename_i hlt; rw [if_pos hlt]; exact h'
   ·rename_i hlt; rw [if_neg hlt]; exact h'
 ·have := hof i o ho
  rw [if_neg (by omega)] at this
  simp only [Bool.and_eq_true, List.all_eq_true, List.mem_range, Bool.or_eq_true] at this
  exact ((this.2 j hj).resolve_left (by simpa using hjL)).resolve_left (by rw [hjs]; simp)
 ·have := (h3 j hj).2.2
  rw [hp] at this
  exact frontOk_front hp this
 ·subst hsg
  simp only [Bool.and_eq_true, decide_eq_true_eq, Bool.not_eq_true', List.all_eq_true] at h5
  refine ⟨h5.1, by simpa using h5.2.1, by simpa using h5.2.2.1, fun j hj p hp => ?_, h5.2.2.2.2⟩
  have := h5.2.2.2.1 j hj
  rw [hp] at this
  simpa using this
theorem puts_eq : ∀ (vs : List (Nat × AV)) (σ : St) (b : List (List AV)), puts { σ with boxes := b } vs = { puts σ vs with boxes := b }
 | [], σ, b => rfl
 | p :: r, σ, b => by simp only [puts]; exact puts_eq r (σ.put (some p.1) p.2) b
theorem puts_boxes : ∀ (vs : List (Nat × AV)) (σ : St), (puts σ vs).boxes = σ.boxes
 | [], σ => rfl
 | p :: r, σ => by simp only [puts]; rw [puts_boxes r, put_boxes]
theorem puts_ev (vs : List (Nat × AV)) (σ : St) (b : List (List AV)) : (puts { σ with boxes := b } vs).ev = (puts σ vs).ev := by
 funext x; rw [puts_eq]; cases x <;> rfl
theorem puts_get (vs : List (Nat × AV)) (σ : St) (b : List (List AV)) (s : Nat) : (puts { σ with boxes := b } vs).get s = (puts σ vs).get s := by rw [puts_eq]; rfl
def DrawN (P : Program) (ops : Array Oper) (σ : St) (K : St -> Prop) : Prop :=
 ∀ (G0 : Orig) (w0 : World) (G : Nat -> Status) (a : Act) (w : World) (Q : Exit -> Act -> World -> Prop), True -> SRel G0 w0 σ G a w -> (∀ e a w, e ≠ .normal -> ¬ Q e a w) -> (∀ σ' G' a' w', K σ' -> SRel G0 w0 σ' G' a' w' -> Q .normal a' w') -> wpAny P .any ops Q ops.size (Array.replicate ops.size false) a w
theorem DrawK.ofN {σ : St} {K : St -> Prop} (hm : P.follows .mixedOrders = true) (h : DrawN P ops σ K) : DrawK P ops σ K := by
 intro G0 w0 G a w id Q h0 hs hQ
 exact wp_region_any hm (wpAny_normal _ _ _ _ (h G0 w0 G a _ _ h0 (hs.drawn (w.drawn + 1)) (fun e a w hn h => hn h.1) fun σ' G' a' w' hk hs => ⟨rfl, hQ σ' G' a' w' hk hs⟩))
theorem DrawN.eff {σ : St} {K : St -> Prop} (i0 : Nat) (E LF : List Nat) (m : Nat) (tr : Tr) (sg : Option (Nat × Tr)) (c : List AV) (hok : lateOk ops m E LF tr sg = true) (hE : effOk ops m E = true) (hc : σ.boxes[i0]? = some c) (hnt : allLeafs noTag c = true) (hfree : freeAll σ (creators ops m) = true)
  (h : headE P ops σ.boxes.length i0 E LF 0 (ops.toList.take m) { σ with boxes := σ.boxes.set i0 (blankC E c) } c fun σ' c' => freeOthers σ'.tmps (creators ops m) = true /\ treeA P ops tr { σ' with boxes := σ'.boxes.set i0 c' } K /\ sgA P ops sg { σ' with boxes := σ'.boxes.set i0 c' } K) : DrawN P ops σ K := by
 intro G0 w0 G a w Q h0 hs hN hQ
 have hp := lateOk_plan hok
 simp only [effOk, Bool.and_eq_true, List.all_eq_true, decide_eq_true_eq, Bool.or_eq_true, Bool.not_eq_true', decide_eq_false_iff_not] at hE
 have hpE : PlanE ops m E := ⟨nodupE_spec hE.1.1, hE.1.2, fun e he e' he' hlt => (hE.2 e he e' he').resolve_left (fun hn => hn hlt)⟩
 obtain ⟨vs, C, hvl, hC0, hC, ⟨hoth, hK, hK2⟩, hst⟩ := headE_vals hpE.nodup _ _ _ _ _ h hnt
 have hlen : (ops.toList.take m).length = m := by have := hp.le; simp; omega
 rw [hlen] at hvl
 have hcm : cntE E (0 + (ops.toList.take m).length) = E.length := by
  rw [hlen, Nat.zero_add]
  unfold cntE posE
  rw [List.filter_eq_self.2 fun e he => by simpa using hpE.lt e he]
 rw [hcm] at hK hK2
 have hst' : ∀ i o, i < m -> ops[i]? = some o -> ∃ d y, vs[i]? = some (d, y) /\ o.dst = some d /\ d < σ.n /\
   if i ∈ E then EffC P σ i0 o d (puts σ (vs.take i)).ev (C (E.filter fun e => decide (e < i)).length) y (C ((E.filter fun e => decide (e < i)).length + 1)) else if i ∈ LF then FrontC P o (puts σ (vs.take i)).ev y else StepG P ops o d (puts σ (vs.take i)) (σ.boxes.set i0 (blankC E (C 0))) y := fun i o hi ho => by
  obtain ⟨d, y, k1, k2, k3, k4⟩ := hst i o (by rw [List.getElem?_take, if_pos hi]; simpa using ho)
  refine ⟨d, y, k1, k2, k3, ?_⟩
  rw [Nat.zero_add] at k4
  split
  ·rename_i hiE
   rw [if_pos hiE, puts_ev] at k4
   unfold EffC at k4 ⊢
   simp only [List.length_replicate] at k4
   exact k4
  ·rename_i hiE
   rw [if_neg hiE] at k4
   rw [hC0 0 (Nat.zero_le _)]
   split
   ·rename_i hiL
    rw [if_pos hiL, puts_ev] at k4
    exact k4
   rename_i hiL
   rw [if_neg hiL] at k4
   unfold StepG at k4 ⊢
   rw [puts_ev] at k4
   simp only [puts_get] at k4
   exact k4
 have hap : Apart vs := by
  intro i j d y d' y' h1 h2 hij
  have hil : i < m := by have := (List.getElem?_eq_some_iff.1 h1).1; omega
  have hjl : j < m := by have := (List.getElem?_eq_some_iff.1 h2).1; omega
  have hle := hp.le
  obtain ⟨oi, hoi⟩ : ∃ p, ops[i]? = some p := ⟨ops[i]'(by omega), by simp [show i < ops.size by omega]⟩
  obtain ⟨oj, hoj⟩ : ∃ p, ops[j]? = some p := ⟨ops[j]'(by omega), by simp [show j < ops.size by omega]⟩
  obtain ⟨_, _, k1, k2, _⟩ := hst' i oi hil hoi
  obtain ⟨_, _, k3, k4, _⟩ := hst' j oj hjl hoj
  rw [h1] at k1; cases k1
  rw [h2] at k3; cases k3
  obtain ⟨d1, e1, _, e2⟩ := hp.head j oj hoj hjl
  rw [k4] at e1; cases e1
  exact (e2 i oi d hil hij hoi k2).1
 have hs' := hs
 have hgd : ∀ i, (Array.replicate ops.size false).getD i false = false := fun i => by
  by_cases hi : i < ops.size <;> simp [hi]
 have hcrm : ∀ i o d, ops[i]? = some o -> i < m -> o.dst = some d -> creates o.op = true -> d ∈ creators ops m := fun i o d ho hi hd hcr => by
  unfold creators
  refine List.mem_filterMap.2 ⟨o, ?_, by rw [if_pos hcr]; exact hd⟩
  refine List.mem_of_getElem? (i := i) ?_
  rw [List.getElem?_take, if_pos hi]; simpa using ho
 have hset : ∀ c', (puts { σ with boxes := σ.boxes.set i0 (blankC E c) } vs).boxes.set i0 c' = σ.boxes.set i0 c' := fun c' => by rw [puts_boxes, List.set_set]
 refine head_runE (P := P) hp hpE h0 hN hQ hvl hap (fun j => by rw [(hC j).1, (hC 0).1]) ?_ ?_ hst' (fun i o d ho hi hd hcr => ⟨fun j d' y hji hj => ?_, fun j => allLeafs_mono noTag_free _ (hC j).2⟩) ops.size (Array.replicate ops.size false) (List.range ops.size) σ G a _ ⟨by simp, List.nodup_range, fun i => ?_⟩ (by simp) (fun i _ => hgd i)
  (fun i o _ hi => absurd (show (Array.replicate ops.size false).getD i false = true from hi) (by rw [hgd]; simp)) ⟨rfl, ?_, fun i d y _ => by simp only [hgd]; simp, fun _ _ => rfl⟩ hs' (fun i o d ho hi hd hcr _ => freeAll_mem hfree d (hcrm i o d ho hi hd hcr))
 ·rw [hset] at hK
  rw [puts_eq] at hK ⊢
  exact hK
 ·rw [hset] at hK2
  rw [puts_eq] at hK2 ⊢
  exact hK2
 ·have hb := freeOthers_mem hoth d (hcrm i o d ho hi hd hcr)
  obtain ⟨oi, yi, k1, k2, _⟩ := hst' i o hi ho
  rw [hd] at k2; cases k2
  have hne := hap i j d yi d' y k1 hj (Ne.symm hji)
  have hpa := puts_at m vs { σ with boxes := σ.boxes.set i0 (blankC E c) } hap
  rw [List.take_of_length_le (by omega)] at hpa
  have hjm : j < m := by have := (List.getElem?_eq_some_iff.1 hj).1; omega
  have hg := hpa.dst j d' y hj
  simp only [hjm, decide_true, if_true] at hg
  rw [<- hg]
  exact freeBut_look hb d' (Ne.symm hne)
 ·rw [List.mem_range, hgd]; simp
 ·have : posE E (fun i => (Array.replicate ops.size false).getD i false) = 0 := by
   unfold posE
   rw [List.filter_eq_nil_iff.2 fun e _ => by rw [hgd]; simp]; rfl
  rw [this, hC0 0 (Nat.zero_le _)]
  have hi := (List.getElem?_eq_some_iff.1 hc).1
  rw [<- (List.getElem?_eq_some_iff.1 hc).2, List.set_getElem_self]
end
def renO (π : List Nat) (o : Oper) : Oper := ⟨o.dst, o.op, o.type, o.pos, o.after.map fun e => ⟨π.idxOf e.on, e.ground⟩, o.guard.map fun p => (π.idxOf p.1, p.2)⟩
def permG (π : List Nat) (l : List Oper) : List Nat -> List Oper
 | [] => []
 | i :: r => match l[i]? with
  | some o => renO π o :: permG π l r
  | none => []
def permOk (l : List Oper) (π : List Nat) : Bool :=
 π.length == l.length && (nodupE π && ((List.range l.length).all (fun i => π.contains i) && (π.all (fun i => decide (i < l.length)) && l.all fun o => (o.after.toList.all fun e => decide (e.on < l.length)) && match o.guard with | none => true | some p => decide (p.1 < l.length))))
theorem permG_len {π : List Nat} {l : List Oper} : ∀ {r : List Nat}, (∀ i ∈ r, i < l.length) -> (permG π l r).length = r.length
 | [], _ => rfl
 | i :: r, h => by
  have hi := h i (List.mem_cons_self ..)
  simp only [permG, List.getElem?_eq_getElem hi, List.length_cons]
  rw [permG_len fun j hj => h j (List.mem_cons_of_mem _ hj)]
theorem permG_get {π : List Nat} {l : List Oper} : ∀ {r : List Nat}, (∀ i ∈ r, i < l.length) -> ∀ (k i : Nat), r[k]? = some i -> (permG π l r)[k]? = (l[i]?).map (renO π)
 | [], _, k, i, h => by simp at h
 | j :: r, h, k, i, hk => by
  have hj := h j (List.mem_cons_self ..)
  simp only [permG, List.getElem?_eq_getElem hj]
  cases k with
  | zero => simp at hk; subst hk; simp [List.getElem?_eq_getElem hj]
  | succ k => simpa using permG_get (fun j hj => h j (List.mem_cons_of_mem _ hj)) k i (by simpa using hk)
theorem edges_ren {π : List Nat} {o : Oper} : edges (renO π o) = (edges o).map fun k => π.idxOf k := by
 unfold edges renO
 simp only [Array.toList_map, List.filter_map, List.map_map]
 rfl
theorem wanted_ren {π : List Nat} {o : Oper} {y y' : Nat -> Option Bool} (h : ∀ j b, o.guard = some (j, b) -> y' (π.idxOf j) = y j) : Region.wanted (renO π o) y' = Region.wanted o y := by
 unfold Region.wanted renO
 cases hg : o.guard with
 | none => rfl
 | some p =>
  obtain ⟨j, b⟩ := p
  simp [h j b hg]
theorem wpAny_perm {P : Program} {ops ops' : Array Oper} {Q : Exit -> Act -> World -> Prop} {π : List Nat} (hsz : ops'.size = ops.size) (hb : ∀ i, i < ops.size -> π.idxOf i < ops.size) (hsur : ∀ k, k < ops.size -> ∃ i, i < ops.size /\ π.idxOf i = k) (hinj : ∀ i j, i < ops.size -> j < ops.size -> π.idxOf i = π.idxOf j -> i = j)
  (hop : ∀ (i : Nat) (o : Oper), ops[i]? = some o -> ops'[π.idxOf i]? = some (renO π o)) (hed : ∀ (i : Nat) (o : Oper), ops[i]? = some o -> ∀ k ∈ edges o, k < ops.size) (hgd : ∀ (i : Nat) (o : Oper) (j : Nat) (b : Bool), ops[i]? = some o -> o.guard = some (j, b) -> j < ops.size) :
  ∀ (fuel : Nat) (listed listed' : Array Bool) (a : Act) (w : World), listed.size = ops.size -> listed'.size = ops.size -> (∀ i, i < ops.size -> listed'.getD (π.idxOf i) false = listed.getD i false) -> wpAny P .any ops' Q fuel listed' a w -> wpAny P .any ops Q fuel listed a w := by
 have rdy : ∀ {listed listed' : Array Bool} {i : Nat}, listed.size = ops.size -> listed'.size = ops.size -> (∀ i, i < ops.size -> listed'.getD (π.idxOf i) false = listed.getD i false) -> i < ops.size -> (π.idxOf i ∈ Region.ready .any ops' listed' ↔ i ∈ Region.ready .any ops listed) := by
  intro listed listed' i h1 h2 hl hi
  rw [ready_iff h1, ready_iff (by rw [h2, hsz])]
  have ho : ops[i]? = some ops[i] := by simp [hi]
  rw [ho, hop i _ ho]
  simp only [Option.some.injEq, exists_eq_left', edges_ren, hl i hi, List.mem_map, forall_exists_index, and_imp, forall_apply_eq_imp_iff₂]
  refine and_congr Iff.rfl ⟨fun h k hk => ?_, fun h k hk => ?_⟩
  ·rw [<- hl k (hed i _ ho k hk)]; exact h k hk
  ·rw [hl k (hed i _ ho k hk)]; exact h k hk
 have rnil : ∀ {listed listed' : Array Bool}, listed.size = ops.size -> listed'.size = ops.size -> (∀ i, i < ops.size -> listed'.getD (π.idxOf i) false = listed.getD i false) -> (Region.ready .any ops' listed' = [] ↔ Region.ready .any ops listed = []) := by
  intro listed listed' h1 h2 hl
  simp only [List.eq_nil_iff_forall_not_mem]
  constructor
  ·intro h i hi
   obtain ⟨o, ho, _⟩ := (ready_iff h1).1 hi
   exact h _ ((rdy h1 h2 hl (Array.getElem?_eq_some_iff.1 ho).1).2 hi)
  ·intro h k hk
   obtain ⟨o, ho, _⟩ := (ready_iff (by rw [h2, hsz])).1 hk
   obtain ⟨i, hi, rfl⟩ := hsur k (by rw [<- hsz]; exact (Array.getElem?_eq_some_iff.1 ho).1)
   exact h i ((rdy h1 h2 hl hi).1 hk)
 intro fuel
 induction fuel with
 | zero =>
  intro listed listed' a w h1 h2 hl h
  exact ⟨(rnil h1 h2 hl).1 h.1, h.2⟩
 | succ fuel ih =>
  intro listed listed' a w h1 h2 hl h
  refine ⟨fun hr => h.1 ((rnil h1 h2 hl).2 hr), fun i hi => ?_⟩
  obtain ⟨o, ho, _⟩ := (ready_iff h1).1 hi
  have hil := (Array.getElem?_eq_some_iff.1 ho).1
  have h3 := h.2 _ ((rdy h1 h2 hl hil).2 hi)
  have hlp : ∀ j, j < ops.size -> (listed'.setIfInBounds (π.idxOf i) true).getD (π.idxOf j) false = (listed.setIfInBounds i true).getD j false := fun j hj => by
   rw [set_getD (by rw [h2]; exact hb i hil), set_getD (by rw [h1]; exact hil)]
   by_cases hij : i = j
   ·subst hij; simp
   ·rw [if_neg hij, if_neg (fun he => hij (hinj i j hil hj he)), hl j hj]
  have h4 := wpOp_mono (fun a w => ih (listed.setIfInBounds i true) _ a w (by simpa using h1) (by simpa using h2) hlp) h3
  simp only [Go.wpOp, ho, hop i o ho] at h4 ⊢
  have hw : Region.wanted (renO π o) (yielded ops' a.tmps) = Region.wanted o (yielded ops a.tmps) := wanted_ren fun j b hg => by
   have hj := hgd i o j b ho hg
   have hoj : ops[j]? = some ops[j] := by simp [hj]
   unfold yielded
   rw [hoj, hop j _ hoj]; rfl
  rw [hw] at h4
  exact h4
theorem mem_idx {π : List Nat} {i : Nat} (h : i ∈ π) : π[π.idxOf i]? = some i := by
 have := List.idxOf_lt_length_of_mem h
 rw [List.getElem?_eq_getElem this, List.getElem_idxOf this]
theorem DrawN.perm {P : Program} {l l' : List Oper} {σ : St} {K : St -> Prop} (π : List Nat) (hok : permOk l π = true) (hl : permG π l π = l') (h : DrawN P l'.toArray σ K) : DrawN P l.toArray σ K := by
 subst hl
 simp only [permOk, Bool.and_eq_true, beq_iff_eq, List.all_eq_true, List.mem_range, decide_eq_true_eq] at hok
 obtain ⟨h1, h2, h3, h4, h5⟩ := hok
 have h2 := nodupE_spec h2
 have hin : ∀ i, i < l.length -> i ∈ π := fun i hi => by simpa using h3 i hi
 have hlen : (permG π l π).length = l.length := by rw [permG_len h4, h1]
 intro G0 w0 G a w Q h0 hs hN hQ
 have hgd : ∀ (n i : Nat), (Array.replicate n false).getD i false = false := fun n i => by
  by_cases hi : i < n <;> simp [hi]
 refine wpAny_perm (π := π) (ops' := (permG π l π).toArray) (by simpa using hlen) (fun i hi => ?_) (fun k hk => ?_) (fun i j hi hj he => ?_) (fun i o ho => ?_) (fun i o ho k hk => ?_) (fun i o j b ho hg => ?_) _ _ (Array.replicate (permG π l π).toArray.size false) a w (by simp) (by simpa using hlen) (fun i _ => by rw [hgd, hgd]) ?_
 ·have := List.idxOf_lt_length_of_mem (hin i (by simpa using hi)); simpa [h1] using this
 ·have hk' : k < π.length := by simpa [h1] using hk
  refine ⟨π[k], by simpa using h4 _ (List.getElem_mem hk'), ?_⟩
  exact h2.idxOf_getElem k hk'
 ·have e1 := mem_idx (hin i (by simpa using hi))
  have e2 := mem_idx (hin j (by simpa using hj))
  rw [he, e2] at e1; simpa using e1.symm
 ·have hi : i < l.length := by simpa using (Array.getElem?_eq_some_iff.1 ho).1
  have := permG_get (π := π) h4 _ i (mem_idx (hin i hi))
  rw [List.getElem?_toArray, this]
  rw [List.getElem?_toArray] at ho
  rw [ho]; rfl
 ·have hm : o ∈ l := List.mem_of_getElem? (by simpa using ho)
  unfold edges at hk
  obtain ⟨e, he, rfl⟩ := List.mem_map.1 hk
  simpa using (h5 o hm).1 e (List.mem_filter.1 he).1
 ·have hm : o ∈ l := List.mem_of_getElem? (by simpa using ho)
  have := (h5 o hm).2
  rw [hg] at this
  simpa using this
 ·have := h G0 w0 G a w Q h0 hs hN hQ
  rw [show l.toArray.size = (permG π l π).toArray.size by simpa using hlen.symm]
  exact this
def headX (P : Program) (ops : Array Oper) (n0 i0 : Nat) (E LF ds : List Nat) (tr : Tr) (sg : Option (Nat × Tr)) : Nat -> Nat -> List Oper -> St -> List AV -> (St -> Prop) -> Prop
 | _, 0, _, σ, c, K => freeOthers σ.tmps ds = true /\ (treeA P ops tr { σ with boxes := σ.boxes.set i0 c } K /\ sgA P ops sg { σ with boxes := σ.boxes.set i0 c } K)
 | _, _ + 1, [], σ, c, K => freeOthers σ.tmps ds = true /\ (treeA P ops tr { σ with boxes := σ.boxes.set i0 c } K /\ sgA P ops sg { σ with boxes := σ.boxes.set i0 c } K)
 | k, m + 1, o :: r, σ, c, K => if E.contains k = true then EffK P n0 i0 o σ c fun σ' c' => headX P ops n0 i0 E LF ds tr sg (k + 1) m r σ' c' K else if LF.contains k = true then frB P o σ fun σ' => headX P ops n0 i0 E LF ds tr sg (k + 1) m r σ' c K else headG P ops o σ fun σ' => headX P ops n0 i0 E LF ds tr sg (k + 1) m r σ' c K
theorem headX_eq {P : Program} {ops : Array Oper} {n0 i0 : Nat} {E LF ds : List Nat} {tr : Tr} {sg : Option (Nat × Tr)} {K : St -> Prop} : ∀ (m k : Nat) (l : List Oper) (σ : St) (c : List AV), headX P ops n0 i0 E LF ds tr sg k m l σ c K =
  headE P ops n0 i0 E LF k (l.take m) σ c fun σ' c' => freeOthers σ'.tmps ds = true /\ (treeA P ops tr { σ' with boxes := σ'.boxes.set i0 c' } K /\ sgA P ops sg { σ' with boxes := σ'.boxes.set i0 c' } K)
 | 0, k, l, σ, c => by cases l <;> rfl
 | m + 1, k, [], σ, c => rfl
 | m + 1, k, o :: l, σ, c => by
  have ih : ∀ σ' c', headX P ops n0 i0 E LF ds tr sg (k + 1) m l σ' c' K = headE P ops n0 i0 E LF (k + 1) (l.take m) σ' c' fun σ' c' => freeOthers σ'.tmps ds = true /\ (treeA P ops tr { σ' with boxes := σ'.boxes.set i0 c' } K /\ sgA P ops sg { σ' with boxes := σ'.boxes.set i0 c' } K) := fun σ' c' => headX_eq m (k + 1) l σ' c'
  simp only [headX, List.take_succ_cons, headE, ih]
theorem crs_creators (l : List Oper) (m : Nat) : creators l.toArray m = crs (l.take m) := by rw [crs_eq]; rfl
theorem DrawN.effs {P : Program} {l : List Oper} {σ : St} {K : St -> Prop} (i0 : Nat) (E LF : List Nat) (m : Nat) (tr : Tr) (sg : Option (Nat × Tr)) (c : List AV) (hok : lateOk l.toArray m E LF tr sg = true) (hE : effOk l.toArray m E = true) (hc : σ.boxes[i0]? = some c) (hnt : allLeafs noTag c = true)
  (h : andK (freeAll σ (crs (l.take m)) = true) (headX P l.toArray σ.boxes.length i0 E LF (crs (l.take m)) tr sg 0 m l ⟨σ.n, σ.tmps, σ.boxes.set i0 (blankC E c)⟩ c K)) : DrawN P l.toArray σ K :=
 DrawN.eff i0 E LF m tr sg c hok hE hc hnt (by rw [crs_creators]; exact h.1) (by rw [crs_creators]; have := h.2; rw [headX_eq] at this; exact this)
theorem DrawK.effs {P : Program} {l l' : List Oper} {σ : St} {K : St -> Prop} (π : List Nat) (i0 : Nat) (E LF : List Nat) (m : Nat) (tr : Tr) (sg : Option (Nat × Tr)) (c : List AV) (hm : P.follows .mixedOrders = true) (hπ : permOk l π = true) (hl : permG π l π = l') (hok : lateOk l'.toArray m E LF tr sg = true) (hE : effOk l'.toArray m E = true) (hc : σ.boxes[i0]? = some c) (hnt : allLeafs noTag c = true)
  (h : andK (freeAll σ (crs (l'.take m)) = true) (headX P l'.toArray σ.boxes.length i0 E LF (crs (l'.take m)) tr sg 0 m l' ⟨σ.n, σ.tmps, σ.boxes.set i0 (blankC E c)⟩ c K)) : DrawK P l.toArray σ K :=
 DrawK.ofN hm (DrawN.perm π hπ hl (DrawN.effs i0 E LF m tr sg c hok hE hc hnt h))
theorem DrawK.effs0 {P : Program} {l : List Oper} {σ : St} {K : St -> Prop} (i0 : Nat) (E LF : List Nat) (m : Nat) (tr : Tr) (sg : Option (Nat × Tr)) (c : List AV) (hm : P.follows .mixedOrders = true) (hok : lateOk l.toArray m E LF tr sg = true) (hE : effOk l.toArray m E = true) (hc : σ.boxes[i0]? = some c) (hnt : allLeafs noTag c = true)
  (h : andK (freeAll σ (crs (l.take m)) = true) (headX P l.toArray σ.boxes.length i0 E LF (crs (l.take m)) tr sg 0 m l ⟨σ.n, σ.tmps, σ.boxes.set i0 (blankC E c)⟩ c K)) : DrawK P l.toArray σ K :=
 DrawK.ofN hm (DrawN.effs i0 E LF m tr sg c hok hE hc hnt h)
section
variable {P : Program} {n : Nat} {t : List (Nat × AV)} {b : List (List AV)} {ops : Array Oper} {n0 i0 k m : Nat} {E LF ds : List Nat} {tr : Tr} {sg : Option (Nat × Tr)} {l : List Oper} {c : List AV} {K : St -> Prop}
variable {d : Nat} {T : TypeId} {pos : String} {af : Array Edge} {g : Option (Nat × Bool)}
@[congr] theorem headX_congr {n0' k' : Nat} {σ σ' : St} {c' : List AV} (h0 : n0 = n0') (h1 : k = k') (h : mkd σ = σ') (h2 : c = c') : headX P ops n0 i0 E LF ds tr sg k m l σ c K = headX P ops n0' i0 E LF ds tr sg k' m l σ' c' K := by subst_vars; rfl
@[congr] theorem EffK_congr {n0' : Nat} {o : Oper} {σ σ' : St} {c' : List AV} {K : St -> List AV -> Prop} (h0 : n0 = n0') (h : mkd σ = σ') (h2 : c = c') : EffK P n0 i0 o σ c K = EffK P n0' i0 o σ' c' K := by subst_vars; rfl
@[congr] theorem frB_congr {o : Oper} {σ σ' : St} {K : St -> Prop} (h : mkd σ = σ') : frB P o σ K = frB P o σ' K := by subst_vars; rfl
@[go_sem] theorem frB_eq {o : Oper} : frB P o ⟨n, t, b⟩ K = frA P (some o) ⟨n, t, b⟩ K := rfl
@[go_sem] theorem headX_zero : headX P ops n0 i0 E LF ds tr sg k 0 l ⟨n, t, b⟩ c K = andK (freeOthers t ds = true) (andK (treeA P ops tr ⟨n, t, b.set i0 c⟩ K) (sgA P ops sg ⟨n, t, b.set i0 c⟩ K)) := by cases l <;> rfl
@[go_sem] theorem headX_nil : headX P ops n0 i0 E LF ds tr sg k (m + 1) [] ⟨n, t, b⟩ c K = andK (freeOthers t ds = true) (andK (treeA P ops tr ⟨n, t, b.set i0 c⟩ K) (sgA P ops sg ⟨n, t, b.set i0 c⟩ K)) := rfl
@[go_sem] theorem headX_succ {dst : Option Tmp} {op : Op} : headX P ops n0 i0 E LF ds tr sg k (m + 1) (⟨dst, op, T, pos, af, none⟩ :: l) ⟨n, t, b⟩ c K = selK (E.contains k) (EffK P n0 i0 ⟨dst, op, T, pos, af, none⟩ ⟨n, t, b⟩ c fun σ' c' => headX P ops n0 i0 E LF ds tr sg (k + 1) m l σ' c' K)
  (selK (LF.contains k) (frB P ⟨dst, op, T, pos, af, none⟩ ⟨n, t, b⟩ fun σ' => headX P ops n0 i0 E LF ds tr sg (k + 1) m l σ' c K) (headOp P ⟨dst, op, T, pos, af, none⟩ ⟨n, t, b⟩ fun σ' => headX P ops n0 i0 E LF ds tr sg (k + 1) m l σ' c K)) := by rw [selK_ite, selK_ite]; rfl
def sgD (P : Program) (ops : Array Oper) (o : Option Oper) (tr : Tr) (σ : St) (K : St -> Prop) : Prop := match o with
 | some ⟨some d, _, _, _, _, _⟩ => treeA P ops tr (σ.put (some d) .any) K
 | _ => False
@[congr] theorem sgA_congr {σ σ' : St} (h : mkd σ = σ') : sgA P ops sg σ K = sgA P ops sg σ' K := by subst_vars; rfl
@[congr] theorem sgD_congr {o o' : Option Oper} {σ σ' : St} (h1 : o = o') (h : mkd σ = σ') : sgD P ops o tr σ K = sgD P ops o' tr σ' K := by subst_vars; rfl
@[go_sem] theorem sgA_none : sgA P ops none ⟨n, t, b⟩ K = True := rfl
@[go_sem] theorem sgA_some {x : Nat} : sgA P l.toArray (some (x, tr)) ⟨n, t, b⟩ K = sgD P l.toArray l[x]? tr ⟨n, t, b⟩ K := by
 simp only [sgA, sgD, List.getElem?_toArray]
 cases l[x]? with
 | none => rfl
 | some o =>
  obtain ⟨dst, op, T, pos, af, g⟩ := o
  cases dst <;> simp
@[go_sem] theorem sgD_some {op : Op} : sgD P ops (some ⟨some d, op, T, pos, af, g⟩) tr ⟨n, t, b⟩ K = treeA P ops tr (St.put ⟨n, t, b⟩ (some d) .any) K := rfl
def consO (o : Option Oper) (r : List Oper) : List Oper := match o with
 | some o => o :: r
 | none => []
@[go_sem] theorem consO_some {o : Oper} {r : List Oper} : consO (some o) r = o :: r := rfl
@[go_sem] theorem permG_nil {π : List Nat} : permG π l [] = [] := rfl
@[go_sem] theorem renO_mk {π : List Nat} {dst : Option Tmp} {op : Op} : renO π ⟨dst, op, T, pos, af, none⟩ = ⟨dst, op, T, pos, af.map fun e => ⟨π.idxOf e.on, e.ground⟩, none⟩ := rfl
attribute [go_sem] freeOthers freeBut blankC
theorem EffK.mk {fid : FuncId} {args : List Operand} {As : Array TypeId} {args' c0 c1 : List AV} {r : AV} {K : St -> List AV -> Prop} (hcon : Con P fid args' [c0] fun r' bx => r' = r /\ bx = [c1])
  (hc : d < n /\ dedup (pbss (evAll ⟨n, t, b⟩ args)) = [i0] /\ allLeafs noTag (evAll ⟨n, t, b⟩ args) = true /\ allLeafs noTag c = true) (ha : mapTops (pbIn [i0]) (evAll ⟨n, t, b⟩ args) = args') (hc0 : mapTops (pbIn [i0]) c = c0)
  (hr : r.allLeaf lt64b = true /\ allLeafs noTag c1 = true /\ (mapTops (outLeaf (64 * (d + 1)) [i0] n0) c1).length = c.length /\ allLeafs noTag (mapTops (outLeaf (64 * (d + 1)) [i0] n0) c1) = true)
  (hk : K (St.put ⟨n, t, b⟩ (some d) (r.mapTop (outLeaf (64 * (d + 1)) [i0] n0))) (mapTops (outLeaf (64 * (d + 1)) [i0] n0) c1)) :
  EffK P n0 i0 ⟨some d, .call ⟨.value (.func fid), args.toArray, As⟩, T, pos, af, none⟩ ⟨n, t, b⟩ c K := by
 rw [evAll_eq] at hc ha
 refine ⟨d, _, _, rfl, hc.1, ⟨rfl, fid, args.toArray, As, r, c1, rfl, hc.2.1, hc.2.2.1, by simp [allNoTags, hc.2.2.2], ?_, hr.1, by simp [allNoTags, hr.2.1], by rw [List.length_replicate], by simp [mapB]⟩, hr.2.2.1, hr.2.2.2, hk⟩
 rw [ha, show mapB (pbIn [i0]) [c] = [c0] by simp [mapB, hc0]]
 exact hcon
end
end Go.AM
namespace Go.AM
open Go.RowKit Go.Proofs Go.Shelf
end Go.AM
namespace Go.AM
open Go Go.Proofs Go.RowKit
theorem wrap_in {n : Int} (h1 : -9223372036854775808 <= n) (h2 : n <= 9223372036854775807) : IntKind.i64.wrap n = n := by rw [IntKind.wrap_i64]; omega
def vi (x : Int) : AV := .sc (.int .i64 x)
def vu (x : Int) : AV := .sc (.int .u8 x)
def vs (t : Nat) (l : List Int) : AV := .sl t 1 (l.map vi)
theorem getv {l : List Int} {i : Nat} (h : i < l.length) : (l.map vi)[i]? = some (.sc (.int .i64 l[i]!)) := by simp [vi, h]
def findI {α : Type} (p : α -> Bool) (l : List α) : Int := match l.findIdx? p with | some i => i | none => -1
theorem findI_stop {α : Type} [Inhabited α] {p : α -> Bool} {l : List α} {i : Nat} (h : i < l.length) (hb : ∀ j, j < i -> p l[j]! = false) (hp : p l[i]! = true) : findI p l = i := by
 have : l.findIdx? p = some i := by
  rw [List.findIdx?_eq_some_iff_getElem]
  refine ⟨h, by simpa [h] using hp, fun j hj => ?_⟩
  have := hb j hj
  have hjl : j < l.length := by omega
  simpa [hjl] using this
 simp [findI, this]
theorem findI_none {α : Type} [Inhabited α] {p : α -> Bool} {l : List α} (hb : ∀ j, j < l.length -> p l[j]! = false) : findI p l = -1 := by
 have : l.findIdx? p = none := by
  rw [List.findIdx?_eq_none_iff]
  intro x hx
  obtain ⟨j, hj⟩ := List.getElem?_of_mem hx
  have hjl := (List.getElem?_eq_some_iff.1 hj).1
  have := hb j hjl
  have e : l[j]! = x := by simp [hj]
  rw [e] at this; exact this
 simp [findI, this]
theorem findI_ge {α : Type} (p : α -> Bool) (l : List α) : decide (0 <= findI p l) = l.any p := by
 unfold findI
 cases h : l.findIdx? p with
 | none =>
  rw [List.findIdx?_eq_none_iff] at h
  have : l.any p = false := by simpa using h
  simp [this]
 | some i =>
  rw [List.findIdx?_eq_some_iff_getElem] at h
  obtain ⟨h1, h2, _⟩ := h
  have : l.any p = true := List.any_eq_true.2 ⟨l[i], List.getElem_mem _, h2⟩
  simp [this]
theorem mem_bang {α : Type} [Inhabited α] {l : List α} {i : Nat} (h : i < l.length) : l[i]! ∈ l := by rw [getElem!_pos l i h]; exact List.getElem_mem _
def vb (b : Bool) : AV := .sc (.bool b)
attribute [go_sem] vi vu vs vb
def vbl (t : Nat) (row : List Bool) : AV := .sl t 1 (row.map vb)
theorem Con.args {P : Program} {f : FuncId} {args args' : List AV} {bx : List (List AV)} {post : AV -> List (List AV) -> Prop} (h : Con P f args bx post)
  (ha : ∀ (G : Nat -> Status) (w : World) (vs : List Value), PW (VRel G w) args' vs -> PW (VRel G w) args vs) : Con P f args' bx post :=
 ⟨h.1, fun G w vs h1 h2 h3 h4 h5 => h.2 G w vs h1 h2 h3 h4 (ha G w _ h5)⟩
def Sub (x y : AV) : Prop := ∀ (S : Nat -> Prop) (w : World) (v : Value), FRel S w x v -> FRel S w y v
theorem Sub.refl (x : AV) : Sub x x := fun _ _ _ h => h
theorem Sub.nil (es : Nat) : Sub .nil (.sl 0 es []) := fun S w v h => by
 cases h; exact .slNil 0 es none 0 (by omega) (fun h => by omega) (fun _ => rfl)
theorem DrawK.freeze {P : Program} {ops : Array Oper} {σ : St} {K : St -> Prop} (p : Nat -> Bool) (h : DrawK P ops (σ.map (freezeLeaf p)) K) : DrawK P ops σ K :=
 fun G0 w0 _G a w id Q h0 hs hK => h G0 w0 _ a w id Q h0 (hs.freeze h0 p) hK
theorem Con.freezeR {P : Program} {f : FuncId} {args : List AV} {post : AV -> Prop} (p : Nat -> Bool) (h : Con P f args [] fun r _ => post r) : Con P f args [] fun r' _ => ∃ r, post r /\ r' = r.freeze p :=
 ⟨h.1, fun G w vs h1 h2 h3 h4 h5 => (h.2 G w vs h1 h2 h3 h4 h5).mono fun e w' ⟨v, r, bx', G', he, hq, hr, hg, hbx, hlt, e1, e2, e3, e4, e5, e6⟩ => by
  have hbox : ∀ k i, freezeG p G' k = .box i ↔ G' k = .box i := fun k i => by
   unfold freezeG; split
   ·rename_i t ht; split <;> simp [ht]
   ·exact Iff.rfl
  refine ⟨v, _, bx'.map (fun cs => cs.map (AV.freeze p)), freezeG p G', he, ⟨r, hq, rfl⟩, hr.freeze, hg.freeze, ⟨fun i vs hv => by simp [noGh] at hv, fun i cs hi => ?_⟩, fun k i hk => by simpa using hlt k i ((hbox k i).1 hk), e1, e2, e3, e4, fun k hk => ?_, e6⟩
  ·rw [List.getElem?_map] at hi
   cases hc : bx'[i]? with
   | none => simp [hc] at hi
   | some cs' =>
    simp [hc] at hi; subst hi
    exact (hbx.cell i cs' hc).map (fun x v hr => hr.freeze) (fun k hk => ⟨(hbox k i).2 hk, rfl⟩) fun h0 k hk => h0 k ((hbox k i).1 hk)
  ·have := e5 k hk
   unfold freezeG
   split
   ·rename_i t ht; rw [this] at ht; exact absurd ht (h2 k t)
   ·exact this⟩
theorem modify_vi {Z : List Int} {q : Nat} {x : Int} : (List.map vi Z).modify q (updElem 0 [AV.sc (.int .i64 x)]) = List.map vi (Z.set q x) := by
 apply List.ext_getElem?
 intro j
 rw [List.getElem?_modify, List.getElem?_map, List.getElem?_map, List.getElem?_set]
 by_cases hq : q = j
 ·subst hq
  by_cases hl : q < Z.length
  ·simp [hl, vi, updElem]
  ·simp [hl]
 ·simp [hq]
def metD (ks : List (List UInt8)) : DataW Unit := Go.Maps.setOf (.lit (.bool true)) (ks.map Lit.string)
theorem metD_snoc (ks : List (List UInt8)) (k : List UInt8) : (metD ks).put (.string k) (.lit (.bool true)) = metD (ks ++ [k]) := by
 unfold metD; rw [List.map_append]; exact (Go.Maps.setOf_snoc _ _ _).symm
theorem metD_tidy (ks : List (List UInt8)) : Go.Maps.Tidy (metD ks) := Go.Maps.tidy_setOf _ _ fun x hx => by
 obtain ⟨k, _, rfl⟩ := List.mem_map.1 hx; trivial
theorem metD_at : ∀ (ks : List (List UInt8)) (k : List UInt8), boolAt (metD ks) (.string k) = ks.contains k := by
 intro ks k
 have : ∀ (n : Nat) (ks : List (List UInt8)), ks.length = n -> boolAt (metD ks) (.string k) = ks.contains k := by
  intro n
  induction n with
  | zero => intro ks h; obtain rfl := List.eq_nil_of_length_eq_zero h; rfl
  | succ n ih =>
   intro ks h
   obtain ⟨ks', x, rfl⟩ : ∃ ks' x, ks = ks' ++ [x] := ⟨ks.dropLast, ks.getLast (by intro e; rw [e] at h; simp at h), (List.dropLast_concat_getLast _).symm⟩
   have ih' := ih ks' (by simpa using h)
   rw [<- metD_snoc]
   by_cases hk : k = x
   ·subst hk
    unfold boolAt
    rw [Go.Maps.atKey_put_same (metD_tidy _).isMap (by trivial)]
    simp
   ·unfold boolAt at ih' ⊢
    rw [Go.Maps.atKey_put_other (by intro e; cases e; exact hk rfl), ih']
    simp [hk]
 exact this _ ks rfl
attribute [go_sem] vbl
inductive CV where
 | mk (n : Int) (kids : List CV)
 deriving Inhabited
def CV.n : CV -> Int
 | .mk n _ => n
def CV.kids : CV -> List CV
 | .mk _ k => k
mutual
def vV : CV -> AV
 | .mk n kids => .ag [vi n, .sl 0 2 (vVs kids)]
def vVs : List CV -> List AV
 | [] => []
 | x :: l => vV x :: vVs l
end
theorem vVs_map : ∀ l : List CV, vVs l = l.map vV
 | [] => rfl
 | x :: l => by rw [vVs, vVs_map l]; rfl
theorem vV_eq (a : CV) : vV a = .ag [vi a.n, .sl 0 2 (a.kids.map vV)] := by cases a; rw [vV, vVs_map]; rfl
def ordI (a b : Int) : Int := if a < b then -1 else if b < a then 1 else 0
mutual
def cmpV : CV -> CV -> Int
 | .mk n k, .mk m l => if n ≠ m then ordI n m else if k.length ≠ l.length then ordI k.length l.length else cmpVs k l
def cmpVs : List CV -> List CV -> Int
 | [], [] => 0
 | [], _ :: _ => -1
 | _ :: _, [] => 1
 | x :: k, y :: l => if cmpV x y ≠ 0 then cmpV x y else cmpVs k l
end
theorem ordI_zero {a b : Int} : ordI a b = 0 ↔ a = b := by unfold ordI; split <;> (try split) <;> omega
mutual
theorem cmpV_zero : ∀ (a b : CV), cmpV a b = 0 ↔ a = b
 | .mk n k, .mk m l => by
  rw [cmpV]
  by_cases h : n = m
  ·rw [if_neg (fun h' => h' h)]
   by_cases h2 : k.length = l.length
   ·rw [if_neg (fun h' => h' h2), cmpVs_zero k l, h]; simp
   ·rw [if_pos h2, ordI_zero]
    exact ⟨fun e => absurd (by omega) h2, fun e => absurd (by injection e with _ e; rw [e]) h2⟩
  ·rw [if_pos h, ordI_zero]
   exact ⟨fun e => absurd e h, fun e => absurd (by injection e) h⟩
theorem cmpVs_zero : ∀ (k l : List CV), cmpVs k l = 0 ↔ k = l
 | [], [] => by simp [cmpVs]
 | [], _ :: _ => by simp [cmpVs]
 | _ :: _, [] => by simp [cmpVs]
 | x :: k, y :: l => by
  rw [cmpVs]
  by_cases h : cmpV x y = 0
  ·rw [if_neg (fun h' => h' h), cmpVs_zero k l, (cmpV_zero x y).1 h]; simp
  ·rw [if_pos h]
   exact ⟨fun e => absurd e h, fun e => absurd ((cmpV_zero x y).2 (by injection e)) h⟩
end
inductive CV.Ok : CV -> Prop
 | mk (n : Int) (k : List CV) : k.length <= 9223372036854775807 -> (∀ x ∈ k, CV.Ok x) -> CV.Ok (.mk n k)
theorem CV.Ok.len {a : CV} (h : a.Ok) : a.kids.length <= 9223372036854775807 := by cases h; assumption
theorem CV.Ok.kid {a : CV} (h : a.Ok) {x : CV} (hx : x ∈ a.kids) : x.Ok := by cases h with | mk n k _ h2 => exact h2 x hx
theorem kid_size {a x : CV} (h : x ∈ a.kids) : SizeOf.sizeOf x < SizeOf.sizeOf a := by
 cases a with
 | mk n k => have := List.sizeOf_lt_of_mem h; simp only [CV.kids] at *; rw [CV.mk.sizeOf_spec]; omega
theorem getvV {l : List CV} {i : Nat} (h : i < l.length) : (l.map vV)[i]? = some (.ag [.sc (.int .i64 l[i]!.n), .sl 0 2 (l[i]!.kids.map vV)]) := by
 rw [List.getElem?_map, List.getElem?_eq_getElem h, getElem!_pos l i h, Option.map_some, vV_eq]; rfl
def orF (l : List Int) : Int := (l.find? (· != 0)).getD 0
theorem or_cmp (a b : CV) : orF [ordI a.n b.n, ordI a.kids.length b.kids.length, cmpVs a.kids b.kids] = cmpV a b := by
 obtain ⟨n, k⟩ := a
 obtain ⟨m, l⟩ := b
 rw [cmpV]
 simp only [CV.n, CV.kids]
 unfold orF
 by_cases h : n = m
 ·rw [if_neg (fun h' => h' h), List.find?_cons_of_neg (by simp [ordI_zero, h])]
  by_cases h2 : k.length = l.length
  ·rw [if_neg (fun h' => h' h2), List.find?_cons_of_neg (by simp [ordI_zero, h2])]
   by_cases h3 : cmpVs k l = 0
   ·rw [List.find?_cons_of_neg (by simp [h3]), h3]; rfl
   ·rw [List.find?_cons_of_pos (by simp [h3])]; rfl
  ·rw [if_pos h2, List.find?_cons_of_pos (by simp [ordI_zero]; omega)]; rfl
 ·rw [if_pos h, List.find?_cons_of_pos (by simp [ordI_zero, h])]; rfl
theorem Sub.slE {t es : Nat} {xs ys : List AV} (hl : xs.length = ys.length) (hy : ∀ y ∈ ys, y.cells.length = es) (h : PW Sub (flat xs) (flat ys)) : Sub (.sl t es xs) (.sl t es ys) := fun S w v hv => by
 cases hv with
 | slNil _ _ a c h1 h2 h3 =>
  have : ys = [] := List.eq_nil_of_length_eq_zero (by simpa using hl.symm)
  subst this; exact .slNil t es a c h1 h2 h3
 | sl _ _ _ b off c vals h1 h2 h3 hc h4 h5 h0 h6 h7 =>
  rw [hl]
  refine .sl t es ys b off c vals h1 h2 (fun e => by rw [h3 e, hl]) (by omega) hy (by rw [<- h.1]; exact h5) h0 h6 fun j y u hj hu => ?_
  have hjl : j < (flat xs).length := by rw [h.1]; exact (List.getElem?_eq_some_iff.1 hj).1
  exact h.2 j _ y (List.getElem?_eq_getElem hjl) hj S w u (h7 j _ u (List.getElem?_eq_getElem hjl) hu)
theorem leV_slE {t es : Nat} {xs ys : List AV} (hl : xs.length = ys.length) (hy : ∀ y ∈ ys, y.cells.length = es) (h : PW Sub (flat xs) (flat ys)) : leV (.sl t es xs) (.sl t es ys) := leV_sem fun G w v hv => by
 cases hv with
 | froz h' => exact .froz (Sub.slE hl hy h _ _ _ h')
 | own _ _ _ _ e vals h1 h2 h3 h4 h0 h5 =>
  refine .own t es ys v e vals h1 (by rw [<- hl]; exact h2) h3 hy h0 ⟨by rw [<- h.1]; exact h5.1, fun j y u hj hu => ?_⟩
  have hjl : j < (flat xs).length := by rw [h.1]; exact (List.getElem?_eq_some_iff.1 hj).1
  exact h.2 j _ y (List.getElem?_eq_getElem hjl) hj _ _ u (h5.2 j _ u (List.getElem?_eq_getElem hjl) hu)
theorem share3 {body : (Exit -> St -> Prop) -> St -> Prop} {Q : Exit -> St -> Prop} {T : St -> Prop} {A : Prop} (h : (∀ τ, T τ -> LoopK body Q τ) -> A) (key : ∀ τ, T τ -> LoopK body Q τ) : A := h key
end Go.AM
namespace Go.AM
structure RD where
 name : ByteArray
 src : Int
 dst : Int
 need : List Int
 give : List Int
 move : List Int
 channel : Int := 0
 act : Int := 0
 letter : Int := 0
 path : List Int := []
 next : List Int := []
 takes : List (Int × Int × Int) := []
 makes : List Int := []
 second : Int := 0
 deriving Inhabited
structure AtomD where
 coefs : List Int
 mod : Int
 values : List Int
 deriving Inhabited
end Go.AM
namespace Go.AM
open Go Go.Proofs Go.RowKit
def vStr (s : ByteArray) : AV := .sc (.string s)
def vss (l : List ByteArray) : AV := .sl 0 1 (l.map vStr)
def vTake (t : Int × Int × Int) : AV := .ag [vi t.1, vi t.2.1, vi t.2.2]
def vRule (r : RD) : AV := .ag [vStr r.name, vi r.src, vi r.dst, vs 0 r.need, vs 0 r.give, vs 0 r.move, vi r.channel, vi r.act, vi r.letter, vs 0 r.path, vs 0 r.next, .sl 0 3 (r.takes.map vTake), vs 0 r.makes, vi r.second]
structure MD where
 kind : Int
 states : List ByteArray
 places : List ByteArray
 letters : List ByteArray := []
 ranks : List Int := []
 levels : Int := 0
 age : Int := 0
 rules : List RD
 start : CV
 deriving Inhabited
def cM (m : MD) : List AV := [vi m.kind, vss m.states, vss m.places, vss m.letters, vs 0 m.ranks, vi m.levels, vi m.age, .sl 0 14 (m.rules.map vRule), vi m.start.n, .sl 0 2 (m.start.kids.map vV)]
def vM (m : MD) : AV := .ag (cM m)
def letterB (c : UInt8) : Bool := decide (97 <= c) && decide (c <= 122)
def digitB (c : UInt8) : Bool := decide (48 <= c) && decide (c <= 57)
def partB (c : UInt8) : Bool := letterB c || digitB c || c == 95
def wordB (s : ByteArray) : Bool := decide (0 < s.size) && decide (s.size <= 12) && letterB (s.get! 0) && s.toList.all partB
def kwL : List ByteArray := [⟨#[109, 111, 100, 101, 108]⟩, ⟨#[115, 116, 97, 116, 101, 115]⟩, ⟨#[112, 108, 97, 99, 101, 115]⟩, ⟨#[108, 101, 116, 116, 101, 114, 115]⟩, ⟨#[108, 101, 118, 101, 108, 115]⟩, ⟨#[97, 103, 101]⟩, ⟨#[114, 117, 108, 101]⟩, ⟨#[110, 101, 101, 100]⟩, ⟨#[103, 105, 118, 101]⟩, ⟨#[109, 111, 118, 101]⟩, ⟨#[101, 109, 112, 116, 121]⟩, ⟨#[115, 101, 110, 100]⟩, ⟨#[114, 101, 99, 101, 105, 118, 101]⟩, ⟨#[112, 97, 116, 104]⟩, ⟨#[110, 101, 120, 116]⟩, ⟨#[116, 97, 107, 101]⟩, ⟨#[109, 97, 107, 101]⟩, ⟨#[115, 116, 97, 114, 116]⟩]
def keywordB (s : ByteArray) : Bool := kwL.any fun k => s.toList == k.toList
def okN (l : List ByteArray) (i : Nat) : Bool := wordB l[i]! && !keywordB l[i]! && !((l.take i).map fun s => s.data.toList).contains l[i]!.data.toList
def namesB (l : List ByteArray) : Bool := (List.range l.length).all (okN l)
def namesOf (m : MD) : List ByteArray := m.states ++ m.places ++ m.letters ++ m.rules.map RD.name
def betweenB (x low high : Int) : Bool := decide (low <= x) && decide (x <= high)
def smallB (l : List Int) : Bool := l.all fun x => betweenB x 0 16
def changesB (np : Nat) (r : RD) : Bool := decide (r.need.length = np) && decide (r.give.length = np) && smallB r.need && smallB r.give
def movesB (np : Nat) (r : RD) : Bool := (r.move.length == 0) || (decide (r.move.length = np) && r.move.all fun x => betweenB x (-1) (np - 1))
def indexB (x : Int) (n : Nat) : Bool := decide (0 <= x) && decide (x < n)
def confB (ns np : Nat) (c : CV) : Bool :=
 match c with
 | .mk n (x :: l) => n == 0 && decide (0 <= x.n) && decide (x.n < ns) && x.kids.length == 0 && l.length == np && l.all (fun k => decide (0 <= k.n) && decide (k.n <= 1048576) && k.kids.length == 0)
 | _ => false
theorem getRule {l : List RD} {i : Nat} (h : i < l.length) : (l.map vRule)[i]? = some (vRule l[i]!) := by
 rw [List.getElem?_map, List.getElem?_eq_getElem h, getElem!_pos l i h, Option.map_some]
theorem getStr {l : List ByteArray} {i : Nat} (h : i < l.length) : (l.map vStr)[i]? = some (.sc (.string l[i]!)) := by
 rw [List.getElem?_map, List.getElem?_eq_getElem h, getElem!_pos l i h, Option.map_some]; rfl
end Go.AM
namespace Go.Proofs.YtiklkcjkmhkgjaaGreat
open Go.ChangeShapes Go.WideShapes Go.ChangeAt Go.RowKit Go.AM
theorem own : ownKnob Tryz.prog.godebug = none := by kernel_rfl
theorem laidOut : laidOutB Tryz.prog = true := by kernel_rfl
theorem read22 : Tryz.prog.readableRec 22 = true /\ 22 < Tryz.prog.types.size := ⟨by kernel_rfl, of_decide_eq_true (by kernel_rfl)⟩
theorem reads22 (n : Nat) : ∀ t ∈ List.replicate n 22, Tryz.prog.readableRec t = true /\ t < Tryz.prog.types.size := fun t ht => by rw [List.eq_of_mem_replicate ht]; exact read22
section
variable {H : Type} {enc : TypeId × Value -> H} {P : Program} {w : World} {base : Nat} {spare : Nat -> Bool} {held : Bool}
end
end Go.Proofs.YtiklkcjkmhkgjaaGreat
namespace Go.AM
inductive ResB (α : Type) where
 | ok (s : α)
 | blocked
 | limit
structure FamB (α β : Type) where
 sizes : Nat -> List α
 known : List β
section
variable {α β : Type}
structure MoreB (F G : FamB α β) (k : Nat) : Prop where
 known : ∀ c ∈ F.known, c ∈ G.known
 same : ∀ j, j ≠ k -> G.sizes j = F.sizes j
 sub : ∀ s ∈ F.sizes k, s ∈ G.sizes k
theorem MoreB.refl (F : FamB α β) (k : Nat) : MoreB F F k := ⟨fun _ h => h, fun _ _ => rfl, fun _ h => h⟩
theorem MoreB.trans {F G H : FamB α β} {k : Nat} (h : MoreB F G k) (g : MoreB G H k) : MoreB F H k :=
 ⟨fun c hc => g.known c (h.known c hc), fun j hj => (g.same j hj).trans (h.same j hj), fun s hs => g.sub s (h.sub s hs)⟩
end
section
variable {α β : Type} [DecidableEq β] (val : α -> β) (ins : List β -> β -> List β)
def addB (F : FamB α β) (k : Nat) : ResB α -> FamB α β × Bool
 | .limit => (F, true)
 | .blocked => (F, false)
 | .ok s => if val s ∈ F.known then (F, false) else if F.known.length = 256 then (F, true) else (⟨fun j => if j = k then F.sizes j ++ [s] else F.sizes j, ins F.known (val s)⟩, false)
def addsB (F : FamB α β) (k : Nat) : List (ResB α) -> FamB α β × Bool
 | [] => (F, false)
 | x :: l => if (addB val ins F k x).2 = true then addB val ins F k x else addsB (addB val ins F k x).1 k l
variable {val ins}
def InsOk (ins : List β -> β -> List β) : Prop := ∀ l x y, y ∈ ins l x ↔ y ∈ l \/ y = x
theorem add_more (hi : InsOk ins) (F : FamB α β) (k : Nat) (x : ResB α) : MoreB F (addB val ins F k x).1 k := by
 unfold addB
 split
 ·exact .refl F k
 ·exact .refl F k
 ·split
  ·exact .refl F k
  ·split
   ·exact .refl F k
   ·exact ⟨fun c hc => (hi _ _ _).2 (.inl hc), fun j hj => by simp [hj], fun s hs => by simp [hs]⟩
theorem adds_more (hi : InsOk ins) (k : Nat) : ∀ (l : List (ResB α)) (F : FamB α β), MoreB F (addsB val ins F k l).1 k
 | [], F => .refl F k
 | x :: l, F => by
  rw [addsB]
  split
  ·exact add_more hi F k x
  ·exact (add_more hi F k x).trans (adds_more hi k l _)
structure RuB (α : Type) where
 p : Nat
 ap : List α -> ResB α
def tupB (sz : Nat -> List α) (k : Nat) (r : RuB α) : List (ResB α) :=
 if r.p = 0 then (if k = 1 then [r.ap []] else [])
 else if r.p = 1 then (sz (k - 1)).map fun s => r.ap [s]
 else (List.range (k - 2)).flatMap fun a => (sz (a + 1)).flatMap fun s => (sz (k - 1 - (a + 1))).map fun t => r.ap [s, t]
variable (val ins) in
def stageB (F : FamB α β) (k : Nat) : List (RuB α) -> FamB α β × Bool
 | [] => (F, false)
 | r :: rs => if (addsB val ins F k (tupB F.sizes k r)).2 = true then addsB val ins F k (tupB F.sizes k r) else stageB (addsB val ins F k (tupB F.sizes k r)).1 k rs
variable (val ins) in
def allB (rs : List (RuB α)) : Nat -> FamB α β × Bool
 | 0 => (⟨fun _ => [], []⟩, false)
 | k + 1 => if (allB rs k).2 = true then allB rs k else stageB val ins (allB rs k).1 (k + 1) rs
inductive DerB (rs : List (RuB α)) : Nat -> α -> Prop
 | zero (r : RuB α) (s : α) : r ∈ rs -> r.p = 0 -> r.ap [] = .ok s -> DerB rs 1 s
 | one (r : RuB α) (n : Nat) (t s : α) : r ∈ rs -> r.p = 1 -> DerB rs n t -> r.ap [t] = .ok s -> DerB rs (n + 1) s
 | two (r : RuB α) (a b : Nat) (t u s : α) : r ∈ rs -> 2 <= r.p -> DerB rs a t -> DerB rs b u -> r.ap [t, u] = .ok s -> DerB rs (a + b + 1) s
end
section
variable {α β : Type} [DecidableEq β] {val : α -> β} {ins : List β -> β -> List β}
def InsLen (ins : List β -> β -> List β) : Prop := ∀ l x, (ins l x).length = l.length + 1
end
def premB (r : RD) : List Int := if r.src < 0 then [] else if r.second < 0 then [r.src] else [r.src, r.second]
def sumB (l : List (Int × List Int)) (p : Nat) : Int := match l with
 | [] => 0
 | s :: l => s.2[p]! + sumB l p
def outB21 (n : Nat) (r : RD) (l : List (Int × List Int)) : List Int := (List.range n).map fun p => sumB l p - r.need[p]! + r.give[p]!
def appB (n : Nat) (r : RD) (l : List (Int × List Int)) : ResB (Int × List Int) :=
 if l.map (·.1) ≠ premB r then .blocked
 else if (List.range n).any (fun p => decide (sumB l p < r.need[p]!)) = true then .blocked
 else if (outB21 n r l).any (fun x => decide (1048576 < x)) = true then .limit
 else .ok (r.dst, outB21 n r l)
def ruBra (n : Nat) (r : RD) : RuB (Int × List Int) := ⟨(premB r).length, appB n r⟩
theorem app_ok {n : Nat} {r : RD} {l : List (Int × List Int)} {s : Int × List Int} (h : appB n r l = .ok s) : l.map (·.1) = premB r /\ (∀ p, p < n -> r.need[p]! <= sumB l p) /\ s = (r.dst, outB21 n r l) /\ ∀ x ∈ outB21 n r l, x <= 1048576 := by
 unfold appB at h
 split at h
 ·cases h
 ·rename_i h1
  split at h
  ·cases h
  ·rename_i h2
   split at h
   ·cases h
   ·rename_i h3
    refine ⟨by simpa using h1, fun p hp => ?_, by injection h with h; exact h.symm, fun x hx => ?_⟩
    ·refine Classical.byContradiction fun hn => h2 ?_
     rw [List.any_eq_true]
     exact ⟨p, List.mem_range.2 hp, decide_eq_true (by omega)⟩
    ·refine Classical.byContradiction fun hn => h3 ?_
     rw [List.any_eq_true]
     exact ⟨x, hx, decide_eq_true (by omega)⟩
def LeB (n : Nat) : List (Int × List Int) -> List (Int × List Int) -> Prop
 | [], [] => True
 | s :: l, t :: k => s.1 = t.1 /\ (∀ p, p < n -> s.2[p]! <= t.2[p]!) /\ LeB n l k
 | _, _ => False
theorem LeB.sum {n : Nat} : ∀ {l k : List (Int × List Int)}, LeB n l k -> l.map (·.1) = k.map (·.1) /\ ∀ p, p < n -> sumB l p <= sumB k p
 | [], [], _ => ⟨rfl, fun _ _ => Int.le_refl _⟩
 | s :: l, t :: k, h => by
  obtain ⟨h1, h2, h3⟩ := h
  obtain ⟨a, b⟩ := LeB.sum h3
  refine ⟨by rw [List.map_cons, List.map_cons, h1, a], fun p hp => ?_⟩
  have := h2 p hp; have := b p hp
  unfold sumB; omega
 | [], _ :: _, h => by cases h
 | _ :: _, [], h => by cases h
theorem brApp_mono {n : Nat} {r : RD} {l k : List (Int × List Int)} (h : LeB n l k) {s : Int × List Int} (hs : appB n r l = .ok s) :
  appB n r k = .limit \/ ∃ t, appB n r k = .ok t /\ s.1 = t.1 /\ ∀ p, p < n -> s.2[p]! <= t.2[p]! := by
 obtain ⟨h1, h2, rfl, _⟩ := app_ok hs
 obtain ⟨e, hsum⟩ := h.sum
 have hb : ¬ (List.range n).any (fun p => decide (sumB k p < r.need[p]!)) = true := fun hh => by
  rw [List.any_eq_true] at hh
  obtain ⟨p, hp, hd⟩ := hh
  have hp := List.mem_range.1 hp
  have := h2 p hp; have := hsum p hp; have := of_decide_eq_true hd
  omega
 unfold appB
 rw [if_neg (by rw [<- e]; simpa using h1), if_neg hb]
 by_cases hl : (outB21 n r k).any (fun x => decide (1048576 < x)) = true
 ·exact .inl (by rw [if_pos hl])
 ·refine .inr ⟨(r.dst, outB21 n r k), by rw [if_neg hl], rfl, fun p hp => ?_⟩
  have := hsum p hp
  have key : ∀ l, (outB21 n r l)[p]! = sumB l p - r.need[p]! + r.give[p]! := fun l => by
   rw [getElem!_pos _ p (by simpa [outB21] using hp)]; simp [outB21]
  simp only [key]; omega
end Go.AM
namespace Go.AM
open Go Go.Proofs
theorem tinfo_3 : tinfo Tryz.prog 3 = some (1, 8, some (Value.int IntKind.i64 (0))) := by kernel_rfl
theorem agg_3 : aggT Tryz.prog 3 = some false := by kernel_rfl
theorem tinfo_4 : tinfo Tryz.prog 4 = some (1, 1, some (Value.bool false)) := by kernel_rfl
theorem tinfo_5 : tinfo Tryz.prog 5 = some (1, 1, some (Value.int IntKind.u8 (0))) := by kernel_rfl
theorem tinfo_9 : tinfo Tryz.prog 9 = some (1, 16, some (Value.string (ByteArray.mk (List.toArray [])))) := by kernel_rfl
theorem agg_9 : aggT Tryz.prog 9 = some false := by kernel_rfl
theorem tinfo_22 : tinfo Tryz.prog 22 = some (1, 24, some (Value.slice none 0 0)) := by kernel_rfl
theorem agg_22 : aggT Tryz.prog 22 = some false := by kernel_rfl
theorem tinfo_23 : tinfo Tryz.prog 23 = some (1, 24, some (Value.slice none 0 0)) := by kernel_rfl
theorem agg_23 : aggT Tryz.prog 23 = some false := by kernel_rfl
theorem tinfo_25 : tinfo Tryz.prog 25 = some (2, 32, some (Value.agg (List.toArray [Value.int IntKind.i64 (0), Value.slice none 0 0]))) := by kernel_rfl
theorem agg_25 : aggT Tryz.prog 25 = some true := by kernel_rfl
theorem tinfo_31 : tinfo Tryz.prog 31 = some (1, 24, some (Value.slice none 0 0)) := by kernel_rfl
theorem agg_31 : aggT Tryz.prog 31 = some false := by kernel_rfl
theorem tinfo_32 : tinfo Tryz.prog 32 = some (1, 24, some (Value.slice none 0 0)) := by kernel_rfl
theorem agg_32 : aggT Tryz.prog 32 = some false := by kernel_rfl
theorem tinfo_33 : tinfo Tryz.prog 33 = some (1, 24, some (Value.slice none 0 0)) := by kernel_rfl
theorem agg_33 : aggT Tryz.prog 33 = some false := by kernel_rfl
theorem tinfo_35 : tinfo Tryz.prog 35 = some (2, 32, some (Value.agg (List.toArray [Value.int IntKind.i64 (0), Value.slice none 0 0]))) := by kernel_rfl
theorem agg_35 : aggT Tryz.prog 35 = some true := by kernel_rfl
theorem tinfo_37 : tinfo Tryz.prog 37 = some (10, 176, some (Value.agg (List.toArray [Value.int IntKind.i64 (0), Value.slice none 0 0, Value.slice none 0 0, Value.slice none 0 0, Value.slice none 0 0, Value.int IntKind.i64 (0), Value.int IntKind.i64 (0), Value.slice none 0 0, Value.int IntKind.i64 (0), Value.slice none 0 0]))) := by kernel_rfl
theorem agg_37 : aggT Tryz.prog 37 = some true := by kernel_rfl
theorem tinfo_44 : tinfo Tryz.prog 44 = some (1, 24, some (Value.slice none 0 0)) := by kernel_rfl
theorem agg_44 : aggT Tryz.prog 44 = some false := by kernel_rfl
theorem tinfo_46 : tinfo Tryz.prog 46 = some (2, 32, some (Value.agg (List.toArray [Value.int IntKind.i64 (0), Value.slice none 0 0]))) := by kernel_rfl
theorem agg_46 : aggT Tryz.prog 46 = some true := by kernel_rfl
theorem tinfo_59 : tinfo Tryz.prog 59 = some (1, 24, some (Value.slice none 0 0)) := by kernel_rfl
theorem agg_59 : aggT Tryz.prog 59 = some false := by kernel_rfl
theorem tinfo_61 : tinfo Tryz.prog 61 = some (14, 232, some (Value.agg (List.toArray [Value.string (ByteArray.mk (List.toArray [])), Value.int IntKind.i64 (0), Value.int IntKind.i64 (0), Value.slice none 0 0, Value.slice none 0 0, Value.slice none 0 0, Value.int IntKind.i64 (0), Value.int IntKind.i64 (0), Value.int IntKind.i64 (0), Value.slice none 0 0, Value.slice none 0 0, Value.slice none 0 0, Value.slice none 0 0, Value.int IntKind.i64 (0)]))) := by kernel_rfl
theorem agg_61 : aggT Tryz.prog 61 = some true := by kernel_rfl
theorem tinfo_62 : tinfo Tryz.prog 62 = some (1, 24, some (Value.slice none 0 0)) := by kernel_rfl
theorem agg_62 : aggT Tryz.prog 62 = some false := by kernel_rfl
theorem tinfo_64 : tinfo Tryz.prog 64 = some (4, 64, some (Value.agg (List.toArray [Value.int IntKind.i64 (0), Value.int IntKind.i64 (0), Value.slice none 0 0, Value.slice none 0 0]))) := by kernel_rfl
theorem agg_64 : aggT Tryz.prog 64 = some true := by kernel_rfl
theorem tinfo_73 : tinfo Tryz.prog 73 = some (1, 8, some (Value.int IntKind.u64 (0))) := by kernel_rfl
theorem agg_73 : aggT Tryz.prog 73 = some false := by kernel_rfl
theorem tinfo_75 : tinfo Tryz.prog 75 = some (3, 40, some (Value.agg (List.toArray [Value.slice none 0 0, Value.int IntKind.i64 (0), Value.int IntKind.u64 (0)]))) := by kernel_rfl
theorem agg_78 : aggT Tryz.prog 78 = some false := by kernel_rfl
theorem tinfo_86 : tinfo Tryz.prog 86 = some (3, 24, some (Value.agg (List.toArray [Value.int IntKind.i64 (0), Value.int IntKind.i64 (0), Value.int IntKind.i64 (0)]))) := by kernel_rfl
theorem agg_86 : aggT Tryz.prog 86 = some true := by kernel_rfl
theorem tinfo_88 : tinfo Tryz.prog 88 = some (2, 32, some (Value.agg (List.toArray [Value.int IntKind.i64 (0), Value.slice none 0 0]))) := by kernel_rfl
theorem agg_88 : aggT Tryz.prog 88 = some true := by kernel_rfl
theorem tinfo_102 : tinfo Tryz.prog 102 = some (1, 24, some (Value.slice none 0 0)) := by kernel_rfl
theorem agg_102 : aggT Tryz.prog 102 = some false := by kernel_rfl
theorem tinfo_104 : tinfo Tryz.prog 104 = some (12, 224, some (Value.agg (List.toArray [Value.int IntKind.i64 (0), Value.slice none 0 0, Value.slice none 0 0, Value.slice none 0 0, Value.slice none 0 0, Value.int IntKind.i64 (0), Value.int IntKind.i64 (0), Value.slice none 0 0, Value.int IntKind.i64 (0), Value.slice none 0 0, Value.slice none 0 0, Value.slice none 0 0]))) := by kernel_rfl
theorem tinfo_120 : tinfo Tryz.prog 120 = some (1, 24, some (Value.slice none 0 0)) := by kernel_rfl
theorem agg_120 : aggT Tryz.prog 120 = some false := by kernel_rfl
theorem tinfo_156 : tinfo Tryz.prog 156 = some (2, 16, some (Value.agg (List.toArray [Value.int IntKind.i64 (0), Value.int IntKind.i64 (0)]))) := by kernel_rfl
theorem tinfo_158 : tinfo Tryz.prog 158 = some (8, 64, some (Value.agg (List.toArray [Value.int IntKind.i64 (0), Value.int IntKind.i64 (0), Value.int IntKind.i64 (0), Value.int IntKind.i64 (0), Value.int IntKind.i64 (0), Value.int IntKind.i64 (0), Value.int IntKind.i64 (0), Value.int IntKind.i64 (0)]))) := by kernel_rfl
theorem agg_158 : aggT Tryz.prog 158 = some true := by kernel_rfl
theorem places_25 : placesOf Tryz.prog 25 = some [(0, 1), (1, 1)] := by kernel_rfl
theorem field_25_0 : fieldOf Tryz.prog 25 0 = some (0, 3) := by kernel_rfl
theorem field_25_1 : fieldOf Tryz.prog 25 1 = some (1, 23) := by kernel_rfl
theorem places_35 : placesOf Tryz.prog 35 = some [(0, 1), (1, 1)] := by kernel_rfl
theorem field_35_0 : fieldOf Tryz.prog 35 0 = some (0, 3) := by kernel_rfl
theorem field_35_1 : fieldOf Tryz.prog 35 1 = some (1, 33) := by kernel_rfl
theorem places_37 : placesOf Tryz.prog 37 = some [(0, 1), (1, 1), (2, 1), (3, 1), (4, 1), (5, 1), (6, 1), (7, 1), (8, 2)] := by kernel_rfl
theorem field_37_0 : fieldOf Tryz.prog 37 0 = some (0, 3) := by kernel_rfl
theorem field_37_1 : fieldOf Tryz.prog 37 1 = some (1, 31) := by kernel_rfl
theorem field_37_2 : fieldOf Tryz.prog 37 2 = some (2, 31) := by kernel_rfl
theorem field_37_3 : fieldOf Tryz.prog 37 3 = some (3, 31) := by kernel_rfl
theorem field_37_4 : fieldOf Tryz.prog 37 4 = some (4, 22) := by kernel_rfl
theorem field_37_5 : fieldOf Tryz.prog 37 5 = some (5, 3) := by kernel_rfl
theorem field_37_6 : fieldOf Tryz.prog 37 6 = some (6, 3) := by kernel_rfl
theorem field_37_7 : fieldOf Tryz.prog 37 7 = some (7, 32) := by kernel_rfl
theorem field_37_8 : fieldOf Tryz.prog 37 8 = some (8, 35) := by kernel_rfl
theorem places_46 : placesOf Tryz.prog 46 = some [(0, 1), (1, 1)] := by kernel_rfl
theorem field_46_0 : fieldOf Tryz.prog 46 0 = some (0, 3) := by kernel_rfl
theorem field_46_1 : fieldOf Tryz.prog 46 1 = some (1, 44) := by kernel_rfl
theorem places_61 : placesOf Tryz.prog 61 = some [(0, 1), (1, 1), (2, 1), (3, 1), (4, 1), (5, 1), (6, 1), (7, 1), (8, 1), (9, 1), (10, 1), (11, 1), (12, 1), (13, 1)] := by kernel_rfl
theorem field_61_0 : fieldOf Tryz.prog 61 0 = some (0, 9) := by kernel_rfl
theorem field_61_1 : fieldOf Tryz.prog 61 1 = some (1, 3) := by kernel_rfl
theorem field_61_2 : fieldOf Tryz.prog 61 2 = some (2, 3) := by kernel_rfl
theorem field_61_3 : fieldOf Tryz.prog 61 3 = some (3, 22) := by kernel_rfl
theorem field_61_4 : fieldOf Tryz.prog 61 4 = some (4, 22) := by kernel_rfl
theorem field_61_5 : fieldOf Tryz.prog 61 5 = some (5, 22) := by kernel_rfl
theorem field_61_6 : fieldOf Tryz.prog 61 6 = some (6, 3) := by kernel_rfl
theorem field_61_7 : fieldOf Tryz.prog 61 7 = some (7, 3) := by kernel_rfl
theorem field_61_8 : fieldOf Tryz.prog 61 8 = some (8, 3) := by kernel_rfl
theorem field_61_9 : fieldOf Tryz.prog 61 9 = some (9, 22) := by kernel_rfl
theorem field_61_10 : fieldOf Tryz.prog 61 10 = some (10, 22) := by kernel_rfl
theorem field_61_11 : fieldOf Tryz.prog 61 11 = some (11, 59) := by kernel_rfl
theorem field_61_12 : fieldOf Tryz.prog 61 12 = some (12, 22) := by kernel_rfl
theorem field_61_13 : fieldOf Tryz.prog 61 13 = some (13, 3) := by kernel_rfl
theorem places_64 : placesOf Tryz.prog 64 = some [(0, 1), (1, 1), (2, 1), (3, 1)] := by kernel_rfl
theorem field_64_0 : fieldOf Tryz.prog 64 0 = some (0, 3) := by kernel_rfl
theorem field_64_1 : fieldOf Tryz.prog 64 1 = some (1, 3) := by kernel_rfl
theorem field_64_2 : fieldOf Tryz.prog 64 2 = some (2, 22) := by kernel_rfl
theorem field_64_3 : fieldOf Tryz.prog 64 3 = some (3, 62) := by kernel_rfl
theorem places_75 : placesOf Tryz.prog 75 = some [(0, 1), (1, 1), (2, 1)] := by kernel_rfl
theorem field_75_0 : fieldOf Tryz.prog 75 0 = some (0, 22) := by kernel_rfl
theorem field_75_1 : fieldOf Tryz.prog 75 1 = some (1, 3) := by kernel_rfl
theorem field_75_2 : fieldOf Tryz.prog 75 2 = some (2, 73) := by kernel_rfl
theorem field_86_0 : fieldOf Tryz.prog 86 0 = some (0, 3) := by kernel_rfl
theorem field_86_1 : fieldOf Tryz.prog 86 1 = some (1, 3) := by kernel_rfl
theorem field_86_2 : fieldOf Tryz.prog 86 2 = some (2, 3) := by kernel_rfl
theorem places_88 : placesOf Tryz.prog 88 = some [(0, 1), (1, 1)] := by kernel_rfl
theorem field_88_0 : fieldOf Tryz.prog 88 0 = some (0, 3) := by kernel_rfl
theorem field_88_1 : fieldOf Tryz.prog 88 1 = some (1, 22) := by kernel_rfl
theorem places_104 : placesOf Tryz.prog 104 = some [(0, 10), (10, 1), (11, 1)] := by kernel_rfl
theorem field_104_0 : fieldOf Tryz.prog 104 0 = some (0, 37) := by kernel_rfl
theorem field_104_1 : fieldOf Tryz.prog 104 1 = some (10, 102) := by kernel_rfl
theorem field_104_2 : fieldOf Tryz.prog 104 2 = some (11, 33) := by kernel_rfl
theorem places_156 : placesOf Tryz.prog 156 = some [(0, 1), (1, 1)] := by kernel_rfl
theorem places_158 : placesOf Tryz.prog 158 = some [(0, 2), (2, 2), (4, 2), (6, 2)] := by kernel_rfl
theorem field_158_0 : fieldOf Tryz.prog 158 0 = some (0, 156) := by kernel_rfl
theorem field_158_1 : fieldOf Tryz.prog 158 1 = some (2, 156) := by kernel_rfl
theorem field_158_2 : fieldOf Tryz.prog 158 2 = some (4, 156) := by kernel_rfl
theorem field_158_3 : fieldOf Tryz.prog 158 3 = some (6, 156) := by kernel_rfl
theorem mixed : Tryz.prog.follows .mixedOrders = true := by kernel_rfl
attribute [go_sem] Tryz.underlying0 Tryz.underlying1 Tryz.underlying2 tinfo_3 agg_3 Tryz.underlying3 tinfo_4 Tryz.underlying4 tinfo_5 Tryz.underlying5 Tryz.underlying6 Tryz.underlying7 Tryz.underlying8 tinfo_9 agg_9 Tryz.underlying9 Tryz.underlying10 Tryz.underlying11 Tryz.underlying12 Tryz.underlying13 Tryz.underlying14 Tryz.underlying15 Tryz.underlying16 Tryz.underlying17 Tryz.underlying18 Tryz.underlying19 Tryz.underlying20 Tryz.underlying21 tinfo_22 agg_22 Tryz.underlying22 tinfo_23 agg_23 Tryz.underlying23 Tryz.underlying24 tinfo_25 agg_25 Tryz.underlying25 Tryz.underlying26 Tryz.underlying27 Tryz.underlying28 Tryz.underlying29 Tryz.underlying30 tinfo_31 agg_31 Tryz.underlying31 tinfo_32 agg_32 Tryz.underlying32 tinfo_33 agg_33 Tryz.underlying33 Tryz.underlying34 tinfo_35 agg_35 Tryz.underlying35 Tryz.underlying36 tinfo_37 agg_37 Tryz.underlying37 Tryz.underlying38 Tryz.underlying39 Tryz.underlying40 Tryz.underlying41 Tryz.underlying42 Tryz.underlying43 tinfo_44 agg_44 Tryz.underlying44 Tryz.underlying45 tinfo_46 agg_46 Tryz.underlying46 Tryz.underlying47 Tryz.underlying48 Tryz.underlying49 Tryz.underlying50 Tryz.underlying51 Tryz.underlying52 Tryz.underlying53 Tryz.underlying54 Tryz.underlying55 Tryz.underlying56 Tryz.underlying57 Tryz.underlying58 tinfo_59 agg_59 Tryz.underlying59 Tryz.underlying60 tinfo_61 agg_61 Tryz.underlying61 tinfo_62 agg_62 Tryz.underlying62 Tryz.underlying63 tinfo_64 agg_64 Tryz.underlying64 Tryz.underlying65 Tryz.underlying66 Tryz.underlying67 Tryz.underlying68 Tryz.underlying69 Tryz.underlying70 Tryz.underlying71 Tryz.underlying72 tinfo_73 agg_73 Tryz.underlying73 Tryz.underlying74 tinfo_75 Tryz.underlying75 Tryz.underlying76 Tryz.underlying77 agg_78 Tryz.underlying78 Tryz.underlying79 Tryz.underlying80 Tryz.underlying81 Tryz.underlying82 Tryz.underlying83 Tryz.underlying84 Tryz.underlying85 tinfo_86 agg_86 Tryz.underlying86 Tryz.underlying87 tinfo_88 agg_88 Tryz.underlying88 Tryz.underlying89 Tryz.underlying90 Tryz.underlying91 Tryz.underlying92 Tryz.underlying93 Tryz.underlying94 Tryz.underlying95 Tryz.underlying96 Tryz.underlying97 Tryz.underlying98 Tryz.underlying99 Tryz.underlying100 Tryz.underlying101 tinfo_102 agg_102 Tryz.underlying102 Tryz.underlying103 tinfo_104 Tryz.underlying104 Tryz.underlying105 Tryz.underlying106 Tryz.underlying107 Tryz.underlying108 Tryz.underlying109 Tryz.underlying110 Tryz.underlying111 Tryz.underlying112 Tryz.underlying113 Tryz.underlying114 Tryz.underlying115 Tryz.underlying116 Tryz.underlying117 Tryz.underlying118 Tryz.underlying119 tinfo_120 agg_120 Tryz.underlying120 Tryz.underlying121 Tryz.underlying122 Tryz.underlying123 Tryz.underlying124 Tryz.underlying125 Tryz.underlying126 Tryz.underlying127 Tryz.underlying128 Tryz.underlying129 Tryz.underlying130 Tryz.underlying131 Tryz.underlying132 Tryz.underlying133 Tryz.underlying134 Tryz.underlying135 Tryz.underlying136 Tryz.underlying137 Tryz.underlying138 Tryz.underlying139 Tryz.underlying140 Tryz.underlying141 Tryz.underlying142 Tryz.underlying143 Tryz.underlying144 Tryz.underlying145 Tryz.underlying146 Tryz.underlying147 Tryz.underlying148 Tryz.underlying149 Tryz.underlying150 Tryz.underlying151 Tryz.underlying152 Tryz.underlying153 Tryz.underlying154 Tryz.underlying155 tinfo_156 Tryz.underlying156 Tryz.underlying157 tinfo_158 agg_158 Tryz.underlying158 Tryz.underlying159 Tryz.underlying160 Tryz.underlying161 Tryz.underlying162 Tryz.underlying163 Tryz.underlying164 Tryz.underlying165 Tryz.underlying166 Tryz.underlying167 Tryz.underlying168 Tryz.underlying169 Tryz.underlying170 Tryz.underlying171 Tryz.underlying172 Tryz.underlying173 Tryz.underlying174 Tryz.underlying175 Tryz.underlying176 Tryz.underlying177 Tryz.underlying178 Tryz.underlying179 Tryz.underlying180 Tryz.underlying181 Tryz.underlying182 Tryz.underlying183 Tryz.underlying184 Tryz.underlying185 Tryz.underlying186 Tryz.underlying187 Tryz.underlying188 Tryz.underlying189 Tryz.underlying190 Tryz.underlying191 Tryz.underlying192 Tryz.underlying193 Tryz.underlying194 Tryz.underlying195 Tryz.underlying196 Tryz.underlying197 Tryz.underlying198 Tryz.underlying199 Tryz.underlying200 Tryz.underlying201 Tryz.underlying202 Tryz.underlying203 Tryz.underlying204 Tryz.underlying205 Tryz.underlying206 Tryz.underlying207 Tryz.underlying208 Tryz.underlying209 Tryz.underlying210 Tryz.underlying211 Tryz.underlying212 places_25 field_25_0 field_25_1 places_35 field_35_0 field_35_1 places_37 field_37_0 field_37_1 field_37_2 field_37_3 field_37_4 field_37_5 field_37_6 field_37_7 field_37_8 places_46 field_46_0 field_46_1 places_61 field_61_0 field_61_1 field_61_2 field_61_3 field_61_4 field_61_5 field_61_6 field_61_7 field_61_8 field_61_9 field_61_10 field_61_11 field_61_12 field_61_13 places_64 field_64_0 field_64_1 field_64_2 field_64_3 places_75 field_75_0 field_75_1 field_75_2 field_86_0 field_86_1 field_86_2 places_88 field_88_0 field_88_1 places_104 field_104_0 field_104_1 field_104_2 places_156 places_158 field_158_0 field_158_1 field_158_2 field_158_3
end Go.AM
namespace Go.AM
end Go.AM
namespace Go.AM
open Go Go.Proofs Go.RowKit
def diceA (l : List Int) (at_ : Nat) : List AV := [.sl 0 1 (l.map vu), .sc (.int .i64 at_)]
attribute [go_sem] diceA
set_option maxRecDepth 100000
theorem con_between (x low high : Int) : Con Tryz.prog 105 [vi x, vi low, vi high] [] fun r _ => r = vb (betweenB x low high) := by
 refine Con.intro Tryz.func105 rfl Tryz.ntmps105 Tryz.results105 (by kernel_rfl) (by simp) 0 (by simp) ?_
 unfold betweenB
 by_cases h1 : low <= x
 ·by_cases h2 : x <= high
  ·simp only [go_sem, h1, h2, Bool.and_true]
  ·simp only [go_sem, h1, h2, Bool.and_false]
 ·simp only [go_sem, h1, Bool.false_and]
theorem con_index (x : Int) (n : Int) (h1 : 0 <= n) (h2 : n <= 9223372036854775807) : Con Tryz.prog 131 [vi x, vi n] [] fun r _ => r = vb (decide (0 <= x) && decide (x < n)) := by
 refine Con.intro Tryz.func131 rfl Tryz.ntmps131 Tryz.results131 (by kernel_rfl) (by simp) 0 (by simp) ?_
 have hw : IntKind.i64.wrap (n - 1) = n - 1 := wrap_in (by omega) (by omega)
 have e : betweenB x 0 (n - 1) = (decide (0 <= x) && decide (x < n)) := by
  unfold betweenB
  congr 1
  exact decide_eq_decide.2 (by omega)
 simp only [go_sem, hw]
 refine CallU.free (con_between x 0 (n - 1)) (by simp only [go_sem]) (by simp only [go_sem]) ?_
 rintro r bx rfl
 simp only [go_sem, e]
def vAtom (a : AtomD) : AV := .ag [vs 0 a.coefs, vi a.mod, vs 0 a.values]
attribute [go_sem] vAtom
def u8v (c : UInt8) : AV := .sc (.int .u8 c.toNat)
attribute [go_sem] u8v vStr vss
theorem u8_low {k c : UInt8} {n : Nat} (h : k.toNat = n) : k <= c ↔ (n : Int) <= (c.toNat : Int) := UInt8.le_iff_toNat_le.trans (by rw [h]; omega)
theorem u8_high {k c : UInt8} {n : Nat} (h : k.toNat = n) : c <= k ↔ (c.toNat : Int) <= (n : Int) := UInt8.le_iff_toNat_le.trans (by rw [h]; omega)
theorem letterB_eq (c : UInt8) : letterB c = (decide ((97 : Int) <= (c.toNat : Int)) && decide ((c.toNat : Int) <= 122)) := by
 unfold letterB
 rw [decide_eq_decide.2 (u8_low (k := 97) (c := c) (n := 97) rfl), decide_eq_decide.2 (u8_high (k := 122) (c := c) (n := 122) rfl)]; rfl
theorem digitB_eq (c : UInt8) : digitB c = (decide ((48 : Int) <= (c.toNat : Int)) && decide ((c.toNat : Int) <= 57)) := by
 unfold digitB
 rw [decide_eq_decide.2 (u8_low (k := 48) (c := c) (n := 48) rfl), decide_eq_decide.2 (u8_high (k := 57) (c := c) (n := 57) rfl)]; rfl
theorem u8_eq {k c : UInt8} {n : Nat} (h : k.toNat = n) : (c == k) = (((c.toNat : Int)) == (n : Int)) := by
 rw [Bool.eq_iff_iff, beq_iff_eq, beq_iff_eq, <- UInt8.toNat_inj, h]; omega
theorem con_letter (c : UInt8) : Con Tryz.prog 154 [u8v c] [] fun r _ => r = vb (letterB c) := by
 refine Con.intro Tryz.func154 rfl Tryz.ntmps154 Tryz.results154 (by kernel_rfl) (by simp) 0 (by simp) ?_
 rw [letterB_eq]
 by_cases h1 : (97 : Int) <= (c.toNat : Int)
 ·by_cases h2 : (c.toNat : Int) <= 122
  ·simp only [go_sem, h1, h2, Bool.and_true]
  ·simp only [go_sem, h1, h2, Bool.and_false]
 ·simp only [go_sem, h1, Bool.false_and]
theorem con_digit (c : UInt8) : Con Tryz.prog 178 [u8v c] [] fun r _ => r = vb (digitB c) := by
 refine Con.intro Tryz.func178 rfl Tryz.ntmps178 Tryz.results178 (by kernel_rfl) (by simp) 0 (by simp) ?_
 rw [digitB_eq]
 by_cases h1 : (48 : Int) <= (c.toNat : Int)
 ·by_cases h2 : (c.toNat : Int) <= 57
  ·simp only [go_sem, h1, h2, Bool.and_true]
  ·simp only [go_sem, h1, h2, Bool.and_false]
 ·simp only [go_sem, h1, Bool.false_and]
theorem con_part (c : UInt8) : Con Tryz.prog 156 [u8v c] [] fun r _ => r = vb (partB c) := by
 refine Con.intro Tryz.func156 rfl Tryz.ntmps156 Tryz.results156 (by kernel_rfl) (by simp) 0 (by simp) ?_
 unfold partB
 rw [u8_eq (k := 95) (c := c) (n := 95) rfl]
 simp only [go_sem]
 refine CallU.free (con_letter c) (by simp only [go_sem]) (by simp only [go_sem]) ?_
 rintro r bx rfl
 cases h1 : letterB c
 ·simp only [go_sem]
  refine CallU.free (con_digit c) (by simp only [go_sem]) (by simp only [go_sem]) ?_
  rintro r bx rfl
  cases h2 : digitB c
  ·simp only [go_sem]
   all_goals simp
  ·simp only [go_sem]
   all_goals simp
 ·simp only [go_sem]
  all_goals simp
def runL (p : UInt8 -> Bool) (l : List UInt8) : Nat := (l.takeWhile p).length
theorem run_stop {p : UInt8 -> Bool} : ∀ {l : List UInt8} {i : Nat}, (∀ j, j < i -> p l[j]! = true) -> i <= l.length -> (i < l.length -> p l[i]! = false) -> runL p l = i
 | [], i, _, h2, _ => by simp at h2; subst h2; rfl
 | x :: l, 0, _, _, h3 => by
  have := h3 (by simp)
  simp at this
  simp [runL, this]
 | x :: l, i + 1, h1, h2, h3 => by
  have hx := h1 0 (by omega)
  simp at hx
  have := run_stop (p := p) (l := l) (i := i) (fun j hj => by simpa using h1 (j + 1) (by omega)) (by simpa using h2) (fun h => by simpa using h3 (by simpa using h))
  unfold runL at *
  rw [List.takeWhile_cons, hx, if_pos rfl, List.length_cons, this]
theorem run_all {p : UInt8 -> Bool} {l : List UInt8} : (runL p l == l.length) = l.all p := by
 unfold runL
 induction l with
 | nil => rfl
 | cons x l ih =>
  cases h : p x
  ·simp [h]
  ·simp only [List.takeWhile_cons, h, if_true, List.length_cons, List.all_cons, Bool.true_and]
   rw [<- ih]
   rw [Bool.eq_iff_iff]; simp
theorem ba_get {s : ByteArray} {i : Nat} (h : i < s.size) : s[i]? = some s.data.toList[i]! := by
 rw [getElem?_pos s i h]
 congr 1
 have h2 : i < s.data.toList.length := by simpa using h
 rw [getElem!_pos s.data.toList i h2, Array.getElem_toList]; rfl
theorem ba_len (s : ByteArray) : s.data.toList.length = s.size := Array.length_toList
theorem con_run (s : ByteArray) (f : FuncId) (p : UInt8 -> Bool) (hf : ∀ c, Con Tryz.prog f [u8v c] [] fun r _ => r = vb (p c)) (hs : s.size <= 9223372036854775806) : Con Tryz.prog 155 [vStr s, .fn f []] [] fun r _ => r = vi (runL p s.data.toList) := by
 refine Con.intro Tryz.func155 rfl Tryz.ntmps155 Tryz.results155 (by kernel_rfl) (by simp) 0 (by simp) ?_
 simp only [go_sem]
 refine LoopK.intro (fun i : Nat => ⟨20, [(0, vStr s), (1, .fn f []), (4, vi 0), (5, vi i)], []⟩)
  (fun i => s.size - i) (fun i => i <= s.size /\ ∀ j, j < i -> p s.data.toList[j]! = true) 0 ⟨by omega, fun j hj => by omega⟩ ?_ ?_
 ·simp only [go_sem]
  all_goals exact leV_refl _
 rintro i ⟨hi, hb⟩
 by_cases h : i < s.size
 ·have hg := ba_get h
  have hw : IntKind.i64.wrap (i + 1) = i + 1 := wrap_in (by omega) (by omega)
  simp only [go_sem, h, hg]
  refine CallU.free (hf s.data.toList[i]!) (by simp only [go_sem]) (by simp only [go_sem]) ?_
  rintro r bx rfl
  cases hp : p s.data.toList[i]!
  ·simp only [go_sem]
   rw [run_stop hb (by rw [ba_len]; exact hi) (fun _ => hp)]
  ·simp only [go_sem, hw]
   refine roundK.intro (i + 1) ⟨by omega, fun j hj => ?_⟩ (by omega) ?_
   ·by_cases hji : j = i
    ·subst hji; exact hp
    ·exact hb j (by omega)
   ·simp only [go_sem]
 ·simp only [go_sem, h]
  rw [run_stop hb (by rw [ba_len]; exact hi) (fun h' => absurd (by rw [ba_len] at h'; exact h') h)]
theorem size_zero {s : ByteArray} : (s.toList == ByteArray.toList { data := #[] }) = decide (s.size = 0) := by
 rw [ByteArray.toList_eq, ByteArray.toList_eq, <- ba_len]
 cases h : s.data.toList <;> simp
theorem con_word (s : ByteArray) (hs : s.size <= 9223372036854775806) : Con Tryz.prog 128 [vStr s] [] fun r _ => r = vb (wordB s) := by
 refine Con.intro Tryz.func128 rfl Tryz.ntmps128 Tryz.results128 (by kernel_rfl) (by simp) 0 (by simp) ?_
 have e : wordB s = (decide (0 < s.size) && decide (s.size <= 12) && letterB s.data.toList[0]! && (runL partB s.data.toList == s.data.toList.length)) := by
  rw [run_all]
  unfold wordB
  rw [ByteArray.toList_eq]
  by_cases h0 : 0 < s.size
  ·have h2 := ba_get h0
   congr 2
   rw [show s.get! 0 = s.data.toList[0]! from ?_]
   have h3 : 0 < s.data.toList.length := by rw [ba_len]; exact h0
   rw [getElem!_pos s.data.toList 0 h3, Array.getElem_toList]
   show s.data[0]! = _
   rw [getElem!_pos s.data 0 h0]
  ·rw [decide_eq_false h0]; simp
 rw [e]
 by_cases h0 : 0 < s.size
 ·have h0' : ¬ s.size = 0 := by omega
  have hg := ba_get h0
  by_cases h1 : (s.size : Int) <= 12
  ·have h1' : s.size <= 12 := by omega
   simp only [go_sem, size_zero, h0', h1]
   simp only [go_sem, hg]
   refine CallU.free (con_letter s.data.toList[0]!) (by simp only [go_sem]) (by simp only [go_sem]) ?_
   rintro r bx rfl
   cases h2 : letterB s.data.toList[0]!
   ·simp only [go_sem]
    all_goals simp
   ·simp only [go_sem]
    refine CallU.free (con_run s 156 partB con_part hs) (by simp only [go_sem]) (by simp only [go_sem]) ?_
    rintro r bx rfl
    simp only [go_sem, ba_len, h0, h1', decide_true, Bool.true_and]
    all_goals congr 2
  ·have h1' : ¬ s.size <= 12 := by omega
   simp only [go_sem, size_zero, h0', h1, h1']
   all_goals simp
 ·have h0' : s.size = 0 := by omega
  simp only [go_sem, size_zero, h0']
  all_goals simp
theorem mem_bangI {α : Type} [Inhabited α] {l : List α} {i : Nat} (h : i < l.length) : l[i]! ∈ l := by rw [getElem!_pos l i h]; exact List.getElem_mem h
def TellsI (f : FuncId) (caps : List AV) (l : List Int) (p : Int -> Bool) : Prop := ∀ x ∈ l, Con Tryz.prog f ([vi x] ++ caps) [] fun r _ => r = .sc (.bool (p x))
theorem con_indexInt (l : List Int) (f : FuncId) (caps : List AV) (p : Int -> Bool) (hc : mapTops (viewV []) caps = caps) (hf : TellsI f caps l p) (hl : l.length <= 9223372036854775806) : Con Tryz.prog 152 [vs 0 l, .fn f caps] [] fun r _ => r = vi (findI p l) := by
 refine Con.intro Tryz.func152 rfl Tryz.ntmps152 Tryz.results152 (by kernel_rfl) (by simp) 0 (by simp) ?_
 simp only [go_sem]
 refine LoopK.intro (fun i : Nat => ⟨19, [(0, vs 0 l), (1, .fn f caps), (7, vi l.length), (8, vi i)], []⟩)
  (fun i => l.length - i) (fun i => i <= l.length /\ ∀ j, j < i -> p l[j]! = false) 0 ⟨by omega, fun j hj => by omega⟩ ?_ ?_
 ·simp only [go_sem]
  all_goals exact leV_refl _
 ·rintro i ⟨hi, hb⟩
  by_cases h : i < l.length
  ·have hg := getv h
   have hw : IntKind.i64.wrap (i + 1) = i + 1 := wrap_in (by omega) (by omega)
   simp only [go_sem, h, hg]
   refine CallU.look (hf l[i]! (mem_bangI h)) (by simp only [go_sem]) (by simp only [go_sem, hc]) ?_
   rintro r bx rfl
   cases hp : p l[i]!
   ·simp only [go_sem, hw]
    refine roundK.intro (i + 1) ⟨by omega, fun j hj => ?_⟩ (by omega) ?_
    ·by_cases hji : j = i
     ·subst hji; exact hp
     ·exact hb j (by omega)
    ·simp only [go_sem]
   ·simp only [go_sem]
    rw [findI_stop h hb hp]
  ·simp only [go_sem, h]
   rw [findI_none (fun j hj => hb j (by omega))]
theorem con_containsInt (l : List Int) (f : FuncId) (caps : List AV) (p : Int -> Bool) (hc : mapTops (viewV []) caps = caps) (hf : TellsI f caps l p) (hl : l.length <= 9223372036854775806) : Con Tryz.prog 125 [vs 0 l, .fn f caps] [] fun r _ => r = .sc (.bool (l.any p)) := by
 refine Con.intro Tryz.func125 rfl Tryz.ntmps125 Tryz.results125 (by kernel_rfl) (by simp) 0 (by simp) ?_
 simp only [go_sem]
 refine CallU.look (con_indexInt l f caps p hc hf hl) (by simp only [go_sem]) (by simp only [go_sem]) ?_
 rintro r bx rfl
 simp only [go_sem, findI_ge]
def TellsR (f : FuncId) (caps : List AV) (l : List RD) (p : RD -> Bool) : Prop := ∀ x ∈ l, Con Tryz.prog f ([vRule x] ++ caps) [] fun r _ => r = .sc (.bool (p x))
attribute [go_sem] vRule
theorem con_indexRule (l : List RD) (f : FuncId) (caps : List AV) (p : RD -> Bool) (hc : mapTops (viewV []) caps = caps) (hf : TellsR f caps l p) (hl : l.length <= 9223372036854775806) : Con Tryz.prog 130 [.sl 0 14 (l.map vRule), .fn f caps] [] fun r _ => r = vi (findI p l) := by
 refine Con.intro Tryz.func130 rfl Tryz.ntmps130 Tryz.results130 (by kernel_rfl) (by simp) 0 (by simp) ?_
 simp only [go_sem]
 refine LoopK.intro (fun i : Nat => ⟨19, [(0, .sl 0 14 (l.map vRule)), (1, .fn f caps), (7, vi l.length), (8, vi i)], []⟩)
  (fun i => l.length - i) (fun i => i <= l.length /\ ∀ j, j < i -> p l[j]! = false) 0 ⟨by omega, fun j hj => by omega⟩ ?_ ?_
 ·simp only [go_sem]
  all_goals exact leV_refl _
 ·rintro i ⟨hi, hb⟩
  by_cases h : i < l.length
  ·have hg := getRule h
   have hw : IntKind.i64.wrap (i + 1) = i + 1 := wrap_in (by omega) (by omega)
   simp only [go_sem, h, hg]
   refine CallU.look (hf l[i]! (mem_bangI h)) (by simp only [go_sem]) (by simp only [go_sem, hc]) ?_
   rintro r bx rfl
   cases hp : p l[i]!
   ·simp only [go_sem, hw]
    refine roundK.intro (i + 1) ⟨by omega, fun j hj => ?_⟩ (by omega) ?_
    ·by_cases hji : j = i
     ·subst hji; exact hp
     ·exact hb j (by omega)
    ·simp only [go_sem]
   ·simp only [go_sem]
    rw [findI_stop h hb hp]
  ·simp only [go_sem, h]
   rw [findI_none (fun j hj => hb j (by omega))]
theorem con_containsRule (l : List RD) (f : FuncId) (caps : List AV) (p : RD -> Bool) (hc : mapTops (viewV []) caps = caps) (hf : TellsR f caps l p) (hl : l.length <= 9223372036854775806) : Con Tryz.prog 109 [.sl 0 14 (l.map vRule), .fn f caps] [] fun r _ => r = .sc (.bool (l.any p)) := by
 refine Con.intro Tryz.func109 rfl Tryz.ntmps109 Tryz.results109 (by kernel_rfl) (by simp) 0 (by simp) ?_
 simp only [go_sem]
 refine CallU.look (con_indexRule l f caps p hc hf hl) (by simp only [go_sem]) (by simp only [go_sem]) ?_
 rintro r bx rfl
 simp only [go_sem, findI_ge]
theorem con_all1 (x : Int) (g : FuncId) (caps : List AV) (p : Int -> Bool) (hc : mapTops (viewV []) caps = caps) (hf : Con Tryz.prog g ([vi x] ++ caps) [] fun r _ => r = .sc (.bool (p x))) : Con Tryz.prog 165 [vi x, .fp [.fn g caps] 0] [] fun r _ => r = .sc (.bool (!p x)) := by
 refine Con.intro Tryz.func165 rfl Tryz.ntmps165 Tryz.results165 (by kernel_rfl) (by simp) 0 (by simp) ?_
 simp only [go_sem]
 refine CallU.look hf (by simp only [go_sem]) (by simp only [go_sem, hc]) ?_
 rintro r bx rfl
 simp only [go_sem]
theorem any_not {α : Type} (p : α -> Bool) : ∀ l : List α, (!l.any fun x => !p x) = l.all p
 | [] => rfl
 | x :: l => by rw [List.any_cons, List.all_cons, <- any_not p l]; cases p x <;> simp
theorem con_all (l : List Int) (g : FuncId) (caps : List AV) (p : Int -> Bool) (hc : mapTops (viewV []) caps = caps) (hf : TellsI g caps l p) (hl : l.length <= 9223372036854775806) : Con Tryz.prog 137 [vs 0 l, .fn g caps] [] fun r _ => r = .sc (.bool (l.all p)) := by
 refine Con.intro Tryz.func137 rfl Tryz.ntmps137 Tryz.results137 (by kernel_rfl) (by simp) 1 (by simp) ?_
 simp only [go_sem]
 refine CallU.look (con_containsInt l 165 [.fp [.fn g caps] 0] (fun x => !p x) (by simp only [go_sem]) (fun x hx => con_all1 x g caps p hc (hf x hx)) hl) (by simp only [go_sem]) (by simp only [go_sem]) ?_
 rintro r bx rfl
 simp only [go_sem, any_not]
theorem beq_cut {a b : List Int} (h : a.length ≠ b.length) : (a == b) = false := by
 rw [beq_eq_false_iff_ne]; intro e; rw [e] at h; exact h rfl
theorem eqI_stop {a b : List Int} {i : Nat} (h : a[i]! ≠ b[i]!) : (a == b) = false := by
 rw [beq_eq_false_iff_ne]; intro e; rw [e] at h; exact h rfl
theorem eqI_all {a b : List Int} (hl : a.length = b.length) (h : ∀ j, j < a.length -> a[j]! = b[j]!) : (a == b) = true := by
 rw [beq_iff_eq]
 apply List.ext_getElem hl
 intro i h1 h2
 have := h i h1
 rw [getElem!_pos a i h1, getElem!_pos b i h2] at this; exact this
theorem con_equalInt (a b : List Int) (hl : a.length <= 9223372036854775806) : Con Tryz.prog 166 [vs 0 a, vs 0 b] [] fun r _ => r = .sc (.bool (a == b)) := by
 refine Con.intro Tryz.func166 rfl Tryz.ntmps166 Tryz.results166 (by kernel_rfl) (by simp) 0 (by simp) ?_
 by_cases he : a.length = b.length
 case neg =>
  have he' : ((a.length : Int) != (b.length : Int)) = true := bne_iff_ne.2 (by omega)
  simp only [go_sem, he', beq_cut he]
 simp only [go_sem, he]
 refine LoopK.intro (fun i : Nat => ⟨26, [(0, vs 0 a), (1, vs 0 b), (12, vi a.length), (13, vi i)], []⟩)
  (fun i => a.length - i) (fun i => i <= a.length /\ ∀ j, j < i -> a[j]! = b[j]!) 0 ⟨by omega, fun j hj => by omega⟩ ?_ ?_
 ·simp only [go_sem, he]
  all_goals exact leV_refl _
 rintro i ⟨hi, hb⟩
 by_cases h : i < a.length
 ·have h2 : i < b.length := by omega
  have g1 := getv h
  have g2 := getv h2
  have hw : IntKind.i64.wrap (i + 1) = i + 1 := wrap_in (by omega) (by omega)
  simp only [go_sem, h]
  refine DrawK.walk 9 mixed (by kernel_rfl) ?_
  by_cases hp : a[i]! = b[i]!
  ·simp only [go_sem, h, h2, g1, g2, hp, hw]
   refine roundK.intro (i + 1) ⟨by omega, fun j hj => ?_⟩ (by omega) ?_
   ·by_cases hji : j = i
    ·subst hji; exact hp
    ·exact hb j (by omega)
   ·simp only [go_sem]
  ·have hp' : (a[i]! != b[i]!) = true := bne_iff_ne.2 hp
   simp only [go_sem, h, h2, g1, g2, hp']
   rw [eqI_stop hp]
 ·simp only [go_sem, h]
  rw [eqI_all he (fun j hj => hb j (by omega))]
end Go.AM
