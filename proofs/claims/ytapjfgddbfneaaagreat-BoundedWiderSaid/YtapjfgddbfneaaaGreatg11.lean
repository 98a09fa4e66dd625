/- Am1 AmW AmZ Am0 Am4 LInv CmA CmB0 -/
import Derived.Test.YtapjfgddbfneaaaGreatg10
import Derived.Test.YtapjfgddbfneaaaGreatg6
import Derived.Shelf.Sort.Plain
import Derived.Shelf.Slices.CompactI
import Derived.Maps.Views
import Derived.Test.YtapjfgddbfneaaaGreatRows
namespace Go.AM
open Go.RowKit
inductive Tr where
 | done
 /-- an operation that only names a place: taken at once -/
 | front (j : Nat) (t : Tr)
 | one (j : Nat) (t : Tr)
 /-- an operation that only adds, taken as in a region's head -/
 | hd (j : Nat) (t : Tr)
 | alt (a b : Tr)
 /-- what bears tag a bears b from here on -/
 | retag (a b : Nat) (t : Tr)
def Tr.cover : Tr -> List Nat
 | .one j _ => [j]
 | .hd j _ => [j]
 | .alt a b => a.cover ++ b.cover
 | _ => []
def readyIn (ops : Array Oper) (L : List Nat) (i : Nat) : Bool :=
 !L.contains i && match ops[i]? with
 | none => false
 | some o => (edges o).all fun k => L.contains k
def covers (ops : Array Oper) (L : List Nat) (c : List Nat) : Bool := ((List.range ops.size).any fun i => !L.contains i) && (List.range ops.size).all fun i => !readyIn ops L i || c.contains i
def trOk (ops : Array Oper) : Bool -> List Nat -> Tr -> Bool
 | top, L, .done => top && (List.range ops.size).all fun i => L.contains i
 | top, L, .front j t => top && (readyIn ops L j && ((match ops[j]? with | some p => frontOk ops j p | none => false) && trOk ops true (j :: L) t))
 | top, L, .one j t => (!top || covers ops L [j]) && trOk ops true (j :: L) t
 | top, L, .hd j t => (!top || covers ops L [j]) && trOk ops true (j :: L) t
 | top, L, .retag _ _ t => top && trOk ops true L t
 | top, L, .alt a b => (!top || covers ops L (a.cover ++ b.cover)) && (trOk ops false L a && trOk ops false L b)
def treeOk (ops : Array Oper) (t : Tr) : Bool :=
 ((List.range ops.size).all fun i => match ops[i]? with | none => false | some o => (edges o).all fun k => decide (k < i)) && trOk ops true [] t
def evBinSc (P : Program) (op : BinOp) (T : TypeId) (x y : AV) (K : AV -> Prop) : Prop :=
 match x, y with
 | .sc u, .sc v => evBin P op T u v fun r => K (.sc r)
 | _, _ => False
@[go_sem] theorem evBinSc_sc {P : Program} {op : BinOp} {T : TypeId} {u v : Value} {K : AV -> Prop} : evBinSc P op T (.sc u) (.sc v) K = evBin P op T u v fun r => K (.sc r) := rfl
@[congr] theorem evBinSc_congr {P : Program} {op : BinOp} {T : TypeId} {x x' y y' : AV} {K : AV -> Prop} (h1 : mkd x = x') (h : y = y') : evBinSc P op T x y K = evBinSc P op T x' y' K := by subst_vars; rfl
def frontW (P : Program) (op : Op) (σ : St) (K : AV -> Prop) : Prop :=
 match op with
 | .fieldAddr T x f => evFieldAddr P T (σ.ev x) f K
 | .binOp op T x y _ => evBinSc P op T (σ.ev x) (σ.ev y) K
 | op => frontV P op σ K
theorem frontV_sound' {P : Program} {p : Oper} {σ : St} {K : AV -> Prop} (h : frontV P p.op σ K) :
  ∃ y, K y /\ ∀ (G : Nat -> Status) (a : Act) (w : World), Good G w -> (∀ x ∈ p.op.operands, VRel G w (σ.ev x) (a.eval x)) -> ∃ v, VRel G w y v /\ ∀ w', (execOp a.eval p).run P w' = .ok (.value v) w' := by
 unfold frontV at h
 split at h
 ·rename_i x ho
  exact ⟨_, h, fun G a w _ hv => ⟨_, hv x (by simp [ho, Op.operands]), fun w' => by simp [execOp, ho]⟩⟩
 ·rename_i T x i ho
  obtain ⟨hsl, h⟩ := h
  unfold evIndexAddr at h
  split at h
  ·rename_i k n hi
   split at h
   ·rename_i E t es xs hT hx
    obtain ⟨⟨⟨sz, by_, z⟩, hq, rfl⟩, h0, h1, hK⟩ := h
    refine ⟨_, hK, fun G a w hg hv => ?_⟩
    have hu := hv i (by simp [ho, Op.operands]); rw [hi] at hu
    have hu := hu.sc_inv
    have hv' := hv x (by simp [ho, Op.operands]); rw [hx] at hv'
    obtain ⟨ao, c, hvx, h2, h3, _, h4⟩ := hv'.sl_inv
    rcases h4 with rfl | ⟨b, off, vals, rfl, hs⟩
    ·simp at h1; omega
    ·refine ⟨.pointer (some ⟨b, off + n.toNat * sz + 0, none⟩), .pe _ _ _ _ _ _ _ c (by rw [hvx] at hv'; exact hv') (by omega), fun w' => ?_⟩
     simp [execOp, ho, hvx, hu, Instr.indexAt, asIntOf, run_underlying hT, h0, h1, run_sizeOf hq, Addr.add_none]
   ·rename_i E t xs hT hx
    obtain ⟨⟨⟨sz, by_, z⟩, hq, rfl⟩, h0, h1, hK⟩ := h
    refine ⟨_, hK, fun G a w hg hv => ?_⟩
    have hu := hv i (by simp [ho, Op.operands]); rw [hi] at hu
    have hu := hu.sc_inv
    have hv' := hv x (by simp [ho, Op.operands]); rw [hx] at hv'
    obtain ⟨ao, c, hvx, h3, _, h4⟩ := hv'.so_inv
    rcases h4 with rfl | ⟨b, vals, rfl, hs⟩
    ·simp at h1; omega
    ·refine ⟨.pointer (some ⟨b, 0 + n.toNat, none⟩), .po _ _ _ _ _ c (by rw [hvx] at hv'; exact hv') (by omega), fun w' => ?_⟩
     simp [execOp, ho, hvx, hu, Instr.indexAt, asIntOf, run_underlying hT, h0, h1, run_sizeOf hq, Addr.add_none]
   ·rename_i hx
    rw [hx] at hsl; simp [isSlice] at hsl
   ·rename_i len E hT
    exfalso
    obtain ⟨hp, _⟩ := h
    generalize σ.ev x = y at hsl hp
    cases y <;> simp [isSlice, isPtr] at hsl hp
   ·exact h.elim
  ·exact h.elim
 ·exact h.elim
theorem frontW_sound' {P : Program} {p : Oper} {σ : St} {K : AV -> Prop} (h : frontW P p.op σ K) :
  ∃ y, K y /\ ∀ (G : Nat -> Status) (a : Act) (w : World), Good G w -> (∀ x ∈ p.op.operands, VRel G w (σ.ev x) (a.eval x)) -> ∃ v, VRel G w y v /\ ∀ w', (execOp a.eval p).run P w' = .ok (.value v) w' := by
 unfold frontW at h
 split at h
 ·rename_i T x f ho
  obtain ⟨hp, ⟨off, ty⟩, hf, ⟨⟨sz, by_, z⟩, hq, h0⟩, hK⟩ := h
  obtain ⟨fs, fd, hT, hfd, rfl, rfl⟩ := fieldOf_some hf
  refine ⟨_, hK, fun G a w hg hv => ?_⟩
  have hvx := hv x (by simp [ho, Op.operands])
  obtain ⟨b, o, hb, ho'⟩ := hvx.ptr_inv hp
  refine ⟨.pointer (some ⟨b, o + fd.offset, none⟩), ho' _, fun w' => ?_⟩
  simp only at h0 hq
  simp [execOp, ho, hb, Instr.fieldAt, run_underlying hT, hfd, Instr.sureAddr, fieldPlace, run_sizeOf hq, h0, Addr.add_none]
 ·rename_i op T x y T' ho
  unfold evBinSc at h
  split at h
  ·rename_i u v hx hy
   obtain ⟨r, hK, hr⟩ := evBin_sound x y h
   refine ⟨_, hK, fun G a w hg hv => ⟨r, .froz (.sc _), fun w' => ?_⟩⟩
   have hu := hv x (by simp [ho, Op.operands])
   have hw := hv y (by simp [ho, Op.operands])
   rw [hx] at hu
   rw [hy] at hw
   obtain hu := hu.sc_inv
   obtain hw := hw.sc_inv
   have := hr w'
   have h2 : ((Sem.run P (eqGuard op T x y u v) w').andThen fun _ w' => Sem.run P (binOp op T u v) w') = Result.ok r w' := by simpa using this
   simp [execOp, ho, hu, hw]
   generalize Sem.run P (eqGuard op T x y u v) w' = z at h2 ⊢
   cases z <;> simp only [Result.andThen] at h2 ⊢
   all_goals first | (rw [h2]; done) | (cases h2; done) | rfl
  ·exact h.elim
 ·exact frontV_sound' h
theorem frontW_sound {P : Program} {p : Oper} {σ : St} {K : AV -> Prop} (h : frontW P p.op σ K) :
  ∃ y, K y /\ ∀ (G : Nat -> Status) (a : Act) (w : World), Good G w -> (∀ x, VRel G w (σ.ev x) (a.eval x)) -> ∃ v, VRel G w y v /\ ∀ w', (execOp a.eval p).run P w' = .ok (.value v) w' :=
 let ⟨y, h1, h2⟩ := frontW_sound' h
 ⟨y, h1, fun G a w hg hv => h2 G a w hg fun x _ => hv x⟩
def frA (P : Program) (o : Option Oper) (σ : St) (K : St -> Prop) : Prop :=
 match o with
 | some ⟨some d, op, _, _, _, _⟩ => d < σ.n /\ frontW P op σ fun y => K (σ.put (some d) y)
 | _ => False
def stepA (P : Program) (ops : Array Oper) (o : Option Oper) (σ : St) (K : St -> Prop) : Prop :=
 match o with
 | some o => opsA P ops [o] σ K
 | none => False
def stepH (P : Program) (o : Option Oper) (σ : St) (K : St -> Prop) : Prop :=
 match o with
 | some ⟨some d, op, T, pos, af, none⟩ => σ.free d = true /\ headOp P ⟨some d, op, T, pos, af, none⟩ σ K
 | _ => False
def treeA (P : Program) (ops : Array Oper) : Tr -> St -> (St -> Prop) -> Prop
 | .done, σ, K => K σ
 | .front j t, σ, K => frA P ops[j]? σ fun σ' => treeA P ops t σ' K
 | .one j t, σ, K => stepA P ops ops[j]? σ fun σ' => treeA P ops t σ' K
 | .hd j t, σ, K => stepH P ops[j]? σ fun σ' => treeA P ops t σ' K
 | .alt a b, σ, K => treeA P ops a σ K /\ treeA P ops b σ K
 | .retag a b t, σ, K => 2 <= a /\ 2 <= b /\ treeA P ops t (σ.map (retagLeaf a b)) K
section
variable {P : Program} {ops : Array Oper} {G0 : Orig} {w0 : World} {Q : Exit -> Act -> World -> Prop}
theorem one_run {i : Nat} {o : Oper} {σ : St} {K1 : St -> Prop} {KK : Act -> World -> Prop} {G : Nat -> Status} {a : Act} {w : World} (h0 : True) (ho : ops[i]? = some o) (hw : opsA P ops [o] σ K1) (h : SRel G0 w0 σ G a w)
  (hcont : ∀ {σ' G' a' w'}, K1 σ' -> SRel G0 w0 σ' G' a' w' -> KK a' w') : Go.wpOp P ops Q i KK a w := by
 simp only [opsA] at hw
 simp only [Go.wpOp, ho]
 have run : ∀ {σ}, AM.wpOp P o σ K1 -> SRel G0 w0 σ G a w -> o.wp P a w KK Q := fun hw h =>
  wpOp_sound hw h h0 _ _ fun σ' G' a' w' hk hs => hcont hk hs
 cases hg : o.guard with
 | none =>
  simp only [hg] at hw
  rw [if_pos (by simp [Region.wanted, hg])]
  exact .inl (run hw h)
 | some p =>
  obtain ⟨j, want⟩ := p
  simp only [hg] at hw
  cases hgs : guardSlot ops j with
  | none => simp [hgs] at hw
  | some g =>
   simp only [hgs] at hw
   split at hw
   ·rename_i b hb
    have hv := h.slots g
    rw [hb] at hv
    have hy := yielded_bool hgs hv.sc_inv
    by_cases hbw : b = want
    ·subst hbw
     rw [if_pos (by simp [Region.wanted, hg, hy])]
     exact .inl (run (hw.1 rfl) (h.same hb))
    ·rw [if_neg (by simp [Region.wanted, hg, hy, hbw])]
     have hbn : b = !want := by cases b <;> cases want <;> simp_all
     obtain ⟨hdst, hw⟩ := hw.2 hbn
     have hs := (h.same (g := g) (x := .sc (.bool (!want))) (by rw [hb, hbn])).add (.refl G w) h.good (fun _ _ h => h) (d := o.dst) (x := .sc undef) (v := undef) (by rw [put_n]; exact hdst) (.froz (.sc _))
     exact hcont hw hs
   ·rename_i vs hb
    have hv := h.slots g
    rw [hb] at hv
    have hy := yielded_none hgs hv.sc_inv
    rw [if_neg (by simp [Region.wanted, hg, hy])]
    obtain ⟨hdst, hw⟩ := hw
    have hs := h.add (.refl G w) h.good (fun _ _ h => h) (d := o.dst) (x := .sc undef) (v := undef) hdst (.froz (.sc _))
    exact hcont hw hs
   ·exact hw.elim
theorem hd_run {i : Nat} {o : Oper} {σ : St} {K1 : St -> Prop} {KK : Act -> World -> Prop} {G : Nat -> Status} {a : Act} {w : World} (h0 : True) (ho : ops[i]? = some o) (hw : stepH P (some o) σ K1) (h : SRel G0 w0 σ G a w)
  (hcont : ∀ {σ' G' a' w'}, K1 σ' -> SRel G0 w0 σ' G' a' w' -> KK a' w') : Go.wpOp P ops Q i KK a w := by
 unfold stepH at hw
 split at hw
 ·rename_i d op T pos af hoo
  simp only [Option.some.injEq] at hoo
  subst hoo
  obtain ⟨hf, hw⟩ := hw
  obtain ⟨d', y, hd, hdn, hK, hstep⟩ := headOp_sound hw
  obtain rfl : d = d' := by simpa using hd
  obtain ⟨hs, hfr⟩ := h.fresh hf h0
  simp only [Go.wpOp, ho]
  rw [if_pos (by simp [Region.wanted])]
  exact .inl (hstep _ _ a w hs.good hs.boxes (fun _ => hfr) (fun x _ => hs.ev x) _ _ fun v w' G' g1 g2 g3 g4 =>
   hcont hK (hs.add g2 g3 g4.boxes (d := some d) (by simp [dstOk, hdn]) g1))
 ·exact hw.elim
theorem readyIn_iff {listed : Array Bool} {U : List Nat} {L : List Nat} (hl : Left ops listed U) (hlt : ∀ i o, ops[i]? = some o -> ∀ k ∈ edges o, k < i) (hL : ∀ i, i < ops.size -> (listed.getD i false = true ↔ L.contains i = true)) {i : Nat} :
  readyIn ops L i = true ↔ i ∈ Region.ready .any ops listed := by
 rw [ready_iff hl.size]
 unfold readyIn
 cases ho : ops[i]? with
 | none => simp
 | some o =>
  have hi := (Array.getElem?_eq_some_iff.1 ho).1
  have h1 := hL i hi
  simp only [Bool.and_eq_true, Bool.not_eq_true', List.all_eq_true, Option.some.injEq, exists_eq_left']
  refine and_congr ?_ ⟨fun h k hk => ?_, fun h k hk => ?_⟩
  ·cases hb : listed.getD i false <;> cases hc : L.contains i <;> simp_all
  ·exact (hL k (by have := hlt i o ho k hk; omega)).2 (h k hk)
  ·exact (hL k (by have := hlt i o ho k hk; omega)).1 (h k hk)
theorem of_steps {listed : Array Bool} {U : List Nat} {L c : List Nat} {a : Act} {w : World} (hl : Left ops listed U) (hlt : ∀ i o, ops[i]? = some o -> ∀ k ∈ edges o, k < i) (hL : ∀ i, i < ops.size -> (listed.getD i false = true ↔ L.contains i = true))
  (hc : covers ops L c = true) (h : ∀ i ∈ c, i ∈ Region.ready .any ops listed -> Go.wpOp P ops Q i (wpAny P .any ops Q (U.length - 1) (listed.setIfInBounds i true)) a w) : wpAny P .any ops Q U.length listed a w := by
 simp only [covers, Bool.and_eq_true, List.any_eq_true, List.all_eq_true, List.mem_range, Bool.or_eq_true, Bool.not_eq_true'] at hc
 obtain ⟨⟨i, hi, hn⟩, hcov⟩ := hc
 have hUn : U ≠ [] := fun hU => by
  have : i ∈ U := (hl.mem i).2 ⟨hi, by
   cases hb : listed.getD i false
   ·rfl
   ·rw [(hL i hi).1 hb] at hn; cases hn⟩
  rw [hU] at this; simp at this
 obtain ⟨n, hn⟩ : ∃ n, U.length = n + 1 := ⟨U.length - 1, by have := List.length_pos_iff.2 hUn; omega⟩
 rw [hn] at h ⊢
 refine ⟨fun hr => absurd hr (some_ready hl hlt hUn), fun i hi => h i ?_ hi⟩
 obtain ⟨o, ho, _, _⟩ := (ready_iff hl.size).1 hi
 have := (hcov i (Array.getElem?_eq_some_iff.1 ho).1).resolve_left (by rw [(readyIn_iff hl hlt hL).2 hi]; simp)
 simpa using this
theorem tree_run {K : St -> Prop} (h0 : True) (hlt : ∀ i o, ops[i]? = some o -> ∀ k ∈ edges o, k < i) (hN : ∀ e a w, e ≠ .normal -> ¬ Q e a w) (hQ : ∀ σ' G' a' w', K σ' -> SRel G0 w0 σ' G' a' w' -> Q .normal a' w') :
  ∀ (t : Tr) (top : Bool) (L : List Nat) (listed : Array Bool) (U : List Nat) (σ : St) (G : Nat -> Status) (a : Act) (w : World), trOk ops top L t = true -> Left ops listed U -> Closed ops (fun k => listed.getD k false) -> (∀ i, i < ops.size -> (listed.getD i false = true ↔ L.contains i = true)) ->
   treeA P ops t σ K -> SRel G0 w0 σ G a w ->
   (top = true -> wpAny P .any ops Q U.length listed a w) /\ ∀ i ∈ t.cover, i ∈ Region.ready .any ops listed -> Go.wpOp P ops Q i (wpAny P .any ops Q (U.length - 1) (listed.setIfInBounds i true)) a w
 | .done, top, L, listed, U, σ, G, a, w, hok, hl, hc, hL, h, hs => by
  simp only [trOk, Bool.and_eq_true, List.all_eq_true, List.mem_range] at hok
  refine ⟨fun _ => ?_, fun i hi => by simp [Tr.cover] at hi⟩
  have hU : U = [] := by
   apply List.eq_nil_iff_forall_not_mem.2
   intro i hi
   obtain ⟨h1, h2⟩ := (hl.mem i).1 hi
   rw [(hL i h1).2 (hok.2 i h1)] at h2; cases h2
  subst hU
  refine ⟨?_, hQ σ G a w h hs⟩
  apply List.eq_nil_iff_forall_not_mem.2
  intro i hi
  obtain ⟨o, ho, h1, _⟩ := (ready_iff hl.size).1 hi
  have hlt' := (Array.getElem?_eq_some_iff.1 ho).1
  rw [(hL i hlt').2 (hok.2 i hlt')] at h1; cases h1
 | .front j t, top, L, listed, U, σ, G, a, w, hok, hl, hc, hL, h, hs => by
  simp only [trOk, Bool.and_eq_true] at hok
  obtain ⟨_, hr, hf, ht⟩ := hok
  have hready := (readyIn_iff hl hlt hL).1 hr
  refine ⟨fun _ => ?_, fun i hi => by simp [Tr.cover] at hi⟩
  obtain ⟨p, hp, k1, k2⟩ := (ready_iff hl.size).1 hready
  rw [hp] at hf
  obtain ⟨d', hfr⟩ := frontOk_front hp hf
  simp only [treeA, frA, hp] at h
  split at h
  ·rename_i d op T pos af g hj
   cases hj
   obtain ⟨hdn, h⟩ := h
   obtain rfl : d = d' := by simpa using hfr.dst
   have hjs := (Array.getElem?_eq_some_iff.1 hp).1
   have hmem : j ∈ U := (hl.mem j).2 ⟨hjs, k1⟩
   obtain ⟨l1, l2⟩ := hl.step hmem
   have hsz : j < listed.size := by rw [hl.size]; exact hjs
   obtain ⟨y, hK, hy⟩ := frontW_sound (p := ⟨some d, op, T, pos, af, g⟩) h
   obtain ⟨v, hv, hex⟩ := hy G a w hs.good (fun x => hs.ev x)
   have hrun := (tree_run h0 hlt hN hQ t true (j :: L) (listed.setIfInBounds j true) (U.erase j) (σ.put (some d) y) G (a.put (some d) v) w ht l1 (hc.step hsz hp k2) (fun i hi => by
     rw [set_getD hsz]
     by_cases hij : j = i
     ·subst hij; simp
     ·rw [if_neg hij, hL i hi]; simp [Ne.symm hij]) hK
    (hs.add (.refl G w) hs.good (fun _ _ h => h) (by simp [dstOk, hdn]) hv)).1 rfl
   rw [<- l2]
   exact front_run hN hfr _ _ _ _ v hl.size hc hready hex hrun
  ·exact h.elim
 | .one j t, top, L, listed, U, σ, G, a, w, hok, hl, hc, hL, h, hs => by
  simp only [trOk, Bool.and_eq_true, Bool.or_eq_true, Bool.not_eq_true'] at hok
  have key : j ∈ Region.ready .any ops listed -> Go.wpOp P ops Q j (wpAny P .any ops Q (U.length - 1) (listed.setIfInBounds j true)) a w := by
   intro hready
   obtain ⟨o, ho, k1, k2⟩ := (ready_iff hl.size).1 hready
   have hjs := (Array.getElem?_eq_some_iff.1 ho).1
   have hmem : j ∈ U := (hl.mem j).2 ⟨hjs, k1⟩
   obtain ⟨l1, l2⟩ := hl.step hmem
   have hsz : j < listed.size := by rw [hl.size]; exact hjs
   simp only [treeA, stepA, ho] at h
   refine one_run h0 ho h hs fun {σ' G' a' w'} hk hs' => ?_
   have := (tree_run h0 hlt hN hQ t true (j :: L) (listed.setIfInBounds j true) (U.erase j) σ' G' a' w' hok.2 l1 (hc.step hsz ho k2) (fun i hi => by
     rw [set_getD hsz]
     by_cases hij : j = i
     ·subst hij; simp
     ·rw [if_neg hij, hL i hi]; simp [Ne.symm hij]) hk hs').1 rfl
   rw [show U.length - 1 = (U.erase j).length by omega]
   exact this
  refine ⟨fun htop => ?_, fun i hi hr => ?_⟩
  ·refine of_steps hl hlt hL (hok.1.resolve_left (by simp [htop])) fun i hi hr => ?_
   have hij : i = j := by simpa using hi
   subst hij; exact key hr
  ·have hij : i = j := by simpa [Tr.cover] using hi
   subst hij; exact key hr
 | .hd j t, top, L, listed, U, σ, G, a, w, hok, hl, hc, hL, h, hs => by
  simp only [trOk, Bool.and_eq_true, Bool.or_eq_true, Bool.not_eq_true'] at hok
  have key : j ∈ Region.ready .any ops listed -> Go.wpOp P ops Q j (wpAny P .any ops Q (U.length - 1) (listed.setIfInBounds j true)) a w := by
   intro hready
   obtain ⟨o, ho, k1, k2⟩ := (ready_iff hl.size).1 hready
   have hjs := (Array.getElem?_eq_some_iff.1 ho).1
   have hmem : j ∈ U := (hl.mem j).2 ⟨hjs, k1⟩
   obtain ⟨l1, l2⟩ := hl.step hmem
   have hsz : j < listed.size := by rw [hl.size]; exact hjs
   simp only [treeA, ho] at h
   refine hd_run h0 ho h hs fun {σ' G' a' w'} hk hs' => ?_
   have := (tree_run h0 hlt hN hQ t true (j :: L) (listed.setIfInBounds j true) (U.erase j) σ' G' a' w' hok.2 l1 (hc.step hsz ho k2) (fun i hi => by
     rw [set_getD hsz]
     by_cases hij : j = i
     ·subst hij; simp
     ·rw [if_neg hij, hL i hi]; simp [Ne.symm hij]) hk hs').1 rfl
   rw [show U.length - 1 = (U.erase j).length by omega]
   exact this
  refine ⟨fun htop => ?_, fun i hi hr => ?_⟩
  ·refine of_steps hl hlt hL (hok.1.resolve_left (by simp [htop])) fun i hi hr => ?_
   have hij : i = j := by simpa using hi
   subst hij; exact key hr
  ·have hij : i = j := by simpa [Tr.cover] using hi
   subst hij; exact key hr
 | .retag x y t, top, L, listed, U, σ, G, a, w, hok, hl, hc, hL, h, hs => by
  simp only [trOk, Bool.and_eq_true] at hok
  exact ⟨fun _ => (tree_run h0 hlt hN hQ t true L listed U _ _ a w hok.2 hl hc hL h.2.2 (hs.retag h0 h.1 h.2.1)).1 rfl, fun i hi => by simp [Tr.cover] at hi⟩
 | .alt x y, top, L, listed, U, σ, G, a, w, hok, hl, hc, hL, h, hs => by
  simp only [trOk, Bool.and_eq_true, Bool.or_eq_true, Bool.not_eq_true'] at hok
  obtain ⟨hcov, hx, hy⟩ := hok
  have ix := (tree_run h0 hlt hN hQ x false L listed U σ G a w hx hl hc hL h.1 hs).2
  have iy := (tree_run h0 hlt hN hQ y false L listed U σ G a w hy hl hc hL h.2 hs).2
  have key : ∀ i ∈ (Tr.alt x y).cover, i ∈ Region.ready .any ops listed -> Go.wpOp P ops Q i (wpAny P .any ops Q (U.length - 1) (listed.setIfInBounds i true)) a w := fun i hi hr => by
   rcases List.mem_append.1 hi with hi | hi
   ·exact ix i hi hr
   ·exact iy i hi hr
  exact ⟨fun htop => of_steps hl hlt hL (hcov.resolve_left (by simp [htop])) key, key⟩
end
theorem DrawK.treeO {P : Program} {ops : Array Oper} {σ : St} {K : St -> Prop} (t : Tr) (hm : P.follows .mixedOrders = true) (hok : treeOk ops t = true) (h : treeA P ops t σ K) : DrawK P ops σ K := by
 intro G0 w0 G a w id Q h0 hs hQ
 simp only [treeOk, Bool.and_eq_true, List.all_eq_true, List.mem_range] at hok
 refine wp_region_any hm (wpAny_normal _ _ _ _ ?_)
 have hgd : ∀ i, (Array.replicate ops.size false).getD i false = false := fun i => by
  by_cases hi : i < ops.size <;> simp [hi]
 have := (tree_run (P := P) (Q := fun e a w => e = .normal /\ Q e a w) h0 (fun i o ho => by
   have := hok.1 i (Array.getElem?_eq_some_iff.1 ho).1
   rw [ho] at this
   simpa only [List.all_eq_true, decide_eq_true_eq] using this) (fun e a w hn h => hn h.1) (fun σ' G' a' w' hk hs => ⟨rfl, hQ σ' G' a' w' hk hs⟩) t true [] (Array.replicate ops.size false) (List.range ops.size) σ G a _ hok.2
   ⟨by simp, List.nodup_range, fun i => by rw [List.mem_range, hgd]; simp⟩ (fun i o _ hi => absurd (show (Array.replicate ops.size false).getD i false = true from hi) (by rw [hgd]; simp)) (fun i _ => by rw [hgd]; simp) h (hs.drawn (w.drawn + 1))).1 rfl
 simpa using this
theorem DrawK.tree {P : Program} {l : List Oper} {σ : St} {K : St -> Prop} (t : Tr) (hm : P.follows .mixedOrders = true) (hok : treeOk l.toArray t = true) (h : treeA P l.toArray t σ K) : DrawK P l.toArray σ K := DrawK.treeO t hm hok h
section
variable {P : Program} {n : Nat} {t : List (Nat × AV)} {b : List (List AV)} {ops : Array Oper} {l : List Oper} {tr tr' : Tr} {j : Nat}
variable {d : Nat} {T : TypeId} {pos : String} {af : Array Edge} {g : Option (Nat × Bool)} {K : St -> Prop}
@[congr] theorem frA_congr {o o' : Option Oper} {σ σ' : St} (h1 : o = o') (h : mkd σ = σ') : frA P o σ K = frA P o' σ' K := by subst_vars; rfl
@[congr] theorem stepA_congr {o o' : Option Oper} {σ σ' : St} (h1 : o = o') (h : mkd σ = σ') : stepA P ops o σ K = stepA P ops o' σ' K := by subst_vars; rfl
@[congr] theorem treeA_congr {σ σ' : St} (h : mkd σ = σ') : treeA P ops tr σ K = treeA P ops tr σ' K := by subst_vars; rfl
@[go_sem] theorem treeA_done : treeA P ops .done ⟨n, t, b⟩ K = K ⟨n, t, b⟩ := rfl
@[go_sem] theorem treeA_front : treeA P l.toArray (.front j tr) ⟨n, t, b⟩ K = frA P l[j]? ⟨n, t, b⟩ fun σ' => treeA P l.toArray tr σ' K := by rw [<- List.getElem?_toArray]; rfl
@[go_sem] theorem treeA_one : treeA P l.toArray (.one j tr) ⟨n, t, b⟩ K = stepA P l.toArray l[j]? ⟨n, t, b⟩ fun σ' => treeA P l.toArray tr σ' K := by rw [<- List.getElem?_toArray]; rfl
@[go_sem] theorem treeA_alt : treeA P ops (.alt tr tr') ⟨n, t, b⟩ K = andK (treeA P ops tr ⟨n, t, b⟩ K) (treeA P ops tr' ⟨n, t, b⟩ K) := rfl
@[go_sem] theorem treeA_retag {x y : Nat} : treeA P ops (.retag x y tr) ⟨n, t, b⟩ K = andK (2 <= x) (andK (2 <= y) (treeA P ops tr (St.map ⟨n, t, b⟩ (retagLeaf x y)) K)) := rfl
@[go_sem] theorem stepA_some {o : Oper} : stepA P ops (some o) ⟨n, t, b⟩ K = opsA P ops [o] ⟨n, t, b⟩ K := rfl
@[congr] theorem stepH_congr {o o' : Option Oper} {σ σ' : St} (h1 : o = o') (h : mkd σ = σ') : stepH P o σ K = stepH P o' σ' K := by subst_vars; rfl
@[go_sem] theorem treeA_hd : treeA P l.toArray (.hd j tr) ⟨n, t, b⟩ K = stepH P l[j]? ⟨n, t, b⟩ fun σ' => treeA P l.toArray tr σ' K := by rw [<- List.getElem?_toArray]; rfl
@[go_sem] theorem stepH_some {op : Op} : stepH P (some ⟨some d, op, T, pos, af, none⟩) ⟨n, t, b⟩ K = andK (St.free ⟨n, t, b⟩ d = true) (headOp P ⟨some d, op, T, pos, af, none⟩ ⟨n, t, b⟩ K) := rfl
@[go_sem] theorem frA_move {x : Operand} : frA P (some ⟨some d, .move x, T, pos, af, g⟩) ⟨n, t, b⟩ K = andK (d < n) (K (St.put ⟨n, t, b⟩ (some d) (St.ev ⟨n, t, b⟩ x))) := rfl
@[go_sem] theorem frA_binOp {op : BinOp} {T' T'' : TypeId} {x y : Operand} : frA P (some ⟨some d, .binOp op T' x y T'', T, pos, af, g⟩) ⟨n, t, b⟩ K = andK (d < n) (evBinSc P op T' (St.ev ⟨n, t, b⟩ x) (St.ev ⟨n, t, b⟩ y) fun r => K (St.put ⟨n, t, b⟩ (some d) r)) := rfl
@[go_sem] theorem frA_fieldAddr {T' : TypeId} {x : Operand} {f : Nat} : frA P (some ⟨some d, .fieldAddr T' x f, T, pos, af, g⟩) ⟨n, t, b⟩ K = andK (d < n) (evFieldAddr P T' (St.ev ⟨n, t, b⟩ x) f fun r => K (St.put ⟨n, t, b⟩ (some d) r)) := rfl
@[go_sem] theorem frA_indexAddr {T' : TypeId} {x i : Operand} : frA P (some ⟨some d, .indexAddr T' x i, T, pos, af, g⟩) ⟨n, t, b⟩ K = andK (d < n) (andK (isSlice (St.ev ⟨n, t, b⟩ x) = true) (evIndexAddr P T' (St.ev ⟨n, t, b⟩ x) (St.ev ⟨n, t, b⟩ i) fun r => K (St.put ⟨n, t, b⟩ (some d) r))) := by simp [frA, frontW, frontV, andK]
end
theorem freeT_put {d : Nat} {x : AV} (hx : x.allLeaf (freeLeaf d) = true) : ∀ {l : List (Nat × AV)} {s : Nat}, freeT d l = true -> freeT d (putT l s x) = true
 | [], s, _ => by simp [putT, freeT, hx]
 | (s', v) :: r, s, h => by
  simp only [freeT, Bool.and_eq_true] at h
  unfold putT
  split
  ·simp [freeT, hx, h.2]
  ·simp [freeT, h.1, freeT_put hx h.2]
def posE (E : List Nat) (L : Nat -> Bool) : Nat := (E.filter L).length
def EffC (P : Program) (σ0 : St) (i0 : Nat) (o : Oper) (d : Nat) (ρ : Operand -> AV) (c : List AV) (y : AV) (c' : List AV) : Prop :=
 o.guard = none /\ ∃ fid args As r c1, o.op = .call { callee := .value (.func fid), args := args, argTypes := As } /\ dedup (pbss (args.toList.map ρ)) = [i0] /\ allLeafs noTag (args.toList.map ρ) = true /\ allNoTags [c] = true /\
  Con P fid (mapTops (pbIn [i0]) (args.toList.map ρ)) (mapB (pbIn [i0]) [c]) (fun r' bx => r' = r /\ bx = [c1]) /\ r.allLeaf lt64b = true /\ allNoTags [c1] = true /\
  y = r.mapTop (outLeaf (64 * (d + 1)) [i0] σ0.boxes.length) /\ [c'] = mapB (outLeaf (64 * (d + 1)) [i0] σ0.boxes.length) [c1]
def blankC : List Nat -> List AV -> List AV
 | [], c => c
 | _ :: _, c => c.map fun _ => .any
structure AtE (vs : List (Nat × AV)) (E : List Nat) (C : Nat -> List AV) (i0 : Nat) (L : Nat -> Bool) (σ τ : St) : Prop where
 n : τ.n = σ.n
 boxes : τ.boxes = σ.boxes.set i0 (C (posE E L))
 dst : ∀ (i d : Nat) (y : AV), vs[i]? = some (d, y) -> τ.get d = if L i = true then y else σ.get d
 rest : ∀ s : Nat, (∀ (i d : Nat) (y : AV), vs[i]? = some (d, y) -> d ≠ s) -> τ.get s = σ.get s
section
variable {P : Program} {ops : Array Oper} {m : Nat} {vs : List (Nat × AV)} {E : List Nat} {C : Nat -> List AV} {i0 : Nat} {σ : St} {K : St -> Prop} {G0 : Orig} {w0 : World} {Q : Exit -> Act -> World -> Prop}
theorem BRel.blank {gh : Gh} {G : Nat -> Status} {w : World} {bx : List (List AV)} {c c' : List AV} (h : BRel gh G w (bx.set i0 c)) (hl : c.length = c'.length) (he : E = [] -> c = c') : BRel gh G w (bx.set i0 (blankC E c')) := by
 cases E with
 | nil => rw [<- he rfl]; exact h
 | cons e E =>
 refine ⟨fun i vs hv => by have := h.low i vs hv; simpa using this, fun i cs hi => ?_⟩
 rw [List.getElem?_set] at hi
 by_cases hii : i0 = i
 ·subst hii
  rw [if_pos rfl] at hi
  split at hi
  ·rename_i hlt
   cases hi
   have h2 := h.cell i0 c (by rw [List.getElem?_set, if_pos rfl, if_pos hlt])
   refine h2.turn (by simp [blankC, hl]) (fun j x y v h3 h4 hr => ?_) (fun b hb => ⟨hb, rfl⟩) fun h0 => h0
   unfold blankC at h4
   rw [List.getElem?_map] at h4
   cases hc : c'[j]? with
   | none => simp [hc] at h4
   | some z => simp [hc] at h4; subst h4; exact .froz (.any _)
  ·cases hi
 ·rw [if_neg hii] at hi
  exact h.cell i cs (by rw [List.getElem?_set, if_neg hii]; exact hi)
theorem posE_step {L L' : Nat -> Bool} {i : Nat} (hn : E.Nodup) (hL : ∀ j, j ≠ i -> L' j = L j) (h1 : L i = false) (h2 : L' i = true) : posE E L' = posE E L + if i ∈ E then 1 else 0 := by
 unfold posE
 induction E with
 | nil => simp
 | cons e E ih =>
  have hn' := List.nodup_cons.1 hn
  have ih := ih hn'.2
  by_cases he : e = i
  ·subst he
   have hni : e ∉ E := hn'.1
   rw [if_neg hni] at ih
   simp only [List.filter_cons, h1, h2, if_true, Bool.false_eq_true, if_false, List.length_cons, List.mem_cons, true_or, if_true]
   omega
  ·simp only [List.filter_cons, hL e he, List.mem_cons, Ne.symm he, false_or]
   split
   ·simp only [List.length_cons]; omega
   ·exact ih
structure PlanE (ops : Array Oper) (m : Nat) (E : List Nat) : Prop where
 nodup : E.Nodup
 lt : ∀ e ∈ E, e < m
 chain : ∀ e ∈ E, ∀ e' ∈ E, e < e' -> reach ops ops.size e' e = true
def sgIs (sg : Option (Nat × Tr)) (j : Nat) : Bool := match sg with
 | some (x, _) => j == x
 | none => false
def sgA (P : Program) (ops : Array Oper) (sg : Option (Nat × Tr)) (σ : St) (K : St -> Prop) : Prop := match sg with
 | none => True
 | some (x, t) => match ops[x]? with
  | some o => ∃ d, o.dst = some d /\ treeA P ops t (σ.put (some d) .any) K
  | none => False
structure PlanL (ops : Array Oper) (m : Nat) (E LF : List Nat) (tr : Tr) (sg : Option (Nat × Tr)) : Prop where
 le : m <= ops.size
 lt : ∀ i o, ops[i]? = some o -> ∀ k ∈ edges o, k < i
 head : ∀ i o, ops[i]? = some o -> i < m -> ∃ d, o.dst = some d /\ d ∉ slotsG ops o /\ ∀ j p s, j < m -> j ≠ i -> ops[j]? = some p -> p.dst = some s -> s ≠ d /\ (s ∈ slotsG ops o -> if j < i then reach ops ops.size i j = true else reach ops ops.size j i = true)
 tail : ∀ i o, ops[i]? = some o -> m <= i -> ∀ j, j < m -> j ∉ LF -> sgIs sg j = false -> reach ops ops.size i j = true
 fr : ∀ j ∈ LF, j < m /\ j ∉ E /\ ∀ p, ops[j]? = some p -> ∃ d, Front ops j p d
 tr : trOk ops true (List.range m) tr = true
 sg : ∀ x t, sg = some (x, t) -> x < m /\ x ∉ E /\ x ∉ LF /\ (∀ j ∈ LF, ∀ p, ops[j]? = some p -> x ∉ edges p) /\ trOk ops true ((List.range m).filter fun i => !(i == x)) t = true
def FrontC (P : Program) (o : Oper) (ρ : Operand -> AV) (y : AV) : Prop :=
 ∀ (G : Nat -> Status) (a : Act) (w : World), Good G w -> (∀ x ∈ o.op.operands, VRel G w (ρ x) (a.eval x)) -> ∃ v, VRel G w y v /\ ∀ w', (execOp a.eval o).run P w' = .ok (.value v) w'
end
def EffK (P : Program) (n0 i0 : Nat) (o : Oper) (σ : St) (c : List AV) (K : St -> List AV -> Prop) : Prop :=
 ∃ d y c', o.dst = some d /\ d < σ.n /\ EffC P ⟨0, [], List.replicate n0 []⟩ i0 o d σ.ev c y c' /\ c'.length = c.length /\ allLeafs noTag c' = true /\ K (σ.put (some d) y) c'
def frB (P : Program) (o : Oper) (σ : St) (K : St -> Prop) : Prop := frA P (some o) σ K
theorem frB_sound {P : Program} {o : Oper} {σ : St} {K : St -> Prop} (h : frB P o σ K) : ∃ d y, o.dst = some d /\ d < σ.n /\ K (σ.put (some d) y) /\ FrontC P o σ.ev y := by
 unfold frB frA at h
 split at h
 ·rename_i d op T pos af g hj
  cases hj
  obtain ⟨hdn, h⟩ := h
  obtain ⟨y, hK, hy⟩ := frontW_sound' (p := ⟨some d, op, T, pos, af, g⟩) h
  exact ⟨d, y, rfl, hdn, hK, hy⟩
 ·exact h.elim
def cntE (E : List Nat) (i : Nat) : Nat := posE E fun e => decide (e < i)
theorem cntE_succ {E : List Nat} (hn : E.Nodup) (i : Nat) : cntE E (i + 1) = cntE E i + if i ∈ E then 1 else 0 :=
 posE_step hn (fun j hj => by simp only [decide_eq_decide]; omega) (by simp) (by simp)
section
variable {P : Program} {ops : Array Oper} {n0 i0 : Nat} {E LF : List Nat}
def freeBut (d : Nat) : List (Nat × AV) -> Bool
 | [] => true
 | (s, v) :: r => (s == d || v.allLeaf (freeLeaf d)) && freeBut d r
def freeOthers (l : List (Nat × AV)) : List Nat -> Bool
 | [] => true
 | d :: r => freeBut d l && freeOthers l r
theorem noTag_free {d : Nat} : ∀ (x : AV), noTag x = true -> freeLeaf d x = true := fun x h => by
 cases x <;> simp [noTag, freeLeaf] at h ⊢
 all_goals (first | (unfold root; omega) | skip)
def nodupE : List Nat -> Bool
 | [] => true
 | e :: r => !r.contains e && nodupE r
theorem nodupE_spec : ∀ {E : List Nat}, nodupE E = true -> E.Nodup
 | [], _ => List.nodup_nil
 | e :: r, h => by
  simp only [nodupE, Bool.and_eq_true, Bool.not_eq_true'] at h
  exact List.nodup_cons.2 ⟨by simpa using h.1, nodupE_spec h.2⟩
def effOk (ops : Array Oper) (m : Nat) (E : List Nat) : Bool :=
 nodupE E && E.all (fun e => decide (e < m)) && E.all fun e => E.all fun e' => !decide (e < e') || reach ops ops.size e' e
def lateOk (ops : Array Oper) (m : Nat) (E LF : List Nat) (tr : Tr) (sg : Option (Nat × Tr)) : Bool :=
 decide (m <= ops.size) && ((List.range ops.size).all (fun i => match ops[i]? with
  | none => false
  | some o => if i < m then headOkG ops m i o else (edges o).all (fun k => decide (k < i)) && (List.range m).all fun j => LF.contains j || (sgIs sg j || reach ops ops.size i j)) &&
 (LF.all (fun j => decide (j < m) && (!E.contains j && match ops[j]? with | none => false | some p => frontOk ops j p)) && (trOk ops true (List.range m) tr && match sg with
  | none => true
  | some (x, t) => decide (x < m) && (!E.contains x && (!LF.contains x && ((LF.all fun j => match ops[j]? with | none => false | some p => !(edges p).contains x) && trOk ops true ((List.range m).filter fun i => !(i == x)) t))))))
theorem lateOk_plan {ops : Array Oper} {m : Nat} {E LF : List Nat} {tr : Tr} {sg : Option (Nat × Tr)} (h : lateOk ops m E LF tr sg = true) : PlanL ops m E LF tr sg := by
 simp only [lateOk, Bool.and_eq_true, decide_eq_true_eq, List.all_eq_true, List.mem_range, Bool.not_eq_true'] at h
 obtain ⟨h1, h2, h3, h4, h5⟩ := h
 have hof : ∀ i o, ops[i]? = some o -> (if i < m then headOkG ops m i o else (edges o).all (fun k => decide (k < i)) && (List.range m).all fun j => LF.contains j || (sgIs sg j || reach ops ops.size i j)) = true := fun i o ho => by
  have := h2 i (Array.getElem?_eq_some_iff.1 ho).1
  rw [ho] at this; simpa using this
 refine ⟨h1, fun i o ho k hk => ?_, fun i o ho hi => ?_, fun i o ho hi j hj hjL hjs => ?_, fun j hj => ⟨(h3 j hj).1, by simpa using (h3 j hj).2.1, fun p hp => ?_⟩, h4, fun x t hsg => ?_⟩
 ·have := hof i o ho
  split at this
  ·simp only [headOkG, Bool.and_eq_true, List.all_eq_true, decide_eq_true_eq] at this
   exact this.1 k hk
  ·simp only [Bool.and_eq_true, List.all_eq_true, decide_eq_true_eq] at this
   exact this.1 k hk
 ·have := hof i o ho
  rw [if_pos hi] at this
  simp only [headOkG, Bool.and_eq_true] at this
  obtain ⟨_, g3⟩ := this
  split at g3
  ·cases g3
  ·rename_i d hd
   simp only [Bool.and_eq_true, List.all_eq_true, List.mem_range, Bool.not_eq_true', Bool.or_eq_true, beq_iff_eq] at g3
   refine ⟨d, hd, by simpa using g3.1, fun j p s hj hji hp hs => ?_⟩
   have := (g3.2 j hj).resolve_left hji
   simp only [hp, hs, Bool.and_eq_true, bne_iff_ne, ne_eq, Bool.or_eq_true, Bool.not_eq_true'] at this
   refine ⟨this.1, fun hm => ?_⟩
   have h' := this.2.resolve_left (by simpa using hm)
   split at h'
   ·rename_i hlt; rw [if_pos hlt]; exact h'
   ·rename_i hlt; rw [if_neg hlt]; exact h'
 ·have := hof i o ho
  rw [if_neg (by omega)] at this
  simp only [Bool.and_eq_true, List.all_eq_true, List.mem_range, Bool.or_eq_true] at this
  exact ((this.2 j hj).resolve_left (by simpa using hjL)).resolve_left (by rw [hjs]; simp)
 ·have := (h3 j hj).2.2
  rw [hp] at this
  exact frontOk_front hp this
 ·subst hsg
  simp only [Bool.and_eq_true, decide_eq_true_eq, Bool.not_eq_true', List.all_eq_true] at h5
  refine ⟨h5.1, by simpa using h5.2.1, by simpa using h5.2.2.1, fun j hj p hp => ?_, h5.2.2.2.2⟩
  have := h5.2.2.2.1 j hj
  rw [hp] at this
  simpa using this
theorem puts_eq : ∀ (vs : List (Nat × AV)) (σ : St) (b : List (List AV)), puts { σ with boxes := b } vs = { puts σ vs with boxes := b }
 | [], σ, b => rfl
 | p :: r, σ, b => by simp only [puts]; exact puts_eq r (σ.put (some p.1) p.2) b
theorem puts_boxes : ∀ (vs : List (Nat × AV)) (σ : St), (puts σ vs).boxes = σ.boxes
 | [], σ => rfl
 | p :: r, σ => by simp only [puts]; rw [puts_boxes r, put_boxes]
theorem puts_ev (vs : List (Nat × AV)) (σ : St) (b : List (List AV)) : (puts { σ with boxes := b } vs).ev = (puts σ vs).ev := by
 funext x; rw [puts_eq]; cases x <;> rfl
theorem puts_get (vs : List (Nat × AV)) (σ : St) (b : List (List AV)) (s : Nat) : (puts { σ with boxes := b } vs).get s = (puts σ vs).get s := by rw [puts_eq]; rfl
def DrawN (P : Program) (ops : Array Oper) (σ : St) (K : St -> Prop) : Prop :=
 ∀ (G0 : Orig) (w0 : World) (G : Nat -> Status) (a : Act) (w : World) (Q : Exit -> Act -> World -> Prop), True -> SRel G0 w0 σ G a w -> (∀ e a w, e ≠ .normal -> ¬ Q e a w) -> (∀ σ' G' a' w', K σ' -> SRel G0 w0 σ' G' a' w' -> Q .normal a' w') -> wpAny P .any ops Q ops.size (Array.replicate ops.size false) a w
theorem DrawK.ofN {σ : St} {K : St -> Prop} (hm : P.follows .mixedOrders = true) (h : DrawN P ops σ K) : DrawK P ops σ K := by
 intro G0 w0 G a w id Q h0 hs hQ
 exact wp_region_any hm (wpAny_normal _ _ _ _ (h G0 w0 G a _ _ h0 (hs.drawn (w.drawn + 1)) (fun e a w hn h => hn h.1) fun σ' G' a' w' hk hs => ⟨rfl, hQ σ' G' a' w' hk hs⟩))
end
def renO (π : List Nat) (o : Oper) : Oper := ⟨o.dst, o.op, o.type, o.pos, o.after.map fun e => ⟨π.idxOf e.on, e.ground⟩, o.guard.map fun p => (π.idxOf p.1, p.2)⟩
def permG (π : List Nat) (l : List Oper) : List Nat -> List Oper
 | [] => []
 | i :: r => match l[i]? with
  | some o => renO π o :: permG π l r
  | none => []
def headX (P : Program) (ops : Array Oper) (n0 i0 : Nat) (E LF ds : List Nat) (tr : Tr) (sg : Option (Nat × Tr)) : Nat -> Nat -> List Oper -> St -> List AV -> (St -> Prop) -> Prop
 | _, 0, _, σ, c, K => freeOthers σ.tmps ds = true /\ (treeA P ops tr { σ with boxes := σ.boxes.set i0 c } K /\ sgA P ops sg { σ with boxes := σ.boxes.set i0 c } K)
 | _, _ + 1, [], σ, c, K => freeOthers σ.tmps ds = true /\ (treeA P ops tr { σ with boxes := σ.boxes.set i0 c } K /\ sgA P ops sg { σ with boxes := σ.boxes.set i0 c } K)
 | k, m + 1, o :: r, σ, c, K => if E.contains k = true then EffK P n0 i0 o σ c fun σ' c' => headX P ops n0 i0 E LF ds tr sg (k + 1) m r σ' c' K else if LF.contains k = true then frB P o σ fun σ' => headX P ops n0 i0 E LF ds tr sg (k + 1) m r σ' c K else headG P ops o σ fun σ' => headX P ops n0 i0 E LF ds tr sg (k + 1) m r σ' c K
theorem crs_creators (l : List Oper) (m : Nat) : creators l.toArray m = crs (l.take m) := by rw [crs_eq]; rfl
section
variable {P : Program} {n : Nat} {t : List (Nat × AV)} {b : List (List AV)} {ops : Array Oper} {n0 i0 k m : Nat} {E LF ds : List Nat} {tr : Tr} {sg : Option (Nat × Tr)} {l : List Oper} {c : List AV} {K : St -> Prop}
variable {d : Nat} {T : TypeId} {pos : String} {af : Array Edge} {g : Option (Nat × Bool)}
@[congr] theorem headX_congr {n0' k' : Nat} {σ σ' : St} {c' : List AV} (h0 : n0 = n0') (h1 : k = k') (h : mkd σ = σ') (h2 : c = c') : headX P ops n0 i0 E LF ds tr sg k m l σ c K = headX P ops n0' i0 E LF ds tr sg k' m l σ' c' K := by subst_vars; rfl
@[congr] theorem EffK_congr {n0' : Nat} {o : Oper} {σ σ' : St} {c' : List AV} {K : St -> List AV -> Prop} (h0 : n0 = n0') (h : mkd σ = σ') (h2 : c = c') : EffK P n0 i0 o σ c K = EffK P n0' i0 o σ' c' K := by subst_vars; rfl
@[congr] theorem frB_congr {o : Oper} {σ σ' : St} {K : St -> Prop} (h : mkd σ = σ') : frB P o σ K = frB P o σ' K := by subst_vars; rfl
@[go_sem] theorem frB_eq {o : Oper} : frB P o ⟨n, t, b⟩ K = frA P (some o) ⟨n, t, b⟩ K := rfl
@[go_sem] theorem headX_zero : headX P ops n0 i0 E LF ds tr sg k 0 l ⟨n, t, b⟩ c K = andK (freeOthers t ds = true) (andK (treeA P ops tr ⟨n, t, b.set i0 c⟩ K) (sgA P ops sg ⟨n, t, b.set i0 c⟩ K)) := by cases l <;> rfl
@[go_sem] theorem headX_nil : headX P ops n0 i0 E LF ds tr sg k (m + 1) [] ⟨n, t, b⟩ c K = andK (freeOthers t ds = true) (andK (treeA P ops tr ⟨n, t, b.set i0 c⟩ K) (sgA P ops sg ⟨n, t, b.set i0 c⟩ K)) := rfl
@[go_sem] theorem headX_succ {dst : Option Tmp} {op : Op} : headX P ops n0 i0 E LF ds tr sg k (m + 1) (⟨dst, op, T, pos, af, none⟩ :: l) ⟨n, t, b⟩ c K = selK (E.contains k) (EffK P n0 i0 ⟨dst, op, T, pos, af, none⟩ ⟨n, t, b⟩ c fun σ' c' => headX P ops n0 i0 E LF ds tr sg (k + 1) m l σ' c' K)
  (selK (LF.contains k) (frB P ⟨dst, op, T, pos, af, none⟩ ⟨n, t, b⟩ fun σ' => headX P ops n0 i0 E LF ds tr sg (k + 1) m l σ' c K) (headOp P ⟨dst, op, T, pos, af, none⟩ ⟨n, t, b⟩ fun σ' => headX P ops n0 i0 E LF ds tr sg (k + 1) m l σ' c K)) := by rw [selK_ite, selK_ite]; rfl
def sgD (P : Program) (ops : Array Oper) (o : Option Oper) (tr : Tr) (σ : St) (K : St -> Prop) : Prop := match o with
 | some ⟨some d, _, _, _, _, _⟩ => treeA P ops tr (σ.put (some d) .any) K
 | _ => False
@[congr] theorem sgA_congr {σ σ' : St} (h : mkd σ = σ') : sgA P ops sg σ K = sgA P ops sg σ' K := by subst_vars; rfl
@[congr] theorem sgD_congr {o o' : Option Oper} {σ σ' : St} (h1 : o = o') (h : mkd σ = σ') : sgD P ops o tr σ K = sgD P ops o' tr σ' K := by subst_vars; rfl
@[go_sem] theorem sgA_none : sgA P ops none ⟨n, t, b⟩ K = True := rfl
@[go_sem] theorem sgD_some {op : Op} : sgD P ops (some ⟨some d, op, T, pos, af, g⟩) tr ⟨n, t, b⟩ K = treeA P ops tr (St.put ⟨n, t, b⟩ (some d) .any) K := rfl
def consO (o : Option Oper) (r : List Oper) : List Oper := match o with
 | some o => o :: r
 | none => []
@[go_sem] theorem consO_some {o : Oper} {r : List Oper} : consO (some o) r = o :: r := rfl
@[go_sem] theorem permG_nil {π : List Nat} : permG π l [] = [] := rfl
@[go_sem] theorem renO_mk {π : List Nat} {dst : Option Tmp} {op : Op} : renO π ⟨dst, op, T, pos, af, none⟩ = ⟨dst, op, T, pos, af.map fun e => ⟨π.idxOf e.on, e.ground⟩, none⟩ := rfl
attribute [go_sem] freeOthers freeBut blankC
theorem EffK.mk {fid : FuncId} {args : List Operand} {As : Array TypeId} {args' c0 c1 : List AV} {r : AV} {K : St -> List AV -> Prop} (hcon : Con P fid args' [c0] fun r' bx => r' = r /\ bx = [c1])
  (hc : d < n /\ dedup (pbss (evAll ⟨n, t, b⟩ args)) = [i0] /\ allLeafs noTag (evAll ⟨n, t, b⟩ args) = true /\ allLeafs noTag c = true) (ha : mapTops (pbIn [i0]) (evAll ⟨n, t, b⟩ args) = args') (hc0 : mapTops (pbIn [i0]) c = c0)
  (hr : r.allLeaf lt64b = true /\ allLeafs noTag c1 = true /\ (mapTops (outLeaf (64 * (d + 1)) [i0] n0) c1).length = c.length /\ allLeafs noTag (mapTops (outLeaf (64 * (d + 1)) [i0] n0) c1) = true)
  (hk : K (St.put ⟨n, t, b⟩ (some d) (r.mapTop (outLeaf (64 * (d + 1)) [i0] n0))) (mapTops (outLeaf (64 * (d + 1)) [i0] n0) c1)) :
  EffK P n0 i0 ⟨some d, .call ⟨.value (.func fid), args.toArray, As⟩, T, pos, af, none⟩ ⟨n, t, b⟩ c K := by
 rw [evAll_eq] at hc ha
 refine ⟨d, _, _, rfl, hc.1, ⟨rfl, fid, args.toArray, As, r, c1, rfl, hc.2.1, hc.2.2.1, by simp [allNoTags, hc.2.2.2], ?_, hr.1, by simp [allNoTags, hr.2.1], by rw [List.length_replicate], by simp [mapB]⟩, hr.2.2.1, hr.2.2.2, hk⟩
 rw [ha, show mapB (pbIn [i0]) [c] = [c0] by simp [mapB, hc0]]
 exact hcon
end
end Go.AM
namespace Go.AM
open Go.RowKit Go.Proofs Go.Shelf
end Go.AM
namespace Go.AM
open Go Go.Proofs Go.RowKit
theorem wrap_in {n : Int} (h1 : -9223372036854775808 <= n) (h2 : n <= 9223372036854775807) : IntKind.i64.wrap n = n := by rw [IntKind.wrap_i64]; omega
def vi (x : Int) : AV := .sc (.int .i64 x)
def vu (x : Int) : AV := .sc (.int .u8 x)
def vs (t : Nat) (l : List Int) : AV := .sl t 1 (l.map vi)
theorem getv {l : List Int} {i : Nat} (h : i < l.length) : (l.map vi)[i]? = some (.sc (.int .i64 l[i]!)) := by simp [vi, h]
theorem getu {l : List Int} {i : Nat} (h : i < l.length) : (l.map vu)[i]? = some (.sc (.int .u8 l[i]!)) := by simp [vu, h]
def findI {α : Type} (p : α -> Bool) (l : List α) : Int := match l.findIdx? p with | some i => i | none => -1
theorem findI_stop {α : Type} [Inhabited α] {p : α -> Bool} {l : List α} {i : Nat} (h : i < l.length) (hb : ∀ j, j < i -> p l[j]! = false) (hp : p l[i]! = true) : findI p l = i := by
 have : l.findIdx? p = some i := by
  rw [List.findIdx?_eq_some_iff_getElem]
  refine ⟨h, by simpa [h] using hp, fun j hj => ?_⟩
  have := hb j hj
  have hjl : j < l.length := by omega
  simpa [hjl] using this
 simp [findI, this]
theorem findI_none {α : Type} [Inhabited α] {p : α -> Bool} {l : List α} (hb : ∀ j, j < l.length -> p l[j]! = false) : findI p l = -1 := by
 have : l.findIdx? p = none := by
  rw [List.findIdx?_eq_none_iff]
  intro x hx
  obtain ⟨j, hj⟩ := List.getElem?_of_mem hx
  have hjl := (List.getElem?_eq_some_iff.1 hj).1
  have := hb j hjl
  have e : l[j]! = x := by simp [hj]
  rw [e] at this; exact this
 simp [findI, this]
theorem findI_ge {α : Type} (p : α -> Bool) (l : List α) : decide (0 <= findI p l) = l.any p := by
 unfold findI
 cases h : l.findIdx? p with
 | none =>
  rw [List.findIdx?_eq_none_iff] at h
  have : l.any p = false := by simpa using h
  simp [this]
 | some i =>
  rw [List.findIdx?_eq_some_iff_getElem] at h
  obtain ⟨h1, h2, _⟩ := h
  have : l.any p = true := List.any_eq_true.2 ⟨l[i], List.getElem_mem _, h2⟩
  simp [this]
def vb (b : Bool) : AV := .sc (.bool b)
attribute [go_sem] vi vu vs vb
def vbl (t : Nat) (row : List Bool) : AV := .sl t 1 (row.map vb)
theorem Con.args {P : Program} {f : FuncId} {args args' : List AV} {bx : List (List AV)} {post : AV -> List (List AV) -> Prop} (h : Con P f args bx post)
  (ha : ∀ (G : Nat -> Status) (w : World) (vs : List Value), PW (VRel G w) args' vs -> PW (VRel G w) args vs) : Con P f args' bx post :=
 ⟨h.1, fun G w vs h1 h2 h3 h4 h5 => h.2 G w vs h1 h2 h3 h4 (ha G w _ h5)⟩
def Sub (x y : AV) : Prop := ∀ (S : Nat -> Prop) (w : World) (v : Value), FRel S w x v -> FRel S w y v
theorem Sub.refl (x : AV) : Sub x x := fun _ _ _ h => h
theorem Sub.nil (es : Nat) : Sub .nil (.sl 0 es []) := fun S w v h => by
 cases h; exact .slNil 0 es none 0 (by omega) (fun h => by omega) (fun _ => rfl)
theorem Con.freezeR {P : Program} {f : FuncId} {args : List AV} {post : AV -> Prop} (p : Nat -> Bool) (h : Con P f args [] fun r _ => post r) : Con P f args [] fun r' _ => ∃ r, post r /\ r' = r.freeze p :=
 ⟨h.1, fun G w vs h1 h2 h3 h4 h5 => (h.2 G w vs h1 h2 h3 h4 h5).mono fun e w' ⟨v, r, bx', G', he, hq, hr, hg, hbx, hlt, e1, e2, e3, e4, e5, e6⟩ => by
  have hbox : ∀ k i, freezeG p G' k = .box i ↔ G' k = .box i := fun k i => by
   unfold freezeG; split
   ·rename_i t ht; split <;> simp [ht]
   ·exact Iff.rfl
  refine ⟨v, _, bx'.map (fun cs => cs.map (AV.freeze p)), freezeG p G', he, ⟨r, hq, rfl⟩, hr.freeze, hg.freeze, ⟨fun i vs hv => by simp [noGh] at hv, fun i cs hi => ?_⟩, fun k i hk => by simpa using hlt k i ((hbox k i).1 hk), e1, e2, e3, e4, fun k hk => ?_, e6⟩
  ·rw [List.getElem?_map] at hi
   cases hc : bx'[i]? with
   | none => simp [hc] at hi
   | some cs' =>
    simp [hc] at hi; subst hi
    exact (hbx.cell i cs' hc).map (fun x v hr => hr.freeze) (fun k hk => ⟨(hbox k i).2 hk, rfl⟩) fun h0 k hk => h0 k ((hbox k i).1 hk)
  ·have := e5 k hk
   unfold freezeG
   split
   ·rename_i t ht; rw [this] at ht; exact absurd ht (h2 k t)
   ·exact this⟩
theorem modify_vi {Z : List Int} {q : Nat} {x : Int} : (List.map vi Z).modify q (updElem 0 [AV.sc (.int .i64 x)]) = List.map vi (Z.set q x) := by
 apply List.ext_getElem?
 intro j
 rw [List.getElem?_modify, List.getElem?_map, List.getElem?_map, List.getElem?_set]
 by_cases hq : q = j
 ·subst hq
  by_cases hl : q < Z.length
  ·simp [hl, vi, updElem]
  ·simp [hl]
 ·simp [hq]
def metD (ks : List (List UInt8)) : DataW Unit := Go.Maps.setOf (.lit (.bool true)) (ks.map Lit.string)
theorem metD_snoc (ks : List (List UInt8)) (k : List UInt8) : (metD ks).put (.string k) (.lit (.bool true)) = metD (ks ++ [k]) := by
 unfold metD; rw [List.map_append]; exact (Go.Maps.setOf_snoc _ _ _).symm
theorem metD_tidy (ks : List (List UInt8)) : Go.Maps.Tidy (metD ks) := Go.Maps.tidy_setOf _ _ fun x hx => by
 obtain ⟨k, _, rfl⟩ := List.mem_map.1 hx; trivial
theorem metD_at : ∀ (ks : List (List UInt8)) (k : List UInt8), boolAt (metD ks) (.string k) = ks.contains k := by
 intro ks k
 have : ∀ (n : Nat) (ks : List (List UInt8)), ks.length = n -> boolAt (metD ks) (.string k) = ks.contains k := by
  intro n
  induction n with
  | zero => intro ks h; obtain rfl := List.eq_nil_of_length_eq_zero h; rfl
  | succ n ih =>
   intro ks h
   obtain ⟨ks', x, rfl⟩ : ∃ ks' x, ks = ks' ++ [x] := ⟨ks.dropLast, ks.getLast (by intro e; rw [e] at h; simp at h), (List.dropLast_concat_getLast _).symm⟩
   have ih' := ih ks' (by simpa using h)
   rw [<- metD_snoc]
   by_cases hk : k = x
   ·subst hk
    unfold boolAt
    rw [Go.Maps.atKey_put_same (metD_tidy _).isMap (by trivial)]
    simp
   ·unfold boolAt at ih' ⊢
    rw [Go.Maps.atKey_put_other (by intro e; cases e; exact hk rfl), ih']
    simp [hk]
 exact this _ ks rfl
attribute [go_sem] vbl
inductive CV where
 | mk (n : Int) (kids : List CV)
 deriving Inhabited
def CV.n : CV -> Int
 | .mk n _ => n
def CV.kids : CV -> List CV
 | .mk _ k => k
mutual
def vV : CV -> AV
 | .mk n kids => .ag [vi n, .sl 0 2 (vVs kids)]
def vVs : List CV -> List AV
 | [] => []
 | x :: l => vV x :: vVs l
end
theorem vVs_map : ∀ l : List CV, vVs l = l.map vV
 | [] => rfl
 | x :: l => by rw [vVs, vVs_map l]; rfl
theorem vV_eq (a : CV) : vV a = .ag [vi a.n, .sl 0 2 (a.kids.map vV)] := by cases a; rw [vV, vVs_map]; rfl
inductive CV.Ok : CV -> Prop
 | mk (n : Int) (k : List CV) : k.length <= 9223372036854775807 -> (∀ x ∈ k, CV.Ok x) -> CV.Ok (.mk n k)
theorem CV.Ok.len {a : CV} (h : a.Ok) : a.kids.length <= 9223372036854775807 := by cases h; assumption
theorem CV.Ok.kid {a : CV} (h : a.Ok) {x : CV} (hx : x ∈ a.kids) : x.Ok := by cases h with | mk n k _ h2 => exact h2 x hx
theorem kid_size {a x : CV} (h : x ∈ a.kids) : SizeOf.sizeOf x < SizeOf.sizeOf a := by
 cases a with
 | mk n k => have := List.sizeOf_lt_of_mem h; simp only [CV.kids] at *; rw [CV.mk.sizeOf_spec]; omega
theorem getvV {l : List CV} {i : Nat} (h : i < l.length) : (l.map vV)[i]? = some (.ag [.sc (.int .i64 l[i]!.n), .sl 0 2 (l[i]!.kids.map vV)]) := by
 rw [List.getElem?_map, List.getElem?_eq_getElem h, getElem!_pos l i h, Option.map_some, vV_eq]; rfl
theorem Sub.slE {t es : Nat} {xs ys : List AV} (hl : xs.length = ys.length) (hy : ∀ y ∈ ys, y.cells.length = es) (h : PW Sub (flat xs) (flat ys)) : Sub (.sl t es xs) (.sl t es ys) := fun S w v hv => by
 cases hv with
 | slNil _ _ a c h1 h2 h3 =>
  have : ys = [] := List.eq_nil_of_length_eq_zero (by simpa using hl.symm)
  subst this; exact .slNil t es a c h1 h2 h3
 | sl _ _ _ b off c vals h1 h2 h3 hc h4 h5 h0 h6 h7 =>
  rw [hl]
  refine .sl t es ys b off c vals h1 h2 (fun e => by rw [h3 e, hl]) (by omega) hy (by rw [<- h.1]; exact h5) h0 h6 fun j y u hj hu => ?_
  have hjl : j < (flat xs).length := by rw [h.1]; exact (List.getElem?_eq_some_iff.1 hj).1
  exact h.2 j _ y (List.getElem?_eq_getElem hjl) hj S w u (h7 j _ u (List.getElem?_eq_getElem hjl) hu)
theorem leV_slE {t es : Nat} {xs ys : List AV} (hl : xs.length = ys.length) (hy : ∀ y ∈ ys, y.cells.length = es) (h : PW Sub (flat xs) (flat ys)) : leV (.sl t es xs) (.sl t es ys) := leV_sem fun G w v hv => by
 cases hv with
 | froz h' => exact .froz (Sub.slE hl hy h _ _ _ h')
 | own _ _ _ _ e vals h1 h2 h3 h4 h0 h5 =>
  refine .own t es ys v e vals h1 (by rw [<- hl]; exact h2) h3 hy h0 ⟨by rw [<- h.1]; exact h5.1, fun j y u hj hu => ?_⟩
  have hjl : j < (flat xs).length := by rw [h.1]; exact (List.getElem?_eq_some_iff.1 hj).1
  exact h.2 j _ y (List.getElem?_eq_getElem hjl) hj _ _ u (h5.2 j _ u (List.getElem?_eq_getElem hjl) hu)
end Go.AM
namespace Go.AM
structure RD where
 name : ByteArray
 src : Int
 dst : Int
 need : List Int
 give : List Int
 move : List Int
 channel : Int := 0
 act : Int := 0
 letter : Int := 0
 path : List Int := []
 next : List Int := []
 takes : List (Int × Int × Int) := []
 makes : List Int := []
 second : Int := 0
 deriving Inhabited
structure AtomD where
 coefs : List Int
 mod : Int
 values : List Int
 deriving Inhabited
def fireL : List Int -> List Int -> List Int -> List Int
 | v :: vs, n :: ns, g :: gs => (v - n + g) :: fireL vs ns gs
 | _, _, _ => []
def fireF (r : RD) (v : List Int) : List Int := fireL v r.need r.give
theorem fireL_len : ∀ {v n g : List Int}, n.length = v.length -> g.length = v.length -> (fireL v n g).length = v.length
 | [], [], [], _, _ => rfl
 | v :: vs, n :: ns, g :: gs, h1, h2 => by
  simp only [fireL, List.length_cons]
  rw [fireL_len (by simpa using h1) (by simpa using h2)]
 | [], _ :: _, _, h, _ => by simp at h
 | [], [], _ :: _, _, h => by simp at h
 | _ :: _, [], _, h, _ => by simp at h
 | _ :: _, _ :: _, [], _, h => by simp at h
theorem fireL_at : ∀ {v n g : List Int} {i : Nat}, n.length = v.length -> g.length = v.length -> i < v.length -> (fireL v n g)[i]! = v[i]! - n[i]! + g[i]!
 | v :: vs, n :: ns, g :: gs, 0, _, _, _ => rfl
 | v :: vs, n :: ns, g :: gs, i + 1, h1, h2, h => by
  simp only [fireL, List.getElem!_cons_succ]
  exact fireL_at (by simpa using h1) (by simpa using h2) (by simpa using h)
 | [], _, _, _, _, _, h => by simp at h
 | _ :: _, [], _, _, h, _, _ => by simp at h
 | _ :: _, _ :: _, [], _, _, h, _ => by simp at h
def RightR (ns np : Nat) (r : RD) : Prop := 0 <= r.src /\ r.src < ns /\ 0 <= r.dst /\ r.dst < ns /\ r.need.length = np /\ r.give.length = np
end Go.AM
namespace Go.AM
open Go Go.Proofs Go.RowKit
def vStr (s : ByteArray) : AV := .sc (.string s)
def vss (l : List ByteArray) : AV := .sl 0 1 (l.map vStr)
def vTake (t : Int × Int × Int) : AV := .ag [vi t.1, vi t.2.1, vi t.2.2]
def vRule (r : RD) : AV := .ag [vStr r.name, vi r.src, vi r.dst, vs 0 r.need, vs 0 r.give, vs 0 r.move, vi r.channel, vi r.act, vi r.letter, vs 0 r.path, vs 0 r.next, .sl 0 3 (r.takes.map vTake), vs 0 r.makes, vi r.second]
structure MD where
 kind : Int
 states : List ByteArray
 places : List ByteArray
 letters : List ByteArray := []
 ranks : List Int := []
 levels : Int := 0
 age : Int := 0
 rules : List RD
 start : CV
 deriving Inhabited
def cM (m : MD) : List AV := [vi m.kind, vss m.states, vss m.places, vss m.letters, vs 0 m.ranks, vi m.levels, vi m.age, .sl 0 14 (m.rules.map vRule), vi m.start.n, .sl 0 2 (m.start.kids.map vV)]
def vM (m : MD) : AV := .ag (cM m)
def letterB (c : UInt8) : Bool := decide (97 <= c) && decide (c <= 122)
def digitB (c : UInt8) : Bool := decide (48 <= c) && decide (c <= 57)
def partB (c : UInt8) : Bool := letterB c || digitB c || c == 95
def wordB (s : ByteArray) : Bool := decide (0 < s.size) && decide (s.size <= 12) && letterB (s.get! 0) && s.toList.all partB
def kwL : List ByteArray := [⟨#[109, 111, 100, 101, 108]⟩, ⟨#[115, 116, 97, 116, 101, 115]⟩, ⟨#[112, 108, 97, 99, 101, 115]⟩, ⟨#[108, 101, 116, 116, 101, 114, 115]⟩, ⟨#[108, 101, 118, 101, 108, 115]⟩, ⟨#[97, 103, 101]⟩, ⟨#[114, 117, 108, 101]⟩, ⟨#[110, 101, 101, 100]⟩, ⟨#[103, 105, 118, 101]⟩, ⟨#[109, 111, 118, 101]⟩, ⟨#[101, 109, 112, 116, 121]⟩, ⟨#[115, 101, 110, 100]⟩, ⟨#[114, 101, 99, 101, 105, 118, 101]⟩, ⟨#[112, 97, 116, 104]⟩, ⟨#[110, 101, 120, 116]⟩, ⟨#[116, 97, 107, 101]⟩, ⟨#[109, 97, 107, 101]⟩, ⟨#[115, 116, 97, 114, 116]⟩]
def keywordB (s : ByteArray) : Bool := kwL.any fun k => s.toList == k.toList
def okN (l : List ByteArray) (i : Nat) : Bool := wordB l[i]! && !keywordB l[i]! && !((l.take i).map fun s => s.data.toList).contains l[i]!.data.toList
def namesB (l : List ByteArray) : Bool := (List.range l.length).all (okN l)
def namesOf (m : MD) : List ByteArray := m.states ++ m.places ++ m.letters ++ m.rules.map RD.name
def betweenB (x low high : Int) : Bool := decide (low <= x) && decide (x <= high)
def smallB (l : List Int) : Bool := l.all fun x => betweenB x 0 16
def changesB (np : Nat) (r : RD) : Bool := decide (r.need.length = np) && decide (r.give.length = np) && smallB r.need && smallB r.give
def movesB (np : Nat) (r : RD) : Bool := (r.move.length == 0) || (decide (r.move.length = np) && r.move.all fun x => betweenB x (-1) (np - 1))
def indexB (x : Int) (n : Nat) : Bool := decide (0 <= x) && decide (x < n)
def ruleB (ns np : Nat) (r : RD) : Bool := indexB r.dst ns && indexB r.src ns && changesB np r && movesB np r
def bareB (r : RD) : Bool := r.channel == 0 && r.act == 0 && r.letter == 0 && r.path.length == 0 && r.next.length == 0 && r.takes.length == 0 && r.makes.length == 0 && r.second == 0
def confB (ns np : Nat) (c : CV) : Bool :=
 match c with
 | .mk n (x :: l) => n == 0 && decide (0 <= x.n) && decide (x.n < ns) && x.kids.length == 0 && l.length == np && l.all (fun k => decide (0 <= k.n) && decide (k.n <= 1048576) && k.kids.length == 0)
 | _ => false
structure GoodM (m : MD) : Prop where
 kind : m.kind = 1
 states : 1 <= m.states.length /\ m.states.length <= 8
 places : 1 <= m.places.length /\ m.places.length <= 6
 few : m.rules.length <= 12
 letters : m.letters = []
 ranks : m.ranks = []
 levels : m.levels = 0
 age : m.age = 0
 names : namesB (namesOf m) = true
 rules : ∀ r ∈ m.rules, ruleB m.states.length m.places.length r = true /\ bareB r = true
 start : confB m.states.length m.places.length m.start = true
structure PreM (m : MD) : Prop where
 kind : m.kind = 1
 states : 1 <= m.states.length /\ m.states.length <= 8
 places : 1 <= m.places.length /\ m.places.length <= 6
 few : m.rules.length <= 12
 letters : m.letters = []
 ranks : m.ranks = []
 levels : m.levels = 0
 age : m.age = 0
 names : namesB (namesOf m) = true
 rules : ∀ r ∈ m.rules, ruleB m.states.length m.places.length r = true /\ bareB r = true
theorem GoodM.pre {m : MD} (h : GoodM m) : PreM m := ⟨h.kind, h.states, h.places, h.few, h.letters, h.ranks, h.levels, h.age, h.names, h.rules⟩
theorem getRule {l : List RD} {i : Nat} (h : i < l.length) : (l.map vRule)[i]? = some (vRule l[i]!) := by
 rw [List.getElem?_map, List.getElem?_eq_getElem h, getElem!_pos l i h, Option.map_some]
theorem getStr {l : List ByteArray} {i : Nat} (h : i < l.length) : (l.map vStr)[i]? = some (.sc (.string l[i]!)) := by
 rw [List.getElem?_map, List.getElem?_eq_getElem h, getElem!_pos l i h, Option.map_some]; rfl
end Go.AM
namespace Go.Proofs.YtapjfgddbfneaaaGreat
open Go.ChangeShapes Go.WideShapes Go.ChangeAt Go.RowKit Go.AM
theorem own : ownKnob Tryz.prog.godebug = none := by kernel_rfl
theorem laidOut : laidOutB Tryz.prog = true := by kernel_rfl
theorem read22 : Tryz.prog.readableRec 22 = true /\ 22 < Tryz.prog.types.size := ⟨by kernel_rfl, of_decide_eq_true (by kernel_rfl)⟩
theorem reads22 (n : Nat) : ∀ t ∈ List.replicate n 22, Tryz.prog.readableRec t = true /\ t < Tryz.prog.types.size := fun t ht => by rw [List.eq_of_mem_replicate ht]; exact read22
section
variable {H : Type} {enc : TypeId × Value -> H} {P : Program} {w : World} {base : Nat} {spare : Nat -> Bool} {held : Bool}
def numU (d : DataW H) : Int := IntKind.u8.wrap (numI d)
theorem numU_range (d : DataW H) : 0 <= numU d /\ numU d < 256 := by unfold numU; rw [IntKind.wrap_u8]; omega
theorem stands_u8 {e : TypeId} (he : P.underlying e = some (.int .u8)) : Stands enc P w base spare held e fun d => vu (numU d) := by
 intro n v d ps h
 obtain ⟨x, e0, e1, wx⟩ := DataW.trod_int he h
 simp only [List.cons.injEq, and_true] at e0
 simp only [Prod.mk.injEq] at e1
 obtain ⟨rfl, _⟩ := e1
 subst e0
 have e2 : numU (.lit (.int .u8 x) : DataW H) = x := by
  have : IntKind.u8.wrap x = x := by
   have h1 : 0 <= x /\ x <= 255 := by simpa [Lit.wf, IntKind.min, IntKind.max, IntKind.signed, IntKind.bits] using wx
   rw [IntKind.wrap_u8]; omega
  exact this
 simp only [e2, vu]
 exact ⟨.sc _, rfl, rfl⟩
theorem row_len {α : Type} {t e : TypeId} {f : DataW H -> α} {v : Value} {d : DataW H} {ps : List MemPlace} (ht : P.underlying t = some (.slice e)) (hc : P.cellsOf e = 1) (h1 : v.cells.toList = [v]) (h : DataW.Trod enc P w base spare held t v d ps) : (rowOf f d).length <= 9223372036854775807 := by
 obtain ⟨n, h⟩ := h
 rw [h1] at h
 rcases Go.Deep.open_slice1 ht hc h with ⟨_, h2⟩ | ⟨a, len, cap, m, n', V, D, Pl, _, _, hl, hm, _, h2, _⟩
 ·simp only [Prod.mk.injEq] at h2
  obtain ⟨rfl, _⟩ := h2
  simp [rowOf]
 ·simp only [Prod.mk.injEq] at h2
  obtain ⟨rfl, _⟩ := h2
  simp only [rowOf, List.length_map, List.length_range]
  unfold maxLen at hm; omega
theorem rowU_range (d : DataW H) : ∀ x ∈ rowOf numU d, 0 <= x /\ x < 256 := fun x hx => by
 cases d <;> simp only [rowOf, List.not_mem_nil] at hx
 obtain ⟨y, _, rfl⟩ := List.mem_map.1 hx
 exact numU_range y
end
end Go.Proofs.YtapjfgddbfneaaaGreat
