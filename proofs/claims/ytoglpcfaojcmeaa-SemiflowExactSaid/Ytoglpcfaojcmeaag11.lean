/- Am1 AmW AmZ Am0 Am4 LInv CmA CmB0 Ty MxW1 MxW2 MxW9 MxW3 MxW4 MxWA MxWB MxW7 MxWC -/
import Derived.Test.Ytoglpcfaojcmeaag10
import Derived.Test.Ytoglpcfaojcmeaag6
import Derived.Shelf.Sort.Plain
import Derived.Shelf.Slices.CompactI
import Derived.Maps.Views
import Derived.Test.YtoglpcfaojcmeaaRows
import Derived.Test.YtoglpcfaojcmeaaProg
namespace Go.AM
open Go.RowKit
inductive Tr where
 | done
 /-- an operation that only names a place: taken at once -/
 | front (j : Nat) (t : Tr)
 | one (j : Nat) (t : Tr)
 /-- an operation that only adds, taken as in a region's head -/
 | hd (j : Nat) (t : Tr)
 | alt (a b : Tr)
 /-- what bears tag a bears b from here on -/
 | retag (a b : Nat) (t : Tr)
def Tr.cover : Tr → List Nat
 | .one j _ => [j]
 | .hd j _ => [j]
 | .alt a b => a.cover ++ b.cover
 | _ => []
def readyIn (ops : Array Oper) (L : List Nat) (i : Nat) : Bool :=
 !L.contains i && match ops[i]? with
 | none => false
 | some o => (edges o).all fun k => L.contains k
def covers (ops : Array Oper) (L : List Nat) (c : List Nat) : Bool := ((List.range ops.size).any fun i => !L.contains i) && (List.range ops.size).all fun i => !readyIn ops L i || c.contains i
def trOk (ops : Array Oper) : Bool → List Nat → Tr → Bool
 | top, L, .done => top && (List.range ops.size).all fun i => L.contains i
 | top, L, .front j t => top && (readyIn ops L j && ((match ops[j]? with | some p => frontOk ops j p | none => false) && trOk ops true (j :: L) t))
 | top, L, .one j t => (!top || covers ops L [j]) && trOk ops true (j :: L) t
 | top, L, .hd j t => (!top || covers ops L [j]) && trOk ops true (j :: L) t
 | top, L, .retag _ _ t => top && trOk ops true L t
 | top, L, .alt a b => (!top || covers ops L (a.cover ++ b.cover)) && (trOk ops false L a && trOk ops false L b)
def treeOk (ops : Array Oper) (t : Tr) : Bool :=
 ((List.range ops.size).all fun i => match ops[i]? with | none => false | some o => (edges o).all fun k => decide (k < i)) && trOk ops true [] t
def evBinSc (P : Program) (op : BinOp) (T : TypeId) (x y : AV) (K : AV → Prop) : Prop :=
 match x, y with
 | .sc u, .sc v => evBin P op T u v fun r => K (.sc r)
 | _, _ => False
@[go_sem] theorem evBinSc_sc {P : Program} {op : BinOp} {T : TypeId} {u v : Value} {K : AV → Prop} : evBinSc P op T (.sc u) (.sc v) K = evBin P op T u v fun r => K (.sc r) := rfl
@[congr] theorem evBinSc_congr {P : Program} {op : BinOp} {T : TypeId} {x x' y y' : AV} {K : AV → Prop} (h1 : mkd x = x') (h : y = y') : evBinSc P op T x y K = evBinSc P op T x' y' K := by subst_vars; rfl
def frontW (P : Program) (op : Op) (σ : St) (K : AV → Prop) : Prop :=
 match op with
 | .fieldAddr T x f => evFieldAddr P T (σ.ev x) f K
 | .binOp op T x y _ => evBinSc P op T (σ.ev x) (σ.ev y) K
 | op => frontV P op σ K
theorem frontV_sound' {P : Program} {p : Oper} {σ : St} {K : AV → Prop} (h : frontV P p.op σ K) :
  ∃ y, K y ∧ ∀ (G : Nat → Status) (a : Act) (w : World), Good G w → (∀ x ∈ p.op.operands, VRel G w (σ.ev x) (a.eval x)) → ∃ v, VRel G w y v ∧ ∀ w', (execOp a.eval p).run P w' = .ok (.value v) w' := by
 unfold frontV at h
 split at h
 ·rename_i x ho
  exact ⟨_, h, fun G a w _ hv => ⟨_, hv x (by simp [ho, Op.operands]), fun w' => by simp [execOp, ho]⟩⟩
 ·rename_i T x i ho
  obtain ⟨hsl, h⟩ := h
  unfold evIndexAddr at h
  split at h
  ·rename_i k n hi
   split at h
   ·rename_i E t es xs hT hx
    obtain ⟨⟨⟨sz, by_, z⟩, hq, rfl⟩, h0, h1, hK⟩ := h
    refine ⟨_, hK, fun G a w hg hv => ?_⟩
    have hu := hv i (by simp [ho, Op.operands]); rw [hi] at hu
    have hu := hu.sc_inv
    have hv' := hv x (by simp [ho, Op.operands]); rw [hx] at hv'
    obtain ⟨ao, c, hvx, h2, h3, _, h4⟩ := hv'.sl_inv
    rcases h4 with rfl | ⟨b, off, vals, rfl, hs⟩
    ·simp at h1; omega
    ·refine ⟨.pointer (some ⟨b, off + n.toNat * sz + 0, none⟩), .pe _ _ _ _ _ _ _ c (by rw [hvx] at hv'; exact hv') (by omega), fun w' => ?_⟩
     simp [execOp, ho, hvx, hu, Instr.indexAt, asIntOf, run_underlying hT, h0, h1, run_sizeOf hq, Addr.add_none]
   ·rename_i E t xs hT hx
    obtain ⟨⟨⟨sz, by_, z⟩, hq, rfl⟩, h0, h1, hK⟩ := h
    refine ⟨_, hK, fun G a w hg hv => ?_⟩
    have hu := hv i (by simp [ho, Op.operands]); rw [hi] at hu
    have hu := hu.sc_inv
    have hv' := hv x (by simp [ho, Op.operands]); rw [hx] at hv'
    obtain ⟨ao, c, hvx, h3, _, h4⟩ := hv'.so_inv
    rcases h4 with rfl | ⟨b, vals, rfl, hs⟩
    ·simp at h1; omega
    ·refine ⟨.pointer (some ⟨b, 0 + n.toNat, none⟩), .po _ _ _ _ _ c (by rw [hvx] at hv'; exact hv') (by omega), fun w' => ?_⟩
     simp [execOp, ho, hvx, hu, Instr.indexAt, asIntOf, run_underlying hT, h0, h1, run_sizeOf hq, Addr.add_none]
   ·rename_i hx
    rw [hx] at hsl; simp [isSlice] at hsl
   ·rename_i len E hT
    exfalso
    obtain ⟨hp, _⟩ := h
    generalize σ.ev x = y at hsl hp
    cases y <;> simp [isSlice, isPtr] at hsl hp
   ·exact h.elim
  ·exact h.elim
 ·exact h.elim
theorem frontW_sound' {P : Program} {p : Oper} {σ : St} {K : AV → Prop} (h : frontW P p.op σ K) :
  ∃ y, K y ∧ ∀ (G : Nat → Status) (a : Act) (w : World), Good G w → (∀ x ∈ p.op.operands, VRel G w (σ.ev x) (a.eval x)) → ∃ v, VRel G w y v ∧ ∀ w', (execOp a.eval p).run P w' = .ok (.value v) w' := by
 unfold frontW at h
 split at h
 ·rename_i T x f ho
  obtain ⟨hp, ⟨off, ty⟩, hf, ⟨⟨sz, by_, z⟩, hq, h0⟩, hK⟩ := h
  obtain ⟨fs, fd, hT, hfd, rfl, rfl⟩ := fieldOf_some hf
  refine ⟨_, hK, fun G a w hg hv => ?_⟩
  have hvx := hv x (by simp [ho, Op.operands])
  obtain ⟨b, o, hb, ho'⟩ := hvx.ptr_inv hp
  refine ⟨.pointer (some ⟨b, o + fd.offset, none⟩), ho' _, fun w' => ?_⟩
  simp only at h0 hq
  simp [execOp, ho, hb, Instr.fieldAt, run_underlying hT, hfd, Instr.sureAddr, fieldPlace, run_sizeOf hq, h0, Addr.add_none]
 ·rename_i op T x y T' ho
  unfold evBinSc at h
  split at h
  ·rename_i u v hx hy
   obtain ⟨r, hK, hr⟩ := evBin_sound x y h
   refine ⟨_, hK, fun G a w hg hv => ⟨r, .froz (.sc _), fun w' => ?_⟩⟩
   have hu := hv x (by simp [ho, Op.operands])
   have hw := hv y (by simp [ho, Op.operands])
   rw [hx] at hu
   rw [hy] at hw
   obtain hu := hu.sc_inv
   obtain hw := hw.sc_inv
   have := hr w'
   have h2 : ((Sem.run P (eqGuard op T x y u v) w').andThen fun _ w' => Sem.run P (binOp op T u v) w') = Result.ok r w' := by simpa using this
   simp [execOp, ho, hu, hw]
   generalize Sem.run P (eqGuard op T x y u v) w' = z at h2 ⊢
   cases z <;> simp only [Result.andThen] at h2 ⊢
   all_goals first | (rw [h2]; done) | (cases h2; done) | rfl
  ·exact h.elim
 ·exact frontV_sound' h
theorem frontW_sound {P : Program} {p : Oper} {σ : St} {K : AV → Prop} (h : frontW P p.op σ K) :
  ∃ y, K y ∧ ∀ (G : Nat → Status) (a : Act) (w : World), Good G w → (∀ x, VRel G w (σ.ev x) (a.eval x)) → ∃ v, VRel G w y v ∧ ∀ w', (execOp a.eval p).run P w' = .ok (.value v) w' :=
 let ⟨y, h1, h2⟩ := frontW_sound' h
 ⟨y, h1, fun G a w hg hv => h2 G a w hg fun x _ => hv x⟩
def frA (P : Program) (o : Option Oper) (σ : St) (K : St → Prop) : Prop :=
 match o with
 | some ⟨some d, op, _, _, _, _⟩ => d < σ.n ∧ frontW P op σ fun y => K (σ.put (some d) y)
 | _ => False
def stepA (P : Program) (ops : Array Oper) (o : Option Oper) (σ : St) (K : St → Prop) : Prop :=
 match o with
 | some o => opsA P ops [o] σ K
 | none => False
def stepH (P : Program) (o : Option Oper) (σ : St) (K : St → Prop) : Prop :=
 match o with
 | some ⟨some d, op, T, pos, af, none⟩ => σ.free d = true ∧ headOp P ⟨some d, op, T, pos, af, none⟩ σ K
 | _ => False
def treeA (P : Program) (ops : Array Oper) : Tr → St → (St → Prop) → Prop
 | .done, σ, K => K σ
 | .front j t, σ, K => frA P ops[j]? σ fun σ' => treeA P ops t σ' K
 | .one j t, σ, K => stepA P ops ops[j]? σ fun σ' => treeA P ops t σ' K
 | .hd j t, σ, K => stepH P ops[j]? σ fun σ' => treeA P ops t σ' K
 | .alt a b, σ, K => treeA P ops a σ K ∧ treeA P ops b σ K
 | .retag a b t, σ, K => 2 ≤ a ∧ 2 ≤ b ∧ treeA P ops t (σ.map (retagLeaf a b)) K
section
variable {P : Program} {ops : Array Oper} {G0 : Orig} {w0 : World} {Q : Exit → Act → World → Prop}
theorem one_run {i : Nat} {o : Oper} {σ : St} {K1 : St → Prop} {KK : Act → World → Prop} {G : Nat → Status} {a : Act} {w : World} (h0 : True) (ho : ops[i]? = some o) (hw : opsA P ops [o] σ K1) (h : SRel G0 w0 σ G a w)
  (hcont : ∀ {σ' G' a' w'}, K1 σ' → SRel G0 w0 σ' G' a' w' → KK a' w') : Go.wpOp P ops Q i KK a w := by
 simp only [opsA] at hw
 simp only [Go.wpOp, ho]
 have run : ∀ {σ}, AM.wpOp P o σ K1 → SRel G0 w0 σ G a w → o.wp P a w KK Q := fun hw h =>
  wpOp_sound hw h h0 _ _ fun σ' G' a' w' hk hs => hcont hk hs
 cases hg : o.guard with
 | none =>
  simp only [hg] at hw
  rw [if_pos (by simp [Region.wanted, hg])]
  exact .inl (run hw h)
 | some p =>
  obtain ⟨j, want⟩ := p
  simp only [hg] at hw
  cases hgs : guardSlot ops j with
  | none => simp [hgs] at hw
  | some g =>
   simp only [hgs] at hw
   split at hw
   ·rename_i b hb
    have hv := h.slots g
    rw [hb] at hv
    have hy := yielded_bool hgs hv.sc_inv
    by_cases hbw : b = want
    ·subst hbw
     rw [if_pos (by simp [Region.wanted, hg, hy])]
     exact .inl (run (hw.1 rfl) (h.same hb))
    ·rw [if_neg (by simp [Region.wanted, hg, hy, hbw])]
     have hbn : b = !want := by cases b <;> cases want <;> simp_all
     obtain ⟨hdst, hw⟩ := hw.2 hbn
     have hs := (h.same (g := g) (x := .sc (.bool (!want))) (by rw [hb, hbn])).add (.refl G w) h.good (fun _ _ h => h) (d := o.dst) (x := .sc undef) (v := undef) (by rw [put_n]; exact hdst) (.froz (.sc _))
     exact hcont hw hs
   ·rename_i vs hb
    have hv := h.slots g
    rw [hb] at hv
    have hy := yielded_none hgs hv.sc_inv
    rw [if_neg (by simp [Region.wanted, hg, hy])]
    obtain ⟨hdst, hw⟩ := hw
    have hs := h.add (.refl G w) h.good (fun _ _ h => h) (d := o.dst) (x := .sc undef) (v := undef) hdst (.froz (.sc _))
    exact hcont hw hs
   ·exact hw.elim
theorem hd_run {i : Nat} {o : Oper} {σ : St} {K1 : St → Prop} {KK : Act → World → Prop} {G : Nat → Status} {a : Act} {w : World} (h0 : True) (ho : ops[i]? = some o) (hw : stepH P (some o) σ K1) (h : SRel G0 w0 σ G a w)
  (hcont : ∀ {σ' G' a' w'}, K1 σ' → SRel G0 w0 σ' G' a' w' → KK a' w') : Go.wpOp P ops Q i KK a w := by
 unfold stepH at hw
 split at hw
 ·rename_i d op T pos af hoo
  simp only [Option.some.injEq] at hoo
  subst hoo
  obtain ⟨hf, hw⟩ := hw
  obtain ⟨d', y, hd, hdn, hK, hstep⟩ := headOp_sound hw
  obtain rfl : d = d' := by simpa using hd
  obtain ⟨hs, hfr⟩ := h.fresh hf h0
  simp only [Go.wpOp, ho]
  rw [if_pos (by simp [Region.wanted])]
  exact .inl (hstep _ _ a w hs.good hs.boxes (fun _ => hfr) (fun x _ => hs.ev x) _ _ fun v w' G' g1 g2 g3 g4 =>
   hcont hK (hs.add g2 g3 g4.boxes (d := some d) (by simp [dstOk, hdn]) g1))
 ·exact hw.elim
theorem readyIn_iff {listed : Array Bool} {U : List Nat} {L : List Nat} (hl : Left ops listed U) (hlt : ∀ i o, ops[i]? = some o → ∀ k ∈ edges o, k < i) (hL : ∀ i, i < ops.size → (listed.getD i false = true ↔ L.contains i = true)) {i : Nat} :
  readyIn ops L i = true ↔ i ∈ Region.ready .any ops listed := by
 rw [ready_iff hl.size]
 unfold readyIn
 cases ho : ops[i]? with
 | none => simp
 | some o =>
  have hi := (Array.getElem?_eq_some_iff.1 ho).1
  have h1 := hL i hi
  simp only [Bool.and_eq_true, Bool.not_eq_true', List.all_eq_true, Option.some.injEq, exists_eq_left']
  refine and_congr ?_ ⟨fun h k hk => ?_, fun h k hk => ?_⟩
  ·cases hb : listed.getD i false <;> cases hc : L.contains i <;> simp_all
  ·exact (hL k (by have := hlt i o ho k hk; omega)).2 (h k hk)
  ·exact (hL k (by have := hlt i o ho k hk; omega)).1 (h k hk)
theorem of_steps {listed : Array Bool} {U : List Nat} {L c : List Nat} {a : Act} {w : World} (hl : Left ops listed U) (hlt : ∀ i o, ops[i]? = some o → ∀ k ∈ edges o, k < i) (hL : ∀ i, i < ops.size → (listed.getD i false = true ↔ L.contains i = true))
  (hc : covers ops L c = true) (h : ∀ i ∈ c, i ∈ Region.ready .any ops listed → Go.wpOp P ops Q i (wpAny P .any ops Q (U.length - 1) (listed.setIfInBounds i true)) a w) : wpAny P .any ops Q U.length listed a w := by
 simp only [covers, Bool.and_eq_true, List.any_eq_true, List.all_eq_true, List.mem_range, Bool.or_eq_true, Bool.not_eq_true'] at hc
 obtain ⟨⟨i, hi, hn⟩, hcov⟩ := hc
 have hUn : U ≠ [] := fun hU => by
  have : i ∈ U := (hl.mem i).2 ⟨hi, by
   cases hb : listed.getD i false
   ·rfl
   ·rw [(hL i hi).1 hb] at hn; cases hn⟩
  rw [hU] at this; simp at this
 obtain ⟨n, hn⟩ : ∃ n, U.length = n + 1 := ⟨U.length - 1, by have := List.length_pos_iff.2 hUn; omega⟩
 rw [hn] at h ⊢
 refine ⟨fun hr => absurd hr (some_ready hl hlt hUn), fun i hi => h i ?_ hi⟩
 obtain ⟨o, ho, _, _⟩ := (ready_iff hl.size).1 hi
 have := (hcov i (Array.getElem?_eq_some_iff.1 ho).1).resolve_left (by rw [(readyIn_iff hl hlt hL).2 hi]; simp)
 simpa using this
theorem tree_run {K : St → Prop} (h0 : True) (hlt : ∀ i o, ops[i]? = some o → ∀ k ∈ edges o, k < i) (hN : ∀ e a w, e ≠ .normal → ¬ Q e a w) (hQ : ∀ σ' G' a' w', K σ' → SRel G0 w0 σ' G' a' w' → Q .normal a' w') :
  ∀ (t : Tr) (top : Bool) (L : List Nat) (listed : Array Bool) (U : List Nat) (σ : St) (G : Nat → Status) (a : Act) (w : World), trOk ops top L t = true → Left ops listed U → Closed ops (fun k => listed.getD k false) → (∀ i, i < ops.size → (listed.getD i false = true ↔ L.contains i = true)) →
   treeA P ops t σ K → SRel G0 w0 σ G a w →
   (top = true → wpAny P .any ops Q U.length listed a w) ∧ ∀ i ∈ t.cover, i ∈ Region.ready .any ops listed → Go.wpOp P ops Q i (wpAny P .any ops Q (U.length - 1) (listed.setIfInBounds i true)) a w
 | .done, top, L, listed, U, σ, G, a, w, hok, hl, hc, hL, h, hs => by
  simp only [trOk, Bool.and_eq_true, List.all_eq_true, List.mem_range] at hok
  refine ⟨fun _ => ?_, fun i hi => by simp [Tr.cover] at hi⟩
  have hU : U = [] := by
   apply List.eq_nil_iff_forall_not_mem.2
   intro i hi
   obtain ⟨h1, h2⟩ := (hl.mem i).1 hi
   rw [(hL i h1).2 (hok.2 i h1)] at h2; cases h2
  subst hU
  refine ⟨?_, hQ σ G a w h hs⟩
  apply List.eq_nil_iff_forall_not_mem.2
  intro i hi
  obtain ⟨o, ho, h1, _⟩ := (ready_iff hl.size).1 hi
  have hlt' := (Array.getElem?_eq_some_iff.1 ho).1
  rw [(hL i hlt').2 (hok.2 i hlt')] at h1; cases h1
 | .front j t, top, L, listed, U, σ, G, a, w, hok, hl, hc, hL, h, hs => by
  simp only [trOk, Bool.and_eq_true] at hok
  obtain ⟨_, hr, hf, ht⟩ := hok
  have hready := (readyIn_iff hl hlt hL).1 hr
  refine ⟨fun _ => ?_, fun i hi => by simp [Tr.cover] at hi⟩
  obtain ⟨p, hp, k1, k2⟩ := (ready_iff hl.size).1 hready
  rw [hp] at hf
  obtain ⟨d', hfr⟩ := frontOk_front hp hf
  simp only [treeA, frA, hp] at h
  split at h
  ·rename_i d op T pos af g hj
   cases hj
   obtain ⟨hdn, h⟩ := h
   obtain rfl : d = d' := by simpa using hfr.dst
   have hjs := (Array.getElem?_eq_some_iff.1 hp).1
   have hmem : j ∈ U := (hl.mem j).2 ⟨hjs, k1⟩
   obtain ⟨l1, l2⟩ := hl.step hmem
   have hsz : j < listed.size := by rw [hl.size]; exact hjs
   obtain ⟨y, hK, hy⟩ := frontW_sound (p := ⟨some d, op, T, pos, af, g⟩) h
   obtain ⟨v, hv, hex⟩ := hy G a w hs.good (fun x => hs.ev x)
   have hrun := (tree_run h0 hlt hN hQ t true (j :: L) (listed.setIfInBounds j true) (U.erase j) (σ.put (some d) y) G (a.put (some d) v) w ht l1 (hc.step hsz hp k2) (fun i hi => by
     rw [set_getD hsz]
     by_cases hij : j = i
     ·subst hij; simp
     ·rw [if_neg hij, hL i hi]; simp [Ne.symm hij]) hK
    (hs.add (.refl G w) hs.good (fun _ _ h => h) (by simp [dstOk, hdn]) hv)).1 rfl
   rw [← l2]
   exact front_run hN hfr _ _ _ _ v hl.size hc hready hex hrun
  ·exact h.elim
 | .one j t, top, L, listed, U, σ, G, a, w, hok, hl, hc, hL, h, hs => by
  simp only [trOk, Bool.and_eq_true, Bool.or_eq_true, Bool.not_eq_true'] at hok
  have key : j ∈ Region.ready .any ops listed → Go.wpOp P ops Q j (wpAny P .any ops Q (U.length - 1) (listed.setIfInBounds j true)) a w := by
   intro hready
   obtain ⟨o, ho, k1, k2⟩ := (ready_iff hl.size).1 hready
   have hjs := (Array.getElem?_eq_some_iff.1 ho).1
   have hmem : j ∈ U := (hl.mem j).2 ⟨hjs, k1⟩
   obtain ⟨l1, l2⟩ := hl.step hmem
   have hsz : j < listed.size := by rw [hl.size]; exact hjs
   simp only [treeA, stepA, ho] at h
   refine one_run h0 ho h hs fun {σ' G' a' w'} hk hs' => ?_
   have := (tree_run h0 hlt hN hQ t true (j :: L) (listed.setIfInBounds j true) (U.erase j) σ' G' a' w' hok.2 l1 (hc.step hsz ho k2) (fun i hi => by
     rw [set_getD hsz]
     by_cases hij : j = i
     ·subst hij; simp
     ·rw [if_neg hij, hL i hi]; simp [Ne.symm hij]) hk hs').1 rfl
   rw [show U.length - 1 = (U.erase j).length by omega]
   exact this
  refine ⟨fun htop => ?_, fun i hi hr => ?_⟩
  ·refine of_steps hl hlt hL (hok.1.resolve_left (by simp [htop])) fun i hi hr => ?_
   have hij : i = j := by simpa using hi
   subst hij; exact key hr
  ·have hij : i = j := by simpa [Tr.cover] using hi
   subst hij; exact key hr
 | .hd j t, top, L, listed, U, σ, G, a, w, hok, hl, hc, hL, h, hs => by
  simp only [trOk, Bool.and_eq_true, Bool.or_eq_true, Bool.not_eq_true'] at hok
  have key : j ∈ Region.ready .any ops listed → Go.wpOp P ops Q j (wpAny P .any ops Q (U.length - 1) (listed.setIfInBounds j true)) a w := by
   intro hready
   obtain ⟨o, ho, k1, k2⟩ := (ready_iff hl.size).1 hready
   have hjs := (Array.getElem?_eq_some_iff.1 ho).1
   have hmem : j ∈ U := (hl.mem j).2 ⟨hjs, k1⟩
   obtain ⟨l1, l2⟩ := hl.step hmem
   have hsz : j < listed.size := by rw [hl.size]; exact hjs
   simp only [treeA, ho] at h
   refine hd_run h0 ho h hs fun {σ' G' a' w'} hk hs' => ?_
   have := (tree_run h0 hlt hN hQ t true (j :: L) (listed.setIfInBounds j true) (U.erase j) σ' G' a' w' hok.2 l1 (hc.step hsz ho k2) (fun i hi => by
     rw [set_getD hsz]
     by_cases hij : j = i
     ·subst hij; simp
     ·rw [if_neg hij, hL i hi]; simp [Ne.symm hij]) hk hs').1 rfl
   rw [show U.length - 1 = (U.erase j).length by omega]
   exact this
  refine ⟨fun htop => ?_, fun i hi hr => ?_⟩
  ·refine of_steps hl hlt hL (hok.1.resolve_left (by simp [htop])) fun i hi hr => ?_
   have hij : i = j := by simpa using hi
   subst hij; exact key hr
  ·have hij : i = j := by simpa [Tr.cover] using hi
   subst hij; exact key hr
 | .retag x y t, top, L, listed, U, σ, G, a, w, hok, hl, hc, hL, h, hs => by
  simp only [trOk, Bool.and_eq_true] at hok
  exact ⟨fun _ => (tree_run h0 hlt hN hQ t true L listed U _ _ a w hok.2 hl hc hL h.2.2 (hs.retag h0 h.1 h.2.1)).1 rfl, fun i hi => by simp [Tr.cover] at hi⟩
 | .alt x y, top, L, listed, U, σ, G, a, w, hok, hl, hc, hL, h, hs => by
  simp only [trOk, Bool.and_eq_true, Bool.or_eq_true, Bool.not_eq_true'] at hok
  obtain ⟨hcov, hx, hy⟩ := hok
  have ix := (tree_run h0 hlt hN hQ x false L listed U σ G a w hx hl hc hL h.1 hs).2
  have iy := (tree_run h0 hlt hN hQ y false L listed U σ G a w hy hl hc hL h.2 hs).2
  have key : ∀ i ∈ (Tr.alt x y).cover, i ∈ Region.ready .any ops listed → Go.wpOp P ops Q i (wpAny P .any ops Q (U.length - 1) (listed.setIfInBounds i true)) a w := fun i hi hr => by
   rcases List.mem_append.1 hi with hi | hi
   ·exact ix i hi hr
   ·exact iy i hi hr
  exact ⟨fun htop => of_steps hl hlt hL (hcov.resolve_left (by simp [htop])) key, key⟩
end
theorem DrawK.treeO {P : Program} {ops : Array Oper} {σ : St} {K : St → Prop} (t : Tr) (hm : P.follows .mixedOrders = true) (hok : treeOk ops t = true) (h : treeA P ops t σ K) : DrawK P ops σ K := by
 intro G0 w0 G a w id Q h0 hs hQ
 simp only [treeOk, Bool.and_eq_true, List.all_eq_true, List.mem_range] at hok
 refine wp_region_any hm (wpAny_normal _ _ _ _ ?_)
 have hgd : ∀ i, (Array.replicate ops.size false).getD i false = false := fun i => by
  by_cases hi : i < ops.size <;> simp [hi]
 have := (tree_run (P := P) (Q := fun e a w => e = .normal ∧ Q e a w) h0 (fun i o ho => by
   have := hok.1 i (Array.getElem?_eq_some_iff.1 ho).1
   rw [ho] at this
   simpa only [List.all_eq_true, decide_eq_true_eq] using this) (fun e a w hn h => hn h.1) (fun σ' G' a' w' hk hs => ⟨rfl, hQ σ' G' a' w' hk hs⟩) t true [] (Array.replicate ops.size false) (List.range ops.size) σ G a _ hok.2
   ⟨by simp, List.nodup_range, fun i => by rw [List.mem_range, hgd]; simp⟩ (fun i o _ hi => absurd (show (Array.replicate ops.size false).getD i false = true from hi) (by rw [hgd]; simp)) (fun i _ => by rw [hgd]; simp) h (hs.drawn (w.drawn + 1))).1 rfl
 simpa using this
theorem DrawK.tree {P : Program} {l : List Oper} {σ : St} {K : St → Prop} (t : Tr) (hm : P.follows .mixedOrders = true) (hok : treeOk l.toArray t = true) (h : treeA P l.toArray t σ K) : DrawK P l.toArray σ K := DrawK.treeO t hm hok h
section
variable {P : Program} {n : Nat} {t : List (Nat × AV)} {b : List (List AV)} {ops : Array Oper} {l : List Oper} {tr tr' : Tr} {j : Nat}
variable {d : Nat} {T : TypeId} {pos : String} {af : Array Edge} {g : Option (Nat × Bool)} {K : St → Prop}
@[congr] theorem frA_congr {o o' : Option Oper} {σ σ' : St} (h1 : o = o') (h : mkd σ = σ') : frA P o σ K = frA P o' σ' K := by subst_vars; rfl
@[congr] theorem stepA_congr {o o' : Option Oper} {σ σ' : St} (h1 : o = o') (h : mkd σ = σ') : stepA P ops o σ K = stepA P ops o' σ' K := by subst_vars; rfl
@[congr] theorem treeA_congr {σ σ' : St} (h : mkd σ = σ') : treeA P ops tr σ K = treeA P ops tr σ' K := by subst_vars; rfl
@[go_sem] theorem treeA_done : treeA P ops .done ⟨n, t, b⟩ K = K ⟨n, t, b⟩ := rfl
@[go_sem] theorem treeA_front : treeA P l.toArray (.front j tr) ⟨n, t, b⟩ K = frA P l[j]? ⟨n, t, b⟩ fun σ' => treeA P l.toArray tr σ' K := by rw [← List.getElem?_toArray]; rfl
@[go_sem] theorem treeA_one : treeA P l.toArray (.one j tr) ⟨n, t, b⟩ K = stepA P l.toArray l[j]? ⟨n, t, b⟩ fun σ' => treeA P l.toArray tr σ' K := by rw [← List.getElem?_toArray]; rfl
@[go_sem] theorem treeA_alt : treeA P ops (.alt tr tr') ⟨n, t, b⟩ K = andK (treeA P ops tr ⟨n, t, b⟩ K) (treeA P ops tr' ⟨n, t, b⟩ K) := rfl
@[go_sem] theorem treeA_retag {x y : Nat} : treeA P ops (.retag x y tr) ⟨n, t, b⟩ K = andK (2 ≤ x) (andK (2 ≤ y) (treeA P ops tr (St.map ⟨n, t, b⟩ (retagLeaf x y)) K)) := rfl
@[go_sem] theorem stepA_some {o : Oper} : stepA P ops (some o) ⟨n, t, b⟩ K = opsA P ops [o] ⟨n, t, b⟩ K := rfl
@[congr] theorem stepH_congr {o o' : Option Oper} {σ σ' : St} (h1 : o = o') (h : mkd σ = σ') : stepH P o σ K = stepH P o' σ' K := by subst_vars; rfl
@[go_sem] theorem treeA_hd : treeA P l.toArray (.hd j tr) ⟨n, t, b⟩ K = stepH P l[j]? ⟨n, t, b⟩ fun σ' => treeA P l.toArray tr σ' K := by rw [← List.getElem?_toArray]; rfl
@[go_sem] theorem stepH_some {op : Op} : stepH P (some ⟨some d, op, T, pos, af, none⟩) ⟨n, t, b⟩ K = andK (St.free ⟨n, t, b⟩ d = true) (headOp P ⟨some d, op, T, pos, af, none⟩ ⟨n, t, b⟩ K) := rfl
@[go_sem] theorem frA_move {x : Operand} : frA P (some ⟨some d, .move x, T, pos, af, g⟩) ⟨n, t, b⟩ K = andK (d < n) (K (St.put ⟨n, t, b⟩ (some d) (St.ev ⟨n, t, b⟩ x))) := rfl
@[go_sem] theorem frA_binOp {op : BinOp} {T' T'' : TypeId} {x y : Operand} : frA P (some ⟨some d, .binOp op T' x y T'', T, pos, af, g⟩) ⟨n, t, b⟩ K = andK (d < n) (evBinSc P op T' (St.ev ⟨n, t, b⟩ x) (St.ev ⟨n, t, b⟩ y) fun r => K (St.put ⟨n, t, b⟩ (some d) r)) := rfl
@[go_sem] theorem frA_fieldAddr {T' : TypeId} {x : Operand} {f : Nat} : frA P (some ⟨some d, .fieldAddr T' x f, T, pos, af, g⟩) ⟨n, t, b⟩ K = andK (d < n) (evFieldAddr P T' (St.ev ⟨n, t, b⟩ x) f fun r => K (St.put ⟨n, t, b⟩ (some d) r)) := rfl
@[go_sem] theorem frA_indexAddr {T' : TypeId} {x i : Operand} : frA P (some ⟨some d, .indexAddr T' x i, T, pos, af, g⟩) ⟨n, t, b⟩ K = andK (d < n) (andK (isSlice (St.ev ⟨n, t, b⟩ x) = true) (evIndexAddr P T' (St.ev ⟨n, t, b⟩ x) (St.ev ⟨n, t, b⟩ i) fun r => K (St.put ⟨n, t, b⟩ (some d) r))) := by simp [frA, frontW, frontV, andK]
end
def EffC (P : Program) (σ0 : St) (i0 : Nat) (o : Oper) (d : Nat) (ρ : Operand → AV) (c : List AV) (y : AV) (c' : List AV) : Prop :=
 o.guard = none ∧ ∃ fid args As r c1, o.op = .call { callee := .value (.func fid), args := args, argTypes := As } ∧ dedup (pbss (args.toList.map ρ)) = [i0] ∧ allLeafs noTag (args.toList.map ρ) = true ∧ allNoTags [c] = true ∧
  Con P fid (mapTops (pbIn [i0]) (args.toList.map ρ)) (mapB (pbIn [i0]) [c]) (fun r' bx => r' = r ∧ bx = [c1]) ∧ r.allLeaf lt64b = true ∧ allNoTags [c1] = true ∧
  y = r.mapTop (outLeaf (64 * (d + 1)) [i0] σ0.boxes.length) ∧ [c'] = mapB (outLeaf (64 * (d + 1)) [i0] σ0.boxes.length) [c1]
def blankC : List Nat → List AV → List AV
 | [], c => c
 | _ :: _, c => c.map fun _ => .any
section
variable {P : Program} {ops : Array Oper} {m : Nat} {vs : List (Nat × AV)} {E : List Nat} {C : Nat → List AV} {i0 : Nat} {σ : St} {K : St → Prop} {G0 : Orig} {w0 : World} {Q : Exit → Act → World → Prop}
def sgA (P : Program) (ops : Array Oper) (sg : Option (Nat × Tr)) (σ : St) (K : St → Prop) : Prop := match sg with
 | none => True
 | some (x, t) => match ops[x]? with
  | some o => ∃ d, o.dst = some d ∧ treeA P ops t (σ.put (some d) .any) K
  | none => False
end
def EffK (P : Program) (n0 i0 : Nat) (o : Oper) (σ : St) (c : List AV) (K : St → List AV → Prop) : Prop :=
 ∃ d y c', o.dst = some d ∧ d < σ.n ∧ EffC P ⟨0, [], List.replicate n0 []⟩ i0 o d σ.ev c y c' ∧ c'.length = c.length ∧ allLeafs noTag c' = true ∧ K (σ.put (some d) y) c'
def frB (P : Program) (o : Oper) (σ : St) (K : St → Prop) : Prop := frA P (some o) σ K
section
variable {P : Program} {ops : Array Oper} {n0 i0 : Nat} {E LF : List Nat}
def freeBut (d : Nat) : List (Nat × AV) → Bool
 | [] => true
 | (s, v) :: r => (s == d || v.allLeaf (freeLeaf d)) && freeBut d r
def freeOthers (l : List (Nat × AV)) : List Nat → Bool
 | [] => true
 | d :: r => freeBut d l && freeOthers l r
end
def renO (π : List Nat) (o : Oper) : Oper := ⟨o.dst, o.op, o.type, o.pos, o.after.map fun e => ⟨π.idxOf e.on, e.ground⟩, o.guard.map fun p => (π.idxOf p.1, p.2)⟩
def permG (π : List Nat) (l : List Oper) : List Nat → List Oper
 | [] => []
 | i :: r => match l[i]? with
  | some o => renO π o :: permG π l r
  | none => []
def headX (P : Program) (ops : Array Oper) (n0 i0 : Nat) (E LF ds : List Nat) (tr : Tr) (sg : Option (Nat × Tr)) : Nat → Nat → List Oper → St → List AV → (St → Prop) → Prop
 | _, 0, _, σ, c, K => freeOthers σ.tmps ds = true ∧ (treeA P ops tr { σ with boxes := σ.boxes.set i0 c } K ∧ sgA P ops sg { σ with boxes := σ.boxes.set i0 c } K)
 | _, _ + 1, [], σ, c, K => freeOthers σ.tmps ds = true ∧ (treeA P ops tr { σ with boxes := σ.boxes.set i0 c } K ∧ sgA P ops sg { σ with boxes := σ.boxes.set i0 c } K)
 | k, m + 1, o :: r, σ, c, K => if E.contains k = true then EffK P n0 i0 o σ c fun σ' c' => headX P ops n0 i0 E LF ds tr sg (k + 1) m r σ' c' K else if LF.contains k = true then frB P o σ fun σ' => headX P ops n0 i0 E LF ds tr sg (k + 1) m r σ' c K else headG P ops o σ fun σ' => headX P ops n0 i0 E LF ds tr sg (k + 1) m r σ' c K
section
variable {P : Program} {n : Nat} {t : List (Nat × AV)} {b : List (List AV)} {ops : Array Oper} {n0 i0 k m : Nat} {E LF ds : List Nat} {tr : Tr} {sg : Option (Nat × Tr)} {l : List Oper} {c : List AV} {K : St → Prop}
variable {d : Nat} {T : TypeId} {pos : String} {af : Array Edge} {g : Option (Nat × Bool)}
@[congr] theorem headX_congr {n0' k' : Nat} {σ σ' : St} {c' : List AV} (h0 : n0 = n0') (h1 : k = k') (h : mkd σ = σ') (h2 : c = c') : headX P ops n0 i0 E LF ds tr sg k m l σ c K = headX P ops n0' i0 E LF ds tr sg k' m l σ' c' K := by subst_vars; rfl
@[congr] theorem EffK_congr {n0' : Nat} {o : Oper} {σ σ' : St} {c' : List AV} {K : St → List AV → Prop} (h0 : n0 = n0') (h : mkd σ = σ') (h2 : c = c') : EffK P n0 i0 o σ c K = EffK P n0' i0 o σ' c' K := by subst_vars; rfl
@[congr] theorem frB_congr {o : Oper} {σ σ' : St} {K : St → Prop} (h : mkd σ = σ') : frB P o σ K = frB P o σ' K := by subst_vars; rfl
@[go_sem] theorem frB_eq {o : Oper} : frB P o ⟨n, t, b⟩ K = frA P (some o) ⟨n, t, b⟩ K := rfl
@[go_sem] theorem headX_zero : headX P ops n0 i0 E LF ds tr sg k 0 l ⟨n, t, b⟩ c K = andK (freeOthers t ds = true) (andK (treeA P ops tr ⟨n, t, b.set i0 c⟩ K) (sgA P ops sg ⟨n, t, b.set i0 c⟩ K)) := by cases l <;> rfl
@[go_sem] theorem headX_nil : headX P ops n0 i0 E LF ds tr sg k (m + 1) [] ⟨n, t, b⟩ c K = andK (freeOthers t ds = true) (andK (treeA P ops tr ⟨n, t, b.set i0 c⟩ K) (sgA P ops sg ⟨n, t, b.set i0 c⟩ K)) := rfl
@[go_sem] theorem headX_succ {dst : Option Tmp} {op : Op} : headX P ops n0 i0 E LF ds tr sg k (m + 1) (⟨dst, op, T, pos, af, none⟩ :: l) ⟨n, t, b⟩ c K = selK (E.contains k) (EffK P n0 i0 ⟨dst, op, T, pos, af, none⟩ ⟨n, t, b⟩ c fun σ' c' => headX P ops n0 i0 E LF ds tr sg (k + 1) m l σ' c' K)
  (selK (LF.contains k) (frB P ⟨dst, op, T, pos, af, none⟩ ⟨n, t, b⟩ fun σ' => headX P ops n0 i0 E LF ds tr sg (k + 1) m l σ' c K) (headOp P ⟨dst, op, T, pos, af, none⟩ ⟨n, t, b⟩ fun σ' => headX P ops n0 i0 E LF ds tr sg (k + 1) m l σ' c K)) := by rw [selK_ite, selK_ite]; rfl
def sgD (P : Program) (ops : Array Oper) (o : Option Oper) (tr : Tr) (σ : St) (K : St → Prop) : Prop := match o with
 | some ⟨some d, _, _, _, _, _⟩ => treeA P ops tr (σ.put (some d) .any) K
 | _ => False
@[congr] theorem sgA_congr {σ σ' : St} (h : mkd σ = σ') : sgA P ops sg σ K = sgA P ops sg σ' K := by subst_vars; rfl
@[congr] theorem sgD_congr {o o' : Option Oper} {σ σ' : St} (h1 : o = o') (h : mkd σ = σ') : sgD P ops o tr σ K = sgD P ops o' tr σ' K := by subst_vars; rfl
@[go_sem] theorem sgA_none : sgA P ops none ⟨n, t, b⟩ K = True := rfl
@[go_sem] theorem sgD_some {op : Op} : sgD P ops (some ⟨some d, op, T, pos, af, g⟩) tr ⟨n, t, b⟩ K = treeA P ops tr (St.put ⟨n, t, b⟩ (some d) .any) K := rfl
def consO (o : Option Oper) (r : List Oper) : List Oper := match o with
 | some o => o :: r
 | none => []
@[go_sem] theorem consO_some {o : Oper} {r : List Oper} : consO (some o) r = o :: r := rfl
@[go_sem] theorem permG_nil {π : List Nat} : permG π l [] = [] := rfl
@[go_sem] theorem renO_mk {π : List Nat} {dst : Option Tmp} {op : Op} : renO π ⟨dst, op, T, pos, af, none⟩ = ⟨dst, op, T, pos, af.map fun e => ⟨π.idxOf e.on, e.ground⟩, none⟩ := rfl
attribute [go_sem] freeOthers freeBut blankC
end
end Go.AM
namespace Go.AM
open Go.RowKit Go.Proofs Go.Shelf
end Go.AM
namespace Go.AM
open Go Go.Proofs Go.RowKit
theorem wrap_in {n : Int} (h1 : -9223372036854775808 ≤ n) (h2 : n ≤ 9223372036854775807) : IntKind.i64.wrap n = n := by rw [IntKind.wrap_i64]; omega
def vi (x : Int) : AV := .sc (.int .i64 x)
def vu (x : Int) : AV := .sc (.int .u8 x)
def vs (t : Nat) (l : List Int) : AV := .sl t 1 (l.map vi)
theorem getv {l : List Int} {i : Nat} (h : i < l.length) : (l.map vi)[i]? = some (.sc (.int .i64 l[i]!)) := by simp [vi, h]
def findI {α : Type} (p : α → Bool) (l : List α) : Int := match l.findIdx? p with | some i => i | none => -1
theorem findI_stop {α : Type} [Inhabited α] {p : α → Bool} {l : List α} {i : Nat} (h : i < l.length) (hb : ∀ j, j < i → p l[j]! = false) (hp : p l[i]! = true) : findI p l = i := by
 have : l.findIdx? p = some i := by
  rw [List.findIdx?_eq_some_iff_getElem]
  refine ⟨h, by simpa [h] using hp, fun j hj => ?_⟩
  have := hb j hj
  have hjl : j < l.length := by omega
  simpa [hjl] using this
 simp [findI, this]
theorem findI_none {α : Type} [Inhabited α] {p : α → Bool} {l : List α} (hb : ∀ j, j < l.length → p l[j]! = false) : findI p l = -1 := by
 have : l.findIdx? p = none := by
  rw [List.findIdx?_eq_none_iff]
  intro x hx
  obtain ⟨j, hj⟩ := List.getElem?_of_mem hx
  have hjl := (List.getElem?_eq_some_iff.1 hj).1
  have := hb j hjl
  have e : l[j]! = x := by simp [hj]
  rw [e] at this; exact this
 simp [findI, this]
theorem findI_ge {α : Type} (p : α → Bool) (l : List α) : decide (0 ≤ findI p l) = l.any p := by
 unfold findI
 cases h : l.findIdx? p with
 | none =>
  rw [List.findIdx?_eq_none_iff] at h
  have : l.any p = false := by simpa using h
  simp [this]
 | some i =>
  rw [List.findIdx?_eq_some_iff_getElem] at h
  obtain ⟨h1, h2, _⟩ := h
  have : l.any p = true := List.any_eq_true.2 ⟨l[i], List.getElem_mem _, h2⟩
  simp [this]
theorem mem_bang {α : Type} [Inhabited α] {l : List α} {i : Nat} (h : i < l.length) : l[i]! ∈ l := by rw [getElem!_pos l i h]; exact List.getElem_mem _
def vb (b : Bool) : AV := .sc (.bool b)
attribute [go_sem] vi vu vs vb
def vbl (t : Nat) (row : List Bool) : AV := .sl t 1 (row.map vb)
theorem modify_vi {Z : List Int} {q : Nat} {x : Int} : (List.map vi Z).modify q (updElem 0 [AV.sc (.int .i64 x)]) = List.map vi (Z.set q x) := by
 apply List.ext_getElem?
 intro j
 rw [List.getElem?_modify, List.getElem?_map, List.getElem?_map, List.getElem?_set]
 by_cases hq : q = j
 ·subst hq
  by_cases hl : q < Z.length
  ·simp [hl, vi, updElem]
  ·simp [hl]
 ·simp [hq]
attribute [go_sem] vbl
inductive CV where
 | mk (n : Int) (kids : List CV)
 deriving Inhabited
def CV.n : CV → Int
 | .mk n _ => n
def CV.kids : CV → List CV
 | .mk _ k => k
mutual
def vV : CV → AV
 | .mk n kids => .ag [vi n, .sl 0 2 (vVs kids)]
def vVs : List CV → List AV
 | [] => []
 | x :: l => vV x :: vVs l
end
def ordI (a b : Int) : Int := if a < b then -1 else if b < a then 1 else 0
theorem ordI_zero {a b : Int} : ordI a b = 0 ↔ a = b := by unfold ordI; split <;> (try split) <;> omega
theorem share3 {body : (Exit → St → Prop) → St → Prop} {Q : Exit → St → Prop} {T : St → Prop} {A : Prop} (h : (∀ τ, T τ → LoopK body Q τ) → A) (key : ∀ τ, T τ → LoopK body Q τ) : A := h key
end Go.AM
namespace Go.AM
structure RD where
 name : ByteArray
 src : Int
 dst : Int
 need : List Int
 give : List Int
 move : List Int
 channel : Int := 0
 act : Int := 0
 letter : Int := 0
 path : List Int := []
 next : List Int := []
 takes : List (Int × Int × Int) := []
 makes : List Int := []
 second : Int := 0
 deriving Inhabited
structure AtomD where
 coefs : List Int
 mod : Int
 values : List Int
 deriving Inhabited
end Go.AM
namespace Go.AM
open Go Go.Proofs Go.RowKit
def vStr (s : ByteArray) : AV := .sc (.string s)
def vss (l : List ByteArray) : AV := .sl 0 1 (l.map vStr)
def vTake (t : Int × Int × Int) : AV := .ag [vi t.1, vi t.2.1, vi t.2.2]
def vRule (r : RD) : AV := .ag [vStr r.name, vi r.src, vi r.dst, vs 0 r.need, vs 0 r.give, vs 0 r.move, vi r.channel, vi r.act, vi r.letter, vs 0 r.path, vs 0 r.next, .sl 0 3 (r.takes.map vTake), vs 0 r.makes, vi r.second]
structure MD where
 kind : Int
 states : List ByteArray
 places : List ByteArray
 letters : List ByteArray := []
 ranks : List Int := []
 levels : Int := 0
 age : Int := 0
 rules : List RD
 start : CV
 deriving Inhabited
def cM (m : MD) : List AV := [vi m.kind, vss m.states, vss m.places, vss m.letters, vs 0 m.ranks, vi m.levels, vi m.age, .sl 0 14 (m.rules.map vRule), vi m.start.n, .sl 0 2 (m.start.kids.map vV)]
def vM (m : MD) : AV := .ag (cM m)
end Go.AM
namespace Go.Proofs.Ytoglpcfaojcmeaa
open Go.ChangeShapes Go.WideShapes Go.ChangeAt Go.RowKit Go.AM
theorem own : ownKnob Try.prog.godebug = none := by kernel_rfl
theorem laidOut : laidOutB Try.prog = true := by kernel_rfl
section
variable {H : Type} {enc : TypeId × Value → H} {P : Program} {w : World} {base : Nat} {spare : Nat → Bool} {held : Bool}
theorem row_len {α : Type} {t e : TypeId} {f : DataW H → α} {v : Value} {d : DataW H} {ps : List MemPlace} (ht : P.underlying t = some (.slice e)) (hc : P.cellsOf e = 1) (h1 : v.cells.toList = [v]) (h : DataW.Trod enc P w base spare held t v d ps) : (rowOf f d).length ≤ 9223372036854775807 := by
 obtain ⟨n, h⟩ := h
 rw [h1] at h
 rcases Go.Deep.open_slice1 ht hc h with ⟨_, h2⟩ | ⟨a, len, cap, m, n', V, D, Pl, _, _, hl, hm, _, h2, _⟩
 ·simp only [Prod.mk.injEq] at h2
  obtain ⟨rfl, _⟩ := h2
  simp [rowOf]
 ·simp only [Prod.mk.injEq] at h2
  obtain ⟨rfl, _⟩ := h2
  simp only [rowOf, List.length_map, List.length_range]
  unfold maxLen at hm; omega
end
end Go.Proofs.Ytoglpcfaojcmeaa
namespace Go.AM
open Go Go.Proofs
theorem tinfo_3 : tinfo Try.prog 3 = some (1, 8, some (Value.int IntKind.i64 (0))) := by kernel_rfl
theorem agg_3 : aggT Try.prog 3 = some false := by kernel_rfl
theorem tinfo_22 : tinfo Try.prog 22 = some (1, 24, some (Value.slice none 0 0)) := by kernel_rfl
theorem agg_22 : aggT Try.prog 22 = some false := by kernel_rfl
theorem tinfo_23 : tinfo Try.prog 23 = some (1, 24, some (Value.slice none 0 0)) := by kernel_rfl
theorem agg_23 : aggT Try.prog 23 = some false := by kernel_rfl
theorem tinfo_47 : tinfo Try.prog 47 = some (1, 8, some (Value.int IntKind.u64 (0))) := by kernel_rfl
theorem agg_47 : aggT Try.prog 47 = some false := by kernel_rfl
theorem tinfo_49 : tinfo Try.prog 49 = some (3, 40, some (Value.agg (List.toArray [Value.slice none 0 0, Value.int IntKind.i64 (0), Value.int IntKind.u64 (0)]))) := by kernel_rfl
theorem places_49 : placesOf Try.prog 49 = some [(0, 1), (1, 1), (2, 1)] := by kernel_rfl
theorem field_49_0 : fieldOf Try.prog 49 0 = some (0, 22) := by kernel_rfl
theorem field_49_1 : fieldOf Try.prog 49 1 = some (1, 3) := by kernel_rfl
theorem field_49_2 : fieldOf Try.prog 49 2 = some (2, 47) := by kernel_rfl
theorem mixed : Try.prog.follows .mixedOrders = true := by kernel_rfl
attribute [go_sem] Try.underlying0 Try.underlying1 Try.underlying2 tinfo_3 agg_3 Try.underlying3 Try.underlying4 Try.underlying5 Try.underlying6 Try.underlying7 Try.underlying8 Try.underlying9 Try.underlying10 Try.underlying11 Try.underlying12 Try.underlying13 Try.underlying14 Try.underlying15 Try.underlying16 Try.underlying17 Try.underlying18 Try.underlying19 Try.underlying20 Try.underlying21 tinfo_22 agg_22 Try.underlying22 tinfo_23 agg_23 Try.underlying23 Try.underlying24 Try.underlying25 Try.underlying26 Try.underlying27 Try.underlying28 Try.underlying29 Try.underlying30 Try.underlying31 Try.underlying32 Try.underlying33 Try.underlying34 Try.underlying35 Try.underlying36 Try.underlying37 Try.underlying38 Try.underlying39 Try.underlying40 Try.underlying41 Try.underlying42 Try.underlying43 Try.underlying44 Try.underlying45 Try.underlying46 tinfo_47 agg_47 Try.underlying47 Try.underlying48 tinfo_49 Try.underlying49 Try.underlying50 Try.underlying51 Try.underlying52 Try.underlying53 Try.underlying54 Try.underlying55 Try.underlying56 Try.underlying57 Try.underlying58 Try.underlying59 Try.underlying60 Try.underlying61 Try.underlying62 Try.underlying63 Try.underlying64 Try.underlying65 Try.underlying66 Try.underlying67 Try.underlying68 Try.underlying69 Try.underlying70 Try.underlying71 Try.underlying72 Try.underlying73 Try.underlying74 Try.underlying75 Try.underlying76 Try.underlying77 Try.underlying78 Try.underlying79 Try.underlying80 Try.underlying81 Try.underlying82 Try.underlying83 Try.underlying84 Try.underlying85 Try.underlying86 Try.underlying87 Try.underlying88 Try.underlying89 Try.underlying90 Try.underlying91 Try.underlying92 Try.underlying93 Try.underlying94 Try.underlying95 Try.underlying96 Try.underlying97 Try.underlying98 Try.underlying99 Try.underlying100 Try.underlying101 Try.underlying102 Try.underlying103 Try.underlying104 Try.underlying105 Try.underlying106 Try.underlying107 Try.underlying108 Try.underlying109 Try.underlying110 Try.underlying111 Try.underlying112 places_49 field_49_0 field_49_1 field_49_2
end Go.AM
namespace Go.AM
open Go Go.Proofs Go.RowKit
set_option maxRecDepth 100000
def vm (t : Nat) (m : List (List Int)) : AV := .sl t 1 (m.map (vs 0))
attribute [go_sem] vm
theorem getm {l : List (List Int)} {i : Nat} (h : i < l.length) : (l.map (vs 0))[i]? = some (.sl 0 1 (l[i]!.map vi)) := by simp [vs, h]
def w64 (x : Int) : Int := IntKind.i64.wrap x
theorem con_amount (x : Int) : Con Try.prog 73 [vi x] [] fun r _ => r = vi (max x (w64 (-x))) := by
 refine Con.intro Try.func73 rfl Try.ntmps73 Try.results73 (by kernel_rfl) (by simp) 0 (by simp) ?_
 simp only [go_sem, w64, Int.zero_sub]
theorem con_few (l : List Int) (t : Nat) (_ht : t < 2) : Con Try.prog 9 [vs t l] [] fun r _ => r = .sc (.bool (decide (l.length ≤ 400))) := by
 refine Con.intro Try.func9 rfl Try.ntmps9 Try.results9 (by kernel_rfl) (by simp) 0 (by simp) ?_
 simp only [go_sem]
def lawBad (x : Int) : Bool := decide (x < -16) || decide (16 < x)
theorem con_mxCheck1 (x : Int) : Con Try.prog 59 [vi x] [] fun r _ => r = .sc (.bool (lawBad x)) := by
 refine Con.intro Try.func59 rfl Try.ntmps59 Try.results59 (by kernel_rfl) (by simp) 0 (by simp) ?_
 by_cases h : x < -16 <;> simp only [go_sem, h, lawBad]
theorem con_mxIndex (l : List Int) (v : Int) (hl : l.length ≤ 9223372036854775806) : Con Try.prog 90 [vs 0 l, vi v] [] fun r _ => r = vi (findI (fun x => v == x) l) := by
 refine Con.intro Try.func90 rfl Try.ntmps90 Try.results90 (by kernel_rfl) (by simp) 0 (by simp) ?_
 simp only [go_sem]
 refine LoopK.intro (fun i : Nat => ⟨19, [(0, .sl 0 1 (l.map vi)), (1, .sc (.int .i64 v)), (7, .sc (.int .i64 l.length)), (8, .sc (.int .i64 i))], []⟩)
  (fun i => l.length - i) (fun i => i ≤ l.length ∧ ∀ j, j < i → (v == l[j]!) = false) 0 ⟨by omega, fun j hj => by omega⟩ ?_ ?_
 ·simp only [go_sem]
 ·rintro i ⟨hi, hb⟩
  by_cases h : i < l.length
  ·have hg := getv h
   have hw : IntKind.i64.wrap (i + 1) = i + 1 := wrap_in (by omega) (by omega)
   cases hp : (v == l[i]!)
   ·simp only [go_sem, h, hg, hw, hp]
    refine roundK.intro (i + 1) ⟨by omega, fun j hj => ?_⟩ (by omega) ?_
    ·by_cases hji : j = i
     ·subst hji; exact hp
     ·exact hb j (by omega)
    ·simp only [go_sem]
   ·simp only [go_sem, h, hg, hp]
    rw [findI_stop h hb hp]
  ·simp only [go_sem, h]
   rw [findI_none (fun j hj => hb j (by omega))]
   
theorem con_mxContains (l : List Int) (v : Int) (hl : l.length ≤ 9223372036854775806) : Con Try.prog 72 [vs 0 l, vi v] [] fun r _ => r = .sc (.bool (l.any fun x => v == x)) := by
 refine Con.intro Try.func72 rfl Try.ntmps72 Try.results72 (by kernel_rfl) (by simp) 0 (by simp) ?_
 simp only [go_sem]
 refine CallU.free (con_mxIndex l v hl) (by simp only [go_sem]) (by simp only [go_sem]) ?_
 rintro r bx rfl
 simp only [go_sem, findI_ge]
def Tells (f : FuncId) (p : Int → Bool) : Prop := ∀ x, Con Try.prog f [vi x] [] fun r _ => r = .sc (.bool (p x))
theorem con_indexFunc (l : List Int) (f : FuncId) (p : Int → Bool) (hf : Tells f p) (hl : l.length ≤ 9223372036854775806) : Con Try.prog 69 [vs 0 l, .fn f []] [] fun r _ => r = vi (findI p l) := by
 refine Con.intro Try.func69 rfl Try.ntmps69 Try.results69 (by kernel_rfl) (by simp) 0 (by simp) ?_
 simp only [go_sem]
 refine LoopK.intro (fun i : Nat => ⟨19, [(0, .sl 0 1 (l.map vi)), (1, .fn f []), (7, .sc (.int .i64 l.length)), (8, .sc (.int .i64 i))], []⟩)
  (fun i => l.length - i) (fun i => i ≤ l.length ∧ ∀ j, j < i → p l[j]! = false) 0 ⟨by omega, fun j hj => by omega⟩ ?_ ?_
 ·simp only [go_sem]
 ·rintro i ⟨hi, hb⟩
  by_cases h : i < l.length
  ·have hg := getv h
   have hw : IntKind.i64.wrap (i + 1) = i + 1 := wrap_in (by omega) (by omega)
   simp only [go_sem, h, hg]
   refine CallU.free (hf l[i]!) (by simp only [go_sem]) (by simp only [go_sem]) ?_
   rintro r bx rfl
   cases hp : p l[i]!
   ·simp only [go_sem, hw]
    refine roundK.intro (i + 1) ⟨by omega, fun j hj => ?_⟩ (by omega) ?_
    ·by_cases hji : j = i
     ·subst hji; exact hp
     ·exact hb j (by omega)
    ·simp only [go_sem]
   ·simp only [go_sem]
    rw [findI_stop h hb hp]
  ·simp only [go_sem, h]
   rw [findI_none (fun j hj => hb j (by omega))]
theorem con_containsFunc (l : List Int) (f : FuncId) (p : Int → Bool) (hf : Tells f p) (hl : l.length ≤ 9223372036854775806) : Con Try.prog 54 [vs 0 l, .fn f []] [] fun r _ => r = .sc (.bool (l.any p)) := by
 refine Con.intro Try.func54 rfl Try.ntmps54 Try.results54 (by kernel_rfl) (by simp) 0 (by simp) ?_
 simp only [go_sem]
 refine CallU.free (con_indexFunc l f p hf hl) (by simp only [go_sem]) (by simp only [go_sem]) ?_
 rintro r bx rfl
 simp only [go_sem, findI_ge]
theorem Con.le {P : Program} {f : FuncId} {args : List AV} {bx : List (List AV)} {post post' : AV → List (List AV) → Prop} (h : Con P f args bx post) (hp : ∀ r b, post r b → ∃ r', leV r r' ∧ post' r' b) : Con P f args bx post' :=
 ⟨h.1, fun G w vs h1 h2 h3 h4 h5 => (h.2 G w vs h1 h2 h3 h4 h5).mono fun e w' ⟨v, r, bx', G', he, hq, hr, rest⟩ => by
  obtain ⟨r', hl, hq'⟩ := hp r bx' hq
  exact ⟨v, r', bx', G', he, hq', hr.le hl, rest⟩⟩
theorem con_clip (l : List Int) : Con Try.prog 88 [vs 0 l] [] fun r _ => r = vs 1 l := by
 refine Con.intro Try.func88 rfl Try.ntmps88 Try.results88 (by kernel_rfl) (by simp) 0 (by simp) ?_
 simp only [go_sem]
 exact ⟨Nat.le_refl _, by rw [List.take_of_length_le (by simp)]⟩
theorem con_mxClone (l : List Int) (hl : l.length ≤ 1000000) : Con Try.prog 74 [vs 0 l] [] fun r _ => r = vs 2 l := by
 refine Con.le (post := fun r _ => r = .nil ∧ l = [] ∨ r = vs 2 l) ?_ (fun r b h => ⟨vs 2 l, by rcases h with ⟨rfl, rfl⟩ | rfl; exact leV_nil 2 1; exact leV_refl _, rfl⟩)
 refine Con.intro Try.func74 rfl Try.ntmps74 Try.results74 (by kernel_rfl) (by simp) 0 (by simp) ?_
 cases l with
 | nil =>
  simp only [go_sem]
  simp [roomFor]
 | cons x l =>
  simp only [go_sem]
  simp [roomFor]; simp at hl; omega
theorem con_mxGrow (n : Nat) (hn : n ≤ 1000000) : Con Try.prog 97 [.nil, vi n] [] fun r _ => r = vs 2 [] := by
 refine Con.le (post := fun r _ => r = .nil ∨ r = vs 2 []) ?_ (fun r b h => ⟨vs 2 [], by rcases h with rfl | rfl; exact leV_nil 2 1; exact leV_refl _, rfl⟩)
 refine Con.intro Try.func97 rfl Try.ntmps97 Try.results97 (by kernel_rfl) (by simp) 0 (by simp) ?_
 have hw0 : IntKind.i64.wrap 0 = 0 := wrap_in (by omega) (by omega)
 by_cases h : n = 0
 ·subst h
  simp only [go_sem, hw0, Int.sub_zero, true_or]
 ·have hz : ¬ n < 0 := by omega
  have hw : IntKind.i64.wrap (n : Int) = n := wrap_in (by omega) (by omega)
  have hp : 0 < n := by omega
  simp only [go_sem, hz, hw, hw0, hp, Int.sub_zero]
  exact ⟨by omega, by omega, .inr trivial⟩
def bound (m : List (List Int)) : Prop := m.length ≤ 1000 ∧ ∀ row ∈ m, row.length ≤ 1000
def totalN (m : List (List Int)) : Nat → Nat
 | 0 => 0
 | k + 1 => totalN m k + m[k]!.length
theorem totalN_le {m : List (List Int)} (hb : bound m) : ∀ k, k ≤ m.length → totalN m k ≤ k * 1000
 | 0, _ => by simp [totalN]
 | k + 1, hk => by
  have := totalN_le hb k (by omega)
  have := hb.2 m[k]! (by simp [show k < m.length by omega])
  simp only [totalN]; omega
theorem con_mxConcat (m : List (List Int)) (hb : bound m) : Con Try.prog 89 [vm 0 m] [] fun r _ => r = vs 2 m.flatten := by
 refine Con.intro Try.func89 rfl Try.ntmps89 Try.results89 (by kernel_rfl) (by simp) 0 (by simp) ?_
 have hm := hb.1
 simp only [go_sem]
 refine LoopK.intro (fun i : Nat => ⟨36, [(0, .sl 0 1 (m.map (vs 0))), (3, .sc (.int .i64 (totalN m i))), (9, .sl 0 1 (m.map (vs 0))), (10, .sc (.int .i64 m.length)), (11, .sc (.int .i64 i))], []⟩)
  (fun i => m.length - i) (fun i => i ≤ m.length) 0 (by omega) ?_ ?_
 ·simp only [go_sem, totalN]
 intro i hi
 by_cases h : i < m.length
 ·have hg := getm h
  have ht := totalN_le hb i hi
  have hr := hb.2 m[i]! (by simp [h])
  have hw : IntKind.i64.wrap (i + 1) = i + 1 := wrap_in (by omega) (by omega)
  have hw2 : IntKind.i64.wrap ((totalN m i : Int) + m[i]!.length) = ((totalN m (i + 1) : Nat) : Int) := by rw [wrap_in (by omega) (by omega)]; simp [totalN]
  have hnn : ¬ totalN m (i + 1) < 0 := by omega
  simp only [go_sem, h, hg, hw, hw2, hnn]
  refine roundK.intro (i + 1) (by omega) (by omega) ?_
  simp only [go_sem]
 simp only [go_sem, h]
 have htot := totalN_le hb i hi
 refine CallU.free (con_mxGrow (totalN m i) (by omega)) (by simp only [go_sem]) (by simp only [go_sem]) ?_
 rintro r bx rfl
 simp only [go_sem]
 refine LoopK.intro (fun k : Nat => ⟨36, [(6, .sl 1602 1 ((m.take k).flatten.map vi)), (25, .sl 0 1 (m.map (vs 0))), (26, .sc (.int .i64 m.length)), (27, .sc (.int .i64 k))], []⟩)
  (fun k => m.length - k) (fun k => k ≤ m.length) 0 (by omega) ?_ ?_
 ·simp only [go_sem, List.flatten_nil]
 intro k hk
 by_cases h2 : k < m.length
 ·have hg := getm h2
  have hw : IntKind.i64.wrap (k + 1) = k + 1 := wrap_in (by omega) (by omega)
  have hmk : m[k]? = some m[k]! := by simp [h2]
  have hfl : (m.take k).flatten.length ≤ 1000 * k := by
   have : ∀ l : List (List Int), (∀ row ∈ l, row.length ≤ 1000) → l.flatten.length ≤ 1000 * l.length := by
    intro l hl
    induction l with
    | nil => simp
    | cons a l ih =>
     have h1 := ih fun row hr => hl row (by simp [hr])
     have h2 := hl a (by simp)
     simp only [List.flatten_cons, List.length_append, List.length_cons]; omega
   have h3 := this (m.take k) fun row hr => hb.2 row (List.mem_of_mem_take hr)
   have h4 : (m.take k).length ≤ k := by rw [List.length_take]; omega
   omega
  have hr := hb.2 m[k]! (by simp [h2])
  simp only [go_sem, h2, hg, hw]
  refine ⟨⟨by omega, by omega⟩, roundK.intro (k + 1) (by omega) (by omega) ?_⟩
  simp only [go_sem]
  refine leV_sl ?_
  rw [List.take_add_one, hmk, List.flatten_append, List.map_append]; simp
 ·have e : m.take k = m := List.take_of_length_le (by omega)
  simp only [go_sem, h2, e]
def badRow (n : Nat) (row : List Int) : Bool := decide (row.length ≠ n) || row.any lawBad
def mxCheckF (m : List (List Int)) : Int :=
 if m.length < 1 ∨ 12 < m.length then 10
 else if m[0]!.length < 1 ∨ 12 < m[0]!.length ∨ 6 < min m[0]!.length m.length then 10
 else if m.any (badRow m[0]!.length) then 10 else 0
def Fits (m : List (List Int)) : Prop := m.length ≤ 140737488355328 ∧ ∀ row ∈ m, row.length ≤ 140737488355328
theorem Fits.at {m : List (List Int)} (h : Fits m) {i : Nat} (hi : i < m.length) : m[i]!.length ≤ 140737488355328 := h.2 _ (by simp [hi])
theorem any_stop {α : Type} [Inhabited α] {p : α → Bool} {l : List α} {i : Nat} (h : i < l.length) (hp : p l[i]! = true) : l.any p = true :=
 List.any_eq_true.2 ⟨l[i]!, by simp [h], hp⟩
theorem mxAnyNone {α : Type} [Inhabited α] {p : α → Bool} {l : List α} (hb : ∀ j, j < l.length → p l[j]! = false) : l.any p = false := by
 rw [List.any_eq_false]
 intro x hx
 obtain ⟨j, hj⟩ := List.getElem?_of_mem hx
 have := hb j (List.getElem?_eq_some_iff.1 hj).1
 have e : l[j]! = x := by simp [hj]
 rw [e] at this; simp [this]
theorem con_mxCheck (m : List (List Int)) (hm : Fits m) : Con Try.prog 47 [vm 0 m] [] fun r _ => r = vi (mxCheckF m) := by
 refine Con.intro Try.func47 rfl Try.ntmps47 Try.results47 (by kernel_rfl) (by simp) 0 (by simp) ?_
 by_cases h1 : m.length < 1
 ·simp only [go_sem, h1, mxCheckF, true_or]
 by_cases h2 : 12 < m.length
 ·simp only [go_sem, h1, h2, mxCheckF, true_or, or_true]
 have hg0 := getm (l := m) (i := 0) (by omega)
 have hp0 : 0 < m.length := by omega
 by_cases h3 : m[0]!.length < 1
 ·simp only [go_sem, h1, h2, h3, hg0, hp0, mxCheckF, true_or, false_or, or_false]
 by_cases h4 : 12 < m[0]!.length
 ·simp only [go_sem, h1, h2, h3, h4, hg0, hp0, mxCheckF, true_or, false_or, or_false, or_true]
 by_cases h5 : 6 < min m[0]!.length m.length
 ·simp only [go_sem, h1, h2, h3, h4, h5, hg0, hp0, mxCheckF, true_or, false_or, or_false, or_true]
 simp only [go_sem, h1, h2, h3, h4, h5, hg0, hp0, mxCheckF, true_or, false_or, or_false, or_true]
 refine LoopK.intro (fun i : Nat => ⟨46, [(0, .sl 0 1 (m.map (vs 0))), (3, .sc (.int .i64 m[0]!.length)), (31, .sl 0 1 (m.map (vs 0))), (32, .sc (.int .i64 m.length)), (33, .sc (.int .i64 i))], []⟩)
  (fun i => m.length - i) (fun i => i ≤ m.length ∧ ∀ j, j < i → badRow m[0]!.length m[j]! = false) 0 ⟨by omega, fun j hj => by omega⟩ ?_ ?_
 ·simp only [go_sem]
 ·rintro i ⟨hi, hb⟩
  by_cases h : i < m.length
  ·have hg := getm h
   have hw : IntKind.i64.wrap (i + 1) = i + 1 := wrap_in (by omega) (by omega)
   have hr := hm.at h
   by_cases hn : m[i]!.length = m[0]!.length
   ·simp only [go_sem, h, hg, hn]
    refine CallU.free (con_containsFunc m[i]! 59 lawBad con_mxCheck1 (by omega)) (by simp only [go_sem]) (by simp only [go_sem]) ?_
    rintro r bx rfl
    cases hp : m[i]!.any lawBad
    ·simp only [go_sem, hp, hw]
     refine roundK.intro (i + 1) ⟨by omega, fun j hj => ?_⟩ (by omega) ?_
     ·by_cases hji : j = i
      ·subst hji; simp only [badRow, hn, hp, ne_eq, not_true_eq_false, decide_false, Bool.or_false]
      ·exact hb j (by omega)
     ·simp only [go_sem]
    ·simp only [go_sem, hp]
     rw [any_stop h (by simp only [badRow, hp, Bool.or_true])]; rfl
   ·simp only [go_sem, h, hg, hn]
    rw [any_stop h (by simp only [badRow, hn, ne_eq, not_false_eq_true, decide_true, Bool.true_or])]; rfl
  ·simp only [go_sem, h]
   rw [mxAnyNone (fun j hj => hb j (by omega))]; rfl
theorem con_column (m : List (List Int)) (j : Nat) (hj : ∀ row ∈ m, j < row.length) (hm : m.length ≤ 1000000) :
  Con Try.prog 56 [vm 0 m, vi j] [] fun r _ => r = vs 2 (m.map fun row => row[j]!) := by
 refine Con.intro Try.func56 rfl Try.ntmps56 Try.results56 (by kernel_rfl) (by simp) 0 (by simp) ?_
 simp only [go_sem]
 refine LoopK.intro (fun i : Nat => ⟨23, [(0, .sl 0 1 (m.map (vs 0))), (1, .sc (.int .i64 j)), (5, .sl 384 1 ((m.take i).map fun row => vi row[j]!)), (8, .sl 0 1 (m.map (vs 0))), (9, .sc (.int .i64 m.length)), (10, .sc (.int .i64 i))], []⟩)
  (fun i => m.length - i) (fun i => i ≤ m.length) 0 (by omega) ?_ ?_
 ·simp only [go_sem]
 ·intro i hi
  by_cases h : i < m.length
  ·have hg := getm h
   have hjj : j < m[i]!.length := hj _ (by simp [h])
   have hjg := getv hjj
   have hmi : m[i]? = some m[i]! := by simp [h]
   have hw : IntKind.i64.wrap (i + 1) = i + 1 := wrap_in (by omega) (by omega)
   simp only [go_sem, h, hg, hjj, hjg, hw]
   refine ⟨by simp [roomFor]; omega, roundK.intro (i + 1) (by omega) (by omega) ?_⟩
   simp only [go_sem]
   refine leV_sl ?_
   rw [List.take_add_one, hmi, List.map_append]; rfl
  ·have e : m.take i = m := List.take_of_length_le (by omega)
   simp only [go_sem, h, e]
   simp [vi]
def dotN (a b : List Int) : Nat → Int
 | 0 => 0
 | k + 1 => w64 (dotN a b k + w64 (a[k]! * b[k]!))
def dotF (a b : List Int) : Int := dotN a b a.length
structure Valid (m : List (List Int)) : Prop where
 pos : 0 < m.length
 le : m.length ≤ 12
 cpos : 0 < m[0]!.length
 cle : m[0]!.length ≤ 12
 small : min m[0]!.length m.length ≤ 6
 row : ∀ row ∈ m, row.length = m[0]!.length ∧ ∀ x ∈ row, -16 ≤ x ∧ x ≤ 16
theorem check_ok {m : List (List Int)} (h : mxCheckF m = 0) : Valid m := by
 unfold mxCheckF at h
 split at h
 ·cases h
 ·split at h
  ·cases h
  ·split at h
   ·cases h
   ·rename_i h1 h2 h3
    refine ⟨by omega, by omega, by omega, by omega, by omega, fun row hr => ?_⟩
    have h3 : m.any (badRow m[0]!.length) = false := by simpa using h3
    rw [List.any_eq_false] at h3
    have h4 : badRow m[0]!.length row = false := by simpa using h3 row hr
    unfold badRow at h4
    rw [Bool.or_eq_false_iff] at h4
    refine ⟨by simpa using h4.1, fun x hx => ?_⟩
    have h5 := h4.2
    rw [List.any_eq_false] at h5
    have h6 : lawBad x = false := by simpa using h5 x hx
    unfold lawBad at h6
    rw [Bool.or_eq_false_iff] at h6
    simp at h6
    omega
theorem Valid.at {m : List (List Int)} (h : Valid m) {i : Nat} (hi : i < m.length) : m[i]!.length = m[0]!.length := (h.row _ (by simp [hi])).1
set_option maxHeartbeats 8000000
def detGo (rec : List Int → Int) (row cols : List Int) : Nat → Int × Int
 | 0 => (0, 1)
 | k + 1 => (if row[cols[k]!.toNat]! = 0 then (detGo rec row cols k).1 else w64 ((detGo rec row cols k).1 + w64 (w64 ((detGo rec row cols k).2 * row[cols[k]!.toNat]!) * rec (cols.take k ++ cols.drop (k + 1)))), w64 (0 - (detGo rec row cols k).2))
def detF (m : List (List Int)) : List Int → List Int → Int
 | [], _ => 1
 | r :: rs, cols => (detGo (detF m rs) m[r.toNat]! cols cols.length).1
def Wide (n : Nat) (m : List (List Int)) : Prop := ∀ row ∈ m, row.length = n
theorem Wide.at {n : Nat} {m : List (List Int)} (h : Wide n m) {i : Nat} (hi : i < m.length) : m[i]!.length = n := h _ (by simp [hi])
def Below (n : Nat) (l : List Int) : Prop := ∀ x ∈ l, 0 ≤ x ∧ x < n
theorem Below.at {n : Nat} {l : List Int} (h : Below n l) {i : Nat} (hi : i < l.length) : 0 ≤ l[i]! ∧ l[i]! < n := h _ (by simp [hi])
@[go_sem] theorem succ_beq0 {n : Nat} : (((n : Int) + 1) == 0) = false := by simp; omega
@[go_sem] theorem take_len {α β : Type} {l : List α} {f : α → β} : (l.map f).take l.length = l.map f := List.take_of_length_le (by simp)
@[go_sem] theorem vi_memless {l : List Int} : (l.map vi).all memless = true := by simp [List.all_map, Function.comp_def, vi, memless]
attribute [go_sem] true_or or_true false_or or_false
theorem geti {l : List Int} {x : Int} (h : x.toNat < l.length) : (l.map vi)[x.toNat]? = some (.sc (.int .i64 l[x.toNat]!)) := getv h
theorem con_det (m : List (List Int)) (n : Nat) (hn : n ≤ 1000) (hm : m.length ≤ 1000) (hw : Wide n m) : ∀ (rows cols : List Int), Below m.length rows → Below n cols → rows.length ≤ 1000 → cols.length ≤ 1000 →
  Con Try.prog 71 [vm 0 m, vs 0 rows, vs 0 cols] [] fun r _ => r = vi (detF m rows cols)
 | [], cols, _, _, _, _ => by
  refine Con.intro Try.func71 rfl Try.ntmps71 Try.results71 (by kernel_rfl) (by simp) 0 (by simp) ?_
  simp only [go_sem, detF]
 | r :: rs, cols, hr, hc, hrl, hcl => by
  have ih := fun cols' h1 h2 => con_det m n hn hm hw rs cols' (fun x hx => hr x (by simp [hx])) h1 (by simp at hrl; omega) h2
  refine Con.intro Try.func71 rfl Try.ntmps71 Try.results71 (by kernel_rfl) (by simp) 0 (by simp) ?_
  have hr0 := hr r (by simp)
  have hrt : r.toNat < m.length := by omega
  have hgm := getm hrt
  have hrow := hw.at hrt
  simp only [go_sem]
  refine LoopK.intro (fun k : Nat => ⟨56, [(0, vm 0 m), (1, vs 0 (r :: rs)), (2, vs 0 cols), (7, vi (detGo (detF m rs) m[r.toNat]! cols k).1), (8, vi (detGo (detF m rs) m[r.toNat]! cols k).2), (15, vs 0 cols), (16, vi cols.length), (17, vi k)], []⟩)
   (fun k => cols.length - k) (fun k => k ≤ cols.length) 0 (by omega) ?_ ?_
  ·simp only [go_sem, detGo]
  intro k hk
  by_cases h : k < cols.length
  ·have hg := getv h
   have hck := hc.at h
   have hct : cols[k]!.toNat < m[r.toNat]!.length := by omega
   have hgc := getv hct
   have hwk : IntKind.i64.wrap (k + 1) = k + 1 := wrap_in (by omega) (by omega)
   have hs : 0 < (rs.length : Int) + 1 := by omega
   have hcl2 : cols[k]! < (m[r.toNat]!.length : Int) := by omega
   by_cases hx : m[r.toNat]![cols[k]!.toNat]! = 0
   ·simp only [go_sem, h, hg, hr0, hgm, hck, hcl2, hgc, hx, hwk, hs]
    refine roundK.intro (k + 1) (by omega) (by omega) ?_
    simp only [go_sem, detGo, hx, w64]
   ·have hxb : (m[r.toNat]![cols[k]!.toNat]! != 0) = true := bne_iff_ne.2 hx
    have hk1 : ((k : Int) + 1).toNat = k + 1 := by omega
    have hkn : 0 ≤ (k : Int) + 1 := by omega
    have hB : bound [cols.take k, cols.drop (k + 1)] := ⟨by simp, fun row hr => by
     simp only [List.mem_cons, List.not_mem_nil, or_false] at hr
     rcases hr with rfl | rfl
     ·rw [List.length_take]; omega
     ·rw [List.length_drop]; omega⟩
    have hB2 : Below n (cols.take k ++ cols.drop (k + 1)) := fun x hx => by
     rcases List.mem_append.1 hx with h | h
     ·exact hc x (List.mem_of_mem_take h)
     ·exact hc x (List.mem_of_mem_drop h)
    simp only [go_sem, h, hg, hr0, hgm, hck, hcl2, hgc, hxb, hs]
    refine DrawK.walk 19 mixed (by kernel_rfl) ?_
    simp only [go_sem, hwk, hk1, hkn]
    refine ⟨by omega, by omega, by omega, by omega, ?_⟩
    refine CallY.mk (con_mxConcat _ hB) (by simp only [go_sem]; simp [List.map_take, List.map_drop]) (by simp only [go_sem]) (by simp only [go_sem]) ?_
    simp only [go_sem]
    refine CallY.mk (ih (cols.take k ++ cols.drop (k + 1)) hB2 (by simp; omega)) (by simp only [go_sem]; simp []) (by simp only [go_sem]) (by simp only [go_sem]) ?_
    simp only [go_sem, hwk]
    refine roundK.intro (k + 1) (by omega) (by omega) ?_
    simp only [go_sem, detGo, hx, w64]
  ·have : k = cols.length := by omega
   subst this
   simp only [go_sem, Nat.lt_irrefl, detF]
def pickOk (m : List (List Int)) (p : List Int × List Int) (j : Int) (i : Nat) : Bool := !(p.1.any fun x => (i : Int) == x) && detF m (p.1 ++ [(i : Int)]) (p.2 ++ [j]) != 0
def pickF (m : List (List Int)) (p : List Int × List Int) (j : Int) : Option Nat := (List.range m.length).find? (pickOk m p j)
def leadGo (m : List (List Int)) : Nat → List Int × List Int
 | 0 => ([], [])
 | j + 1 => match pickF m (leadGo m j) j with
  | some i => ((leadGo m j).1 ++ [(i : Int)], (leadGo m j).2 ++ [(j : Int)])
  | none => leadGo m j
def leadF (m : List (List Int)) : List Int × List Int := leadGo m m[0]!.length
theorem pick_some {m : List (List Int)} {p : List Int × List Int} {j : Int} {i : Nat} (h : i < m.length) (hb : ∀ k, k < i → pickOk m p j k = false) (hp : pickOk m p j i = true) : pickF m p j = some i := by
 unfold pickF
 rw [List.find?_range_eq_some]
 exact ⟨hp, List.mem_range.2 h, fun k hk => by simp [hb k hk]⟩
theorem pick_none {m : List (List Int)} {p : List Int × List Int} {j : Int} (hb : ∀ k, k < m.length → pickOk m p j k = false) : pickF m p j = none := by
 unfold pickF
 rw [List.find?_eq_none]
 intro k hk
 simp [hb k (List.mem_range.1 hk)]
theorem pick_lt {m : List (List Int)} {p : List Int × List Int} {j : Int} {i : Nat} (h : pickF m p j = some i) : i < m.length ∧ pickOk m p j i = true := by
 have := List.find?_some h
 exact ⟨List.mem_range.1 (List.mem_of_find?_eq_some h), this⟩
structure LeadOk (m : List (List Int)) (j : Nat) : Prop where
 rows : Below m.length (leadGo m j).1
 cols : Below j (leadGo m j).2
 same : (leadGo m j).1.length = (leadGo m j).2.length
 le : (leadGo m j).2.length ≤ j
theorem Below.snoc {n : Nat} {l : List Int} {x : Int} (h : Below n l) (h1 : 0 ≤ x) (h2 : x < n) : Below n (l ++ [x]) := fun y hy => by
 rcases List.mem_append.1 hy with hy | hy
 ·exact h y hy
 ·simp at hy; subst hy; exact ⟨h1, h2⟩
theorem Below.mono {n k : Nat} {l : List Int} (h : Below n l) (hk : n ≤ k) : Below k l := fun x hx => by have := h x hx; omega
theorem lead_ok (m : List (List Int)) : ∀ j, LeadOk m j
 | 0 => ⟨by simp [leadGo, Below], by simp [leadGo, Below], rfl, by simp [leadGo]⟩
 | j + 1 => by
  obtain ⟨h1, h2, h3, h4⟩ := lead_ok m j
  cases hp : pickF m (leadGo m j) j with
  | none => exact ⟨by simpa [leadGo, hp] using h1, by simp only [leadGo, hp]; exact h2.mono (by omega), by simpa [leadGo, hp] using h3, by simp only [leadGo, hp]; omega⟩
  | some i =>
   have := (pick_lt hp).1
   exact ⟨by simp only [leadGo, hp]; exact h1.snoc (by omega) (by omega), by simp only [leadGo, hp]; exact (h2.mono (k := j + 1) (by omega)).snoc (by omega) (by omega), by simp [leadGo, hp, h3], by simp [leadGo, hp]; omega⟩
theorem con_leading (m : List (List Int)) (n : Nat) (hn : n ≤ 500) (h0 : 0 < m.length) (hm : m.length ≤ 500) (hw : Wide n m) : Con Try.prog 70 [vm 0 m] [] fun r _ => r = .tup [vs 0 (leadF m).1, vs 0 (leadF m).2] := by
 refine Con.intro Try.func70 rfl Try.ntmps70 Try.results70 (by kernel_rfl) (by simp) 0 (by simp) ?_
 have hg0 := getm h0
 have hn0 := hw.at h0
 simp only [go_sem, hg0, h0]
 refine LoopK.intro (fun j : Nat => ⟨44, [(0, vm 0 m), (2, vs 0 (leadGo m j).1), (3, vs 0 (leadGo m j).2), (11, vi m[0]!.length), (12, vi j)], []⟩)
  (fun j => m[0]!.length - j) (fun j => j ≤ m[0]!.length) 0 (by omega) ?_ ?_
 ·simp only [go_sem, leadGo, List.map_nil]
 intro j hj
 by_cases h : j < m[0]!.length
 ·have hwj : IntKind.i64.wrap (j + 1) = j + 1 := wrap_in (by omega) (by omega)
  obtain ⟨k1, k2, k3, k4⟩ := lead_ok m j
  simp only [go_sem, h]
  refine LoopK.intro (fun i : Nat => ⟨44, [(0, vm 0 m), (2, vs 0 (leadGo m j).1), (3, vs 0 (leadGo m j).2), (4, vi j), (11, vi m[0]!.length), (12, vi j), (16, vi m.length), (17, vi i)], []⟩)
   (fun i => m.length - i) (fun i => i ≤ m.length ∧ ∀ k, k < i → pickOk m (leadGo m j) j k = false) 0 ⟨by omega, fun k hk => by omega⟩ ?_ ?_
  ·simp only [go_sem]
  rintro i ⟨hi, hb⟩
  by_cases h2 : i < m.length
  ·have hwi : IntKind.i64.wrap (i + 1) = i + 1 := wrap_in (by omega) (by omega)
   simp only [go_sem, h2]
   refine CallU.free (con_mxContains (leadGo m j).1 i (by omega)) (by simp only [go_sem]) (by simp only [go_sem]) ?_
   rintro r bx rfl
   cases hc : (leadGo m j).1.any fun x => (i : Int) == x
   ·simp only [go_sem, hc]
    refine CallU.free (con_clip (leadGo m j).1) (by simp only [go_sem]) (by simp only [go_sem]) ?_
    rintro r bx rfl
    simp only [go_sem]
    refine ⟨by simp [roomFor]; omega, ?_⟩
    refine CallU.free (con_clip (leadGo m j).2) (by simp only [go_sem]) (by simp only [go_sem]) ?_
    rintro r bx rfl
    simp only [go_sem]
    refine ⟨by simp [roomFor]; omega, ?_⟩
    refine CallU.flat (con_det m n (by omega) (by omega) hw ((leadGo m j).1 ++ [(i : Int)]) ((leadGo m j).2 ++ [(j : Int)]) (k1.snoc (by omega) (by omega)) ((k2.mono (k := n) (by omega)).snoc (by omega) (by omega)) (by simp; omega) (by simp; omega)) (by simp only [go_sem]) (by simp only [go_sem]; simp [vi]) ?_
    rintro r bx rfl
    by_cases hd : detF m ((leadGo m j).1 ++ [(i : Int)]) ((leadGo m j).2 ++ [(j : Int)]) = 0
    ·have hp : pickOk m (leadGo m j) j i = false := by simp [pickOk, hd]
     simp only [go_sem, hd, hwi]
     refine roundK.intro (i + 1) ⟨by omega, fun k hk => ?_⟩ (by omega) ?_
     ·by_cases hki : k = i
      ·subst hki; exact hp
      ·exact hb k (by omega)
     ·simp only [go_sem]
    ·have hdb : (detF m ((leadGo m j).1 ++ [(i : Int)]) ((leadGo m j).2 ++ [(j : Int)]) != 0) = true := bne_iff_ne.2 hd
     have hp : pickF m (leadGo m j) j = some i := pick_some h2 hb (by simp only [pickOk, hc, hdb]; rfl)
     simp only [go_sem, hdb, hwj]
     refine roundK.freeze (fun _ => true) (j + 1) (by omega) (by omega) ?_
     simp only [go_sem, leadGo, hp]
     exact ⟨leV_sl (by simp [vi]), leV_sl (by simp [vi])⟩
   ·have hp : pickOk m (leadGo m j) j i = false := by simp [pickOk, hc]
    simp only [go_sem, hc, hwi]
    refine roundK.intro (i + 1) ⟨by omega, fun k hk => ?_⟩ (by omega) ?_
    ·by_cases hki : k = i
     ·subst hki; exact hp
     ·exact hb k (by omega)
    ·simp only [go_sem]
  ·have hp : pickF m (leadGo m j) j = none := pick_none fun k hk => hb k (by omega)
   simp only [go_sem, h2, hwj]
   refine roundK.intro (j + 1) (by omega) (by omega) ?_
   simp only [go_sem, leadGo, hp]
 ·have : j = m[0]!.length := by omega
  subst this
  simp only [go_sem, Nat.lt_irrefl, leadF]
theorem Valid.wide {m : List (List Int)} (h : Valid m) : Wide m[0]!.length m := fun row hr => (h.row row hr).1
theorem mul_bound {x y a b : Int} (h1 : -a ≤ x) (h2 : x ≤ a) (h3 : -b ≤ y) (h4 : y ≤ b) : -(a * b) ≤ x * y ∧ x * y ≤ a * b := by
 have e1 : 0 ≤ (a - x) * (b + y) := Int.mul_nonneg (by omega) (by omega)
 have e2 : 0 ≤ (a + x) * (b - y) := Int.mul_nonneg (by omega) (by omega)
 have e3 : 0 ≤ (a - x) * (b - y) := Int.mul_nonneg (by omega) (by omega)
 have e4 : 0 ≤ (a + x) * (b + y) := Int.mul_nonneg (by omega) (by omega)
 simp only [Int.sub_mul, Int.add_mul, Int.mul_add, Int.mul_sub] at e1 e2 e3 e4
 omega
theorem mem_at {α : Type} [Inhabited α] {l : List α} {i : Nat} (h : i < l.length) : l[i]! ∈ l := by rw [getElem!_pos l i h]; exact List.getElem_mem h
def detGoZ (rec : List Int → Int) (row cols : List Int) : Nat → Int × Int
 | 0 => (0, 1)
 | k + 1 => ((detGoZ rec row cols k).1 + (detGoZ rec row cols k).2 * row[cols[k]!.toNat]! * rec (cols.take k ++ cols.drop (k + 1)), - (detGoZ rec row cols k).2)
def detZ (m : List (List Int)) : List Int → List Int → Int
 | [], _ => 1
 | r :: rs, cols => (detGoZ (detZ m rs) m[r.toNat]! cols cols.length).1
def Slight (m : List (List Int)) : Prop := ∀ row ∈ m, ∀ x ∈ row, -16 ≤ x ∧ x ≤ 16
theorem detGo_eq {rec recZ : List Int → Int} {row cols : List Int} {B : Int} (hB : 0 ≤ B) (hB2 : B ≤ 8153726976)
  (hrow : ∀ k, k < cols.length → -16 ≤ row[cols[k]!.toNat]! ∧ row[cols[k]!.toNat]! ≤ 16)
  (hrec : ∀ k, k < cols.length → rec (cols.take k ++ cols.drop (k + 1)) = recZ (cols.take k ++ cols.drop (k + 1)) ∧ -B ≤ recZ (cols.take k ++ cols.drop (k + 1)) ∧ recZ (cols.take k ++ cols.drop (k + 1)) ≤ B) :
  ∀ k, k ≤ cols.length → k ≤ 6 → detGo rec row cols k = detGoZ recZ row cols k ∧ -(k * (16 * B)) ≤ (detGoZ recZ row cols k).1 ∧ (detGoZ recZ row cols k).1 ≤ k * (16 * B) ∧ ((detGoZ recZ row cols k).2 = 1 ∨ (detGoZ recZ row cols k).2 = -1)
 | 0, _, _ => by simp [detGo, detGoZ]
 | k + 1, hk, h6 => by
  obtain ⟨h1, h2, h3, h4⟩ := detGo_eq hB hB2 hrow hrec k (by omega) (by omega)
  obtain ⟨g1, g2, g3⟩ := hrec k (by omega)
  have hr := hrow k (by omega)
  have hsx : ∃ s, s = (detGoZ recZ row cols k).2 * row[cols[k]!.toNat]! ∧ -16 ≤ s ∧ s ≤ 16 := ⟨_, rfl, by rcases h4 with h4 | h4 <;> rw [h4] <;> omega, by rcases h4 with h4 | h4 <;> rw [h4] <;> omega⟩
  obtain ⟨s, hs, hs1, hs2⟩ := hsx
  have hm := mul_bound hs1 hs2 g2 g3
  have hk6 : (k : Int) * (16 * B) ≤ 5 * (16 * B) := Int.mul_le_mul_of_nonneg_right (by omega) (by omega)
  have e1 : ((k + 1 : Nat) : Int) * (16 * B) = k * (16 * B) + 16 * B := by rw [Int.natCast_add, Int.add_mul]; simp
  have e2 : w64 s = s := wrap_in (by omega) (by omega)
  have e3 : w64 (s * recZ (cols.take k ++ cols.drop (k + 1))) = s * recZ (cols.take k ++ cols.drop (k + 1)) := wrap_in (by omega) (by omega)
  have e4 : w64 ((detGoZ recZ row cols k).1 + s * recZ (cols.take k ++ cols.drop (k + 1))) = (detGoZ recZ row cols k).1 + s * recZ (cols.take k ++ cols.drop (k + 1)) := wrap_in (by omega) (by omega)
  have e5 : w64 (0 - (detGoZ recZ row cols k).2) = -(detGoZ recZ row cols k).2 := by rcases h4 with h4 | h4 <;> rw [h4] <;> rfl
  simp only [detGo, detGoZ, h1, g1, ← hs, e2, e3, e4, e5]
  refine ⟨?_, by rw [e1]; omega, by rw [e1]; omega, by omega⟩
  by_cases hx : row[cols[k]!.toNat]! = 0
  ·have hs0 : s = 0 := by rw [hs, hx, Int.mul_zero]
   rw [if_pos hx, hs0, Int.zero_mul, Int.add_zero]
  ·rw [if_neg hx]
theorem det_eq (m : List (List Int)) (n : Nat) (hw : Wide n m) (hs : Slight m) : ∀ (rows cols : List Int), Below m.length rows → Below n cols → rows.length ≤ 6 → cols.length ≤ 6 →
  detF m rows cols = detZ m rows cols ∧ -(96 ^ rows.length) ≤ detZ m rows cols ∧ detZ m rows cols ≤ 96 ^ rows.length
 | [], cols, _, _, _, _ => by simp [detF, detZ]
 | r :: rs, cols, hr, hc, hrl, hcl => by
  have hr0 := hr r (by simp)
  have hrt : r.toNat < m.length := by omega
  have hrow := hw.at hrt
  have hsm := hs m[r.toNat]! (by simp [hrt])
  have hp : (0 : Int) ≤ 96 ^ rs.length := Int.pow_nonneg (by omega)
  have hp2 : (96 : Int) ^ rs.length ≤ 8153726976 := by
   have : rs.length ≤ 5 := by simp at hrl; omega
   have h : rs.length = 0 ∨ rs.length = 1 ∨ rs.length = 2 ∨ rs.length = 3 ∨ rs.length = 4 ∨ rs.length = 5 := by omega
   rcases h with h | h | h | h | h | h <;> rw [h] <;> decide
  have := detGo_eq (rec := detF m rs) (recZ := detZ m rs) (row := m[r.toNat]!) (cols := cols) hp hp2
   (fun k hk => by
    have hck := hc.at hk
    have hct : cols[k]!.toNat < m[r.toNat]!.length := by omega
    exact hsm _ (mem_at hct))
   (fun k hk => by
    refine det_eq m n hw hs rs (cols.take k ++ cols.drop (k + 1)) (fun x hx => hr x (by simp [hx])) (fun x hx => ?_) (by simp at hrl; omega) (by simp; omega)
    rcases List.mem_append.1 hx with h | h
    ·exact hc x (List.mem_of_mem_take h)
    ·exact hc x (List.mem_of_mem_drop h))
   cols.length (Nat.le_refl _) hcl
  obtain ⟨h1, h2, h3, _⟩ := this
  have hmul : (cols.length : Int) * (16 * 96 ^ rs.length) ≤ 6 * (16 * 96 ^ rs.length) := Int.mul_le_mul_of_nonneg_right (by omega) (by omega)
  have e : (96 : Int) ^ (r :: rs).length = 6 * (16 * 96 ^ rs.length) := by rw [List.length_cons, Int.pow_succ]; omega
  simp only [detF, detZ, h1, e]
  exact ⟨trivial, by omega, by omega⟩
theorem lead_nodup (m : List (List Int)) : ∀ j, (leadGo m j).1.Nodup
 | 0 => by simp [leadGo]
 | j + 1 => by
  have ih := lead_nodup m j
  cases hp : pickF m (leadGo m j) j with
  | none => simpa [leadGo, hp] using ih
  | some i =>
   have hq := (pick_lt hp).2
   simp only [leadGo, hp]
   rw [List.nodup_append]
   refine ⟨ih, by simp, fun a ha b hb => ?_⟩
   simp at hb; subst hb
   intro hab; subst hab
   simp only [pickOk, Bool.and_eq_true, Bool.not_eq_true'] at hq
   have := hq.1
   rw [List.any_eq_false] at this
   exact this _ ha (by simp)
theorem nodup_below : ∀ (n : Nat) (l : List Int), l.Nodup → Below n l → l.length ≤ n
 | 0, l, _, hb => by
  cases l with
  | nil => simp
  | cons x l => have := hb x (by simp); omega
 | n + 1, l, hn, hb => by
  have h1 := nodup_below n (l.filter fun x => x != (n : Int)) (hn.filter _) (fun x hx => by
   simp only [List.mem_filter, bne_iff_ne] at hx
   have := hb x hx.1; omega)
  have h2 : l.length ≤ (l.filter fun x => x != (n : Int)).length + 1 := by
   have hc : l.count (n : Int) ≤ 1 := List.nodup_iff_count.1 hn _
   have := List.length_eq_countP_add_countP (fun x => x != (n : Int)) (l := l)
   rw [List.countP_eq_length_filter] at this
   have e : List.countP (fun a => decide ¬(a != (n : Int)) = true) l = l.count (n : Int) := by
    rw [List.count]
    congr 1
    funext a
    by_cases h : a = n <;> simp [h]
   omega
  omega
theorem lead_len {m : List (List Int)} (hV : Valid m) : (leadF m).1.length ≤ 6 ∧ (leadF m).2.length = (leadF m).1.length ∧ Below m.length (leadF m).1 ∧ Below m[0]!.length (leadF m).2 := by
 obtain ⟨h1, h2, h3, h4⟩ := lead_ok m m[0]!.length
 have h5 := nodup_below _ _ (lead_nodup m m[0]!.length) h1
 have := hV.small
 unfold leadF
 exact ⟨by omega, h3.symm, h1, h2⟩
theorem lead_ne (m : List (List Int)) : ∀ j, detF m (leadGo m j).1 (leadGo m j).2 ≠ 0
 | 0 => by simp [leadGo, detF]
 | j + 1 => by
  cases hp : pickF m (leadGo m j) j with
  | none => simpa [leadGo, hp] using lead_ne m j
  | some i =>
   have hq := (pick_lt hp).2
   simp only [leadGo, hp]
   simp only [pickOk, Bool.and_eq_true, bne_iff_ne] at hq
   exact hq.2
end Go.AM
