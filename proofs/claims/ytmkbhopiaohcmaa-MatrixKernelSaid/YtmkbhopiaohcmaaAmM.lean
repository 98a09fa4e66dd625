/-
  The abstract machine: operations in a row; code.
-/
import Derived.Test.YtmkbhopiaohcmaaAmR
namespace Go.AM
open Go.RowKit

section
variable {P : Program}

/-! ### one operation -/
def evStore (P : Program) (T : TypeId) (σ : St) (ax vx : AV) (K : St → Prop) : Prop :=
  match ax with
  | .pb i o => ∃ cs q, σ.boxes[i]? = some cs ∧ tinfo P T = some q ∧ vx.cells.length = q.1 ∧ vx.one = true ∧ o + q.1 ≤ cs.length ∧ K { σ with boxes := σ.boxes.set i (setSeg cs o vx.cells) }
  | .pe t es _ i o => 2 ≤ t ∧ ∃ q, tinfo P T = some q ∧ vx.cells.length = q.1 ∧ 0 < q.1 ∧ o + q.1 ≤ es ∧ vx.fz = true ∧ vx.one = true ∧ leafAll vx.cells = true ∧ K (σ.map (storeLeaf t es i o vx.cells))
  | _ => False

/-- these tags are nobody's from here on -/
def St.frz (σ : St) (ts : List Nat) : St :=
  match ts with
  | [] => σ
  | t :: ts => σ.map (freezeLeaf fun u => (t :: ts).contains u)

theorem SRel.frz {G0 w0 σ G a w} (h : SRel G0 w0 σ G a w) (h0 : ∀ b t, G0 b ≠ .tag t) (ts : List Nat) : ∃ G', SRel G0 w0 (σ.frz ts) G' a w := by
  cases ts with
  | nil => exact ⟨G, h⟩
  | cons t ts => exact ⟨_, h.freeze h0 _⟩
theorem frz_n (σ : St) (ts : List Nat) : (σ.frz ts).n = σ.n := by cases ts <;> rfl

/-- what an element is to be, when it is stored -/
def stFrz (σ : St) (a x : AV) : St :=
  match a with
  | .pe _ _ _ _ _ => σ.frz x.tags
  | _ => σ

/-- an append, by whose the slice is -/
def evAppend (P : Program) (T T' : TypeId) (d : Nat) (σ : St) (x y : AV) (K : St → Prop) : Prop :=
  match x with
  | .sl t es xs => if 2 ≤ t then evAppendOwn P T T' (.sl t es xs) y (fun t r => K ((σ.map (killLeaf t)).put (some d) r))
      else σ.free d = true ∧ evAppendX P d T T' (.sl t es xs) y fun r => K (σ.put (some d) r)
  | x => σ.free d = true ∧ evAppendX P d T T' x y fun r => K (σ.put (some d) r)

def wpAt (P : Program) (o : Oper) (d : Nat) (σ : St) (K : St → Prop) : Prop :=
  match o.op with
  | .box _ x => (σ.ev x).one = true ∧ K (St.put { σ with boxes := σ.boxes ++ [(σ.ev x).cells] } (some d) (.pb σ.boxes.length 0))
  | .alloc T => ∃ q z, tinfo P T = some q ∧ q.2.2 = some z ∧ (z.cells.toList.all fun u => u.oneCell') = true ∧ K (St.put { σ with boxes := σ.boxes ++ [(ofConst z).cells] } (some d) (.pb σ.boxes.length 0))
  | .buildSlice T n ps => (σ.frz (tagss (ps.toList.map fun p => σ.ev p.2))).free d = true ∧
      evBuildSlice P d T n (ps.toList.map fun p => (p.1, (σ.frz (tagss (ps.toList.map fun p => σ.ev p.2))).ev p.2)) fun r => K ((σ.frz (tagss (ps.toList.map fun p => σ.ev p.2))).put (some d) r)
  | .call { callee := .value f, args, argTypes := _ } => match σ.ev f with
    | .fn fid caps => CallU P fid (args.toList.map σ.ev ++ caps) d σ K
    | _ => False
  | .call { callee := .builtin .append, args, argTypes } => match args.toList, argTypes.toList with
    | [x, y], [T, T'] => evAppend P T T' d σ (σ.ev x) (σ.ev y) K
    | _, _ => False
  | op => (needsFresh op = true → σ.free d = true) ∧ evOp P d σ.ev σ.boxes o.type op fun r => K (σ.put (some d) r)

def wpOp (P : Program) (o : Oper) (σ : St) (K : St → Prop) : Prop :=
  match o.dst with
  | some d => d < σ.n ∧ wpAt P o d σ K
  | none => match o.op with
    | .store T a x => evStore P T (stFrz σ (σ.ev a) (σ.ev x)) ((stFrz σ (σ.ev a) (σ.ev x)).ev a) ((stFrz σ (σ.ev a) (σ.ev x)).ev x) K
    | _ => False

theorem SRel.kill {G0 w0 σ G a w} {t d : Nat} {G' : Nat → Status} {w' : World} (h : SRel G0 w0 σ G a w) (h0 : ∀ b t, G0 b ≠ .tag t) (he : ExtBut t G w G' w') (hG : Good G' w') {r : AV} {v : Value} (hd : d < σ.n) (hr : VRel G' w' r v) :
    SRel G0 w0 ((σ.map (killLeaf t)).put (some d) r) G' (a.put (some d) v) w' where
  good := hG
  slots := slots_put (fun s => by
    have : (σ.map (killLeaf t)).get s = (σ.get s).kill t := lookT_map rfl σ.tmps s
    rw [this]; exact (h.slots s).but h.good he) h.size (decide_eq_true hd) hr
  boxes := fun i cs hi => by
    rw [put_boxes] at hi
    simp only [St.map, mapB_eq, List.getElem?_map] at hi
    cases hc : σ.boxes[i]? with
    | none => simp [hc] at hi
    | some cs' =>
      simp [hc] at hi; subst hi
      obtain ⟨b, vals, ty, h1, h2, h3, h4⟩ := h.boxes i cs' hc
      have hb := h.good.lt b (by rw [h1]; simp)
      refine ⟨b, vals, ty, by rw [he.stat b hb (by rw [h1]; simp)]; exact h1, by rw [he.keep b hb (by rw [h1]; simp)]; exact h2, h3, by rw [mapTops_eq]; simpa using h4.1, fun j x u hx hu => ?_⟩
      rw [mapTops_eq, List.getElem?_map] at hx
      cases hj : cs'[j]? with
      | none => simp [hj] at hx
      | some c => simp [hj] at hx; subst hx; exact (h4.2 j c u hj hu).but h.good he
  blt := fun b i hb => by
    rw [put_boxes]
    have : G b = .box i := by
      by_cases hlt : b < w.heap.size
      · by_cases ht : G b = .tag t
        · rcases he.old b ht with h' | h' <;> rw [h'] at hb <;> cases hb
        · rw [← he.stat b hlt ht]; exact hb
      · rcases he.new b (by omega) with h' | h' <;> rw [h'] at hb <;> cases hb
    have := h.blt b i this
    simpa [St.map, mapB_eq] using this
  size := by rw [put_size, put_n]; exact h.size
  defs := by rw [put_defers]; exact h.defs
  os := he.os.trans h.os
  tape := he.tape.trans h.tape
  output := he.output.trans h.output
  hsize := Nat.le_trans h.hsize he.size
  stat := fun b hb => by
    have := h.stat b hb
    rw [he.stat b (Nat.lt_of_lt_of_le hb h.hsize) (by rw [this]; exact h0 b t)]; exact this
  keep := fun b hb hn => by
    have := h.stat b hb
    rw [he.keep b (Nat.lt_of_lt_of_le hb h.hsize) (by rw [this]; exact h0 b t)]; exact h.keep b hb hn

theorem SRel.newBox {G0 w0 σ G a w} {d : Nat} {cs : List AV} {vals : Array Value} {T : TypeId} (h : SRel G0 w0 σ G a w) (hp : PW (VRel G w) cs vals.toList) (h1 : One vals.toList) (hd : d < σ.n) :
    ∃ G', SRel G0 w0 (St.put { σ with boxes := σ.boxes ++ [cs] } (some d) (.pb σ.boxes.length 0)) G' (a.put (some d) (.pointer (some ⟨w.heap.size, 0, none⟩))) (w.alloc (.cells vals T)) := by
  obtain ⟨k1, k2, k3, k4, k5⟩ := AM.newBox (T := T) h.good h.boxes h.blt hp h1
  refine ⟨_, { good := k3, slots := ?_, boxes := k4, blt := k5, size := ?_, defs := ?_, os := k2.os.trans h.os, tape := k2.tape.trans h.tape, output := k2.output.trans h.output, hsize := Nat.le_trans h.hsize k2.size, stat := ?_, keep := ?_ }⟩
  · exact slots_put (σ := { σ with boxes := σ.boxes ++ [cs] }) (fun s => (h.slots s).ext h.good k2) h.size (by simpa [dstOk] using hd) k1
  · rw [put_size, put_n]; exact h.size
  · rw [put_defers]; exact h.defs
  · exact fun b hb => (k2.stat b (Nat.lt_of_lt_of_le hb h.hsize)).trans (h.stat b hb)
  · exact fun b hb hn => (k2.keep b (Nat.lt_of_lt_of_le hb h.hsize)).trans (h.keep b hb hn)

/-- the operation leaves a frame and a world of which K holds -/
def OpOk (P : Program) (G0 : Nat → Status) (w0 : World) (o : Oper) (a : Act) (w : World) (K : St → Prop) : Prop :=
  ∀ (K' : Act → World → Prop) (Q : Exit → Act → World → Prop), (∀ σ' G' a' w', K σ' → SRel G0 w0 σ' G' a' w' → K' a' w') → o.wp P a w K' Q

theorem OpOk.value {G0 w0 a w} {o : Oper} {K : St → Prop} {v : Value} {w' : World} (hr : (execOp a.eval o).run P w = .ok (.value v) w') (h : ∃ σ' G', K σ' ∧ SRel G0 w0 σ' G' (a.put o.dst v) w') : OpOk P G0 w0 o a w K := by
  intro K' Q hK
  obtain ⟨σ', G', h1, h2⟩ := h
  unfold Oper.wp
  rw [hr, Oper.upon_value]
  exact hK σ' G' _ _ h1 h2

theorem evStore_sound {T : TypeId} {σ : St} {K : St → Prop} {G0 w0 G a w} {o : Oper} {xa xv : Operand} (ho : o.op = .store T xa xv) (hd : o.dst = none) (h : SRel G0 w0 σ G a w) (h0 : ∀ b t, G0 b ≠ .tag t)
    (hs : evStore P T σ (σ.ev xa) (σ.ev xv) K) : OpOk P G0 w0 o a w K := by
  have hva := h.ev xa
  have hvx := h.ev xv
  intro K' Q hK
  unfold evStore at hs
  split at hs
  · rename_i i o' he
    obtain ⟨cs, ⟨sz, by_, z⟩, hcs, hq, hlen, hone, hfit, hk⟩ := hs
    rw [he] at hva
    obtain ⟨b, hb, hav⟩ := hva.pb_inv
    obtain ⟨b', vals, ty, g1, g2, g3, g4⟩ := h.boxes i cs hcs
    obtain rfl := h.good.boxes _ _ _ hb g1
    obtain ⟨hc, h1⟩ := hvx.cellsV hone
    simp only at hlen hfit
    have hsz : (a.eval xv).cells.size = sz := by have := hc.1; rw [hlen] at this; simpa using this.symm
    have hcl : cs.length = vals.size := by have := g4.1; simpa using this
    have hrun := store_run (P := P) (T := T) hq (o := o') g2 hsz h1 (by omega)
    have hrun' : (execOp a.eval o).run P w = .ok .skip (w.setRow b (vals.toList.take o' ++ (a.eval xv).cells.toList ++ vals.toList.drop (o' + sz)).toArray) := by
      simp only [execOp, ho, hav, Sem.run_bind, hrun, Result.andThen_ok, Sem.run_pure]
    have hseg : vals.toList.take o' ++ (a.eval xv).cells.toList ++ vals.toList.drop (o' + sz) = setSeg vals.toList o' (a.eval xv).cells.toList := by
      rw [setSeg_eq _ _ _ (by simp [hsz]; omega)]; simp [hsz]
    rw [hseg] at hrun'
    unfold Oper.wp
    rw [hrun', Oper.upon_skip, hd]
    have hset := setRow_heap w b vals (setSeg vals.toList o' (a.eval xv).cells.toList).toArray ty (0, 0) g2
    have hm : ∀ {x v}, VRel G w x v → VRel G (w.setRow b (setSeg vals.toList o' (a.eval xv).cells.toList).toArray) x v := fun hr =>
      hr.mono (fun _ _ => rfl) (fun b' _ hn => heap_setRow_ne (fun h => hn i (by rw [h]; exact hb)))
    refine hK _ G _ _ hk { h with good := ⟨fun b hb => by simpa [World.setRow] using h.good.lt b hb, h.good.tags, h.good.boxes⟩, slots := fun s => hm (h.slots s), boxes := fun j cs' hj => ?_, blt := fun b i hb => by simpa using h.blt b i hb, hsize := by simpa [World.setRow] using h.hsize, keep := fun b' hb' hn => ?_ }
    · rw [List.getElem?_set] at hj
      by_cases hji : i = j
      · subst hji
        have hil : i < σ.boxes.length := (List.getElem?_eq_some_iff.1 hcs).1
        simp only [if_true] at hj
        rw [if_pos hil] at hj
        cases hj
        refine ⟨b, _, ty, hb, hset, ?_, ?_⟩
        · simp only; exact One.setSeg _ h1 g3
        · simp only; exact (PW.setSeg _ hc g4).mono fun x y _ hr => hm hr
      · rw [if_neg hji] at hj
        obtain ⟨b'', vals', ty', k1, k2, k3, k4⟩ := h.boxes j cs' hj
        have hne : b'' ≠ b := fun h => by subst h; rw [hb] at k1; cases k1; exact hji rfl
        exact ⟨b'', vals', ty', k1, by rw [heap_setRow_ne hne]; exact k2, k3, k4.mono fun x y _ hr => hm hr⟩
    · have hne : b' ≠ b := fun h' => by subst h'; exact hn i (by rw [← h.stat b' hb']; exact hb)
      rw [heap_setRow_ne hne]; exact h.keep b' hb' hn
  · rename_i t es xs i o' he
    obtain ⟨ht, ⟨sz, by_, z⟩, hq, hlen, hpos, hfit, hfz, hone, hla, hk⟩ := hs
    rw [he] at hva
    obtain ⟨b, off, c, hsl, hil, hav⟩ := hva.pe_inv
    simp only at hlen hpos hfit
    cases hsl with
    | froz h' => exfalso; cases h' <;> omega
    | own _ _ _ _ e vals _ g2 g3 g4 g0 g5 =>
    rcases g2.2 with ⟨hv, _⟩ | ⟨g, cap, cur, hv, _, hh, hnc, hcm, hcs, hct⟩
    · cases hv
    · simp only [Value.slice.injEq, Option.some.injEq, Addr.mk.injEq, true_and, and_true] at hv
      obtain ⟨⟨rfl, rfl⟩, rfl⟩ := hv
      have hb : G b = .tag t := g3 b rfl
      obtain ⟨hc, h1⟩ := (hvx.fz hfz).cells hone
      have hsz : (a.eval xv).cells.size = sz := by have := hc.1; rw [hlen] at this; simpa using this.symm
      have hbound : i * es + o' + sz ≤ cur.size := by
        rw [hcs]
        have : (i + 1) * es ≤ c * es := Nat.mul_le_mul_right _ (by omega)
        rw [Nat.succ_mul] at this; omega
      have hrun := store_run (P := P) (T := T) hq (o := 0 + i * es + o') hh hsz h1 (by omega)
      have hrun' : (execOp a.eval o).run P w = .ok .skip (w.setRow b (cur.toList.take (0 + i * es + o') ++ (a.eval xv).cells.toList ++ cur.toList.drop (0 + i * es + o' + sz)).toArray) := by
        simp only [execOp, ho, hav, Sem.run_bind, hrun, Result.andThen_ok, Sem.run_pure]
      have hseg : cur.toList.take (0 + i * es + o') ++ (a.eval xv).cells.toList ++ cur.toList.drop (0 + i * es + o' + sz) = setSeg cur.toList (i * es + o') (a.eval xv).cells.toList := by
        rw [setSeg_eq _ _ _ (by simp [hsz]; omega)]; simp [hsz]
      rw [hseg] at hrun'
      unfold Oper.wp
      rw [hrun', Oper.upon_skip, hd]
      have hst : ∀ {x v}, VRel G w x v → VRel G (w.setRow b (setSeg cur.toList (i * es + o') (a.eval xv).cells.toList).toArray) (x.storeAt t es i o' (σ.ev xv).cells) v := fun hr =>
        hr.stored h.good ht hb hh (by omega) (by intro h; rw [h] at hlen; simp at hlen; omega) hla hc h1
      refine hK _ G _ _ hk { h with good := ⟨fun b hb => by simpa [World.setRow] using h.good.lt b hb, h.good.tags, h.good.boxes⟩, slots := fun s => ?_, boxes := fun j cs' hj => ?_, blt := fun b i hb => by have := h.blt b i hb; simpa [St.map, mapB_eq] using this, hsize := by simpa [World.setRow] using h.hsize, keep := fun b' hb' hn => ?_, stat := h.stat }
      · have : (σ.map (storeLeaf t es i o' (σ.ev xv).cells)).get s = (σ.get s).storeAt t es i o' (σ.ev xv).cells := lookT_map rfl σ.tmps s
        rw [this]; exact hst (h.slots s)
      · simp only [St.map, mapB_eq, List.getElem?_map] at hj
        cases hc' : σ.boxes[j]? with
        | none => simp [hc'] at hj
        | some cs'' =>
          simp [hc'] at hj; subst hj
          obtain ⟨b'', vals', ty', k1, k2, k3, k4⟩ := h.boxes j cs'' hc'
          have hne : b'' ≠ b := fun h => by subst h; rw [hb] at k1; cases k1
          refine ⟨b'', vals', ty', k1, by rw [heap_setRow_ne hne]; exact k2, k3, by rw [mapTops_eq]; simpa using k4.1, fun j' x u hx hu => ?_⟩
          rw [mapTops_eq, List.getElem?_map] at hx
          cases hj' : cs''[j']? with
          | none => simp [hj'] at hx
          | some c' => simp [hj'] at hx; subst hx; exact hst (k4.2 j' c' u hj' hu)
      · have hne : b' ≠ b := fun h' => by
          subst h'
          have := h.stat b' hb'
          rw [hb] at this
          exact h0 b' t this.symm
        rw [heap_setRow_ne hne]; exact h.keep b' hb' hn
  · exact hs.elim

theorem wpOp_sound {o : Oper} {σ : St} {K : St → Prop} {G0 w0 G a w} (hw : wpOp P o σ K) (h : SRel G0 w0 σ G a w) (h0 : ∀ b t, G0 b ≠ .tag t) : OpOk P G0 w0 o a w K := by
  unfold wpOp at hw
  split at hw
  · rename_i d hd
    obtain ⟨hdn, hw⟩ := hw
    unfold wpAt at hw
    split at hw
    · rename_i T x ho
      obtain ⟨hone, hk⟩ := hw
      obtain ⟨hp, h1⟩ := (h.ev x).cellsV hone
      obtain ⟨G', hs⟩ := h.newBox (T := T) hp h1 hdn
      exact .value (v := .pointer (some ⟨w.heap.size, 0, none⟩)) (w' := w.alloc (.cells (a.eval x).cells T)) (by simp [execOp, ho, Instr.box, newVar, newRow]) ⟨_, G', hk, by rw [hd]; exact hs⟩
    · rename_i T ho
      obtain ⟨⟨sz, by_, z0⟩, z, hq, hz, hz1, hk⟩ := hw
      simp only at hz; subst hz
      obtain ⟨i, hi, hsz, hby, hzz⟩ := tinfo_some hq
      obtain ⟨hp, h1⟩ := ofConst_cells (S := Stable G) (w := w) z hz1
      obtain ⟨G', hs⟩ := h.newBox (T := T) (hp.mono fun x y _ hr => VRel.froz hr) h1 hdn
      exact .value (v := .pointer (some ⟨w.heap.size, 0, none⟩)) (w' := w.alloc (.cells z.cells T)) (by simp [execOp, ho, Instr.alloc, newVar, newRow, zeroValue, typeInfo, hi, hzz]) ⟨_, G', hk, by rw [hd]; exact hs⟩
    · rename_i T n ps ho
      obtain ⟨hfree, hop⟩ := hw
      obtain ⟨G1, h1⟩ := h.frz h0 (tagss (ps.toList.map fun p => σ.ev p.2))
      have hdn : d < (σ.frz (tagss (ps.toList.map fun p => σ.ev p.2))).n := by rw [frz_n]; exact hdn
      generalize σ.frz (tagss (ps.toList.map fun p => σ.ev p.2)) = τ at *
      have hop' : evOp P d τ.ev τ.boxes o.type (.buildSlice T n ps) fun r => K (τ.put (some d) r) := hop
      obtain ⟨r, hk, hr⟩ := evOp_sound hop'
      obtain ⟨hs, hfr⟩ := h1.fresh hfree h0
      obtain ⟨v, w', G', g1, g2, g3, g4, g5⟩ := hr o _ w a.eval ho hs.good (fun _ => hfr) hs.boxes (fun x _ => hs.ev x)
      exact .value g1 ⟨_, G', hk, by rw [hd]; exact hs.add g3 g4 g5.boxes (by simpa [dstOk] using hdn) g2⟩
    · rename_i f args As ho
      split at hw
      · rename_i fid caps hf
        have hff := h.ev f
        rw [hf] at hff
        obtain ⟨vs, hfe, hcaps⟩ := hff.fn_inv
        obtain ⟨⟨fn, hfn, hname, hbody⟩, hcalls⟩ := CallU.sound (vs := args.map a.eval ++ vs) hw h h0 (fun G' hs => by
          have hff := hs.ev f
          rw [hf] at hff
          obtain ⟨vs', hfe', hcaps'⟩ := hff.fn_inv
          rw [hfe] at hfe'; cases hfe'
          rw [Array.toList_append, Array.toList_map]
          refine PW.append ⟨by simp, fun j x u hx hu => ?_⟩ (hcaps'.mono fun x y _ hr => .froz hr)
          simp only [List.getElem?_map] at hx hu
          cases hj : args.toList[j]? with
          | none => simp [hj] at hx
          | some c => simp [hj] at hx hu; subst hx; subst hu; exact hs.ev c)
        have hrun : (execOp a.eval o).run P w = .ok (.enter fid (args.map a.eval ++ vs)) w := by
          have hname' : ¬ fn.name = "runtime.NumGoroutine" := by simpa using hname
          have hbody' : ¬ fn.body = none := by intro h; rw [h] at hbody; simp at hbody
          simp [execOp, ho, resolve, hfe, Deferred.ofValue, invoke, callFunc, hfn, hname', hbody']
        intro K' Q hK
        unfold Oper.wp
        rw [hrun, Oper.upon_enter]
        refine hcalls.mono ?_
        rintro e w' ⟨v, σ', G', rfl, hk, hs⟩
        exact hK σ' G' _ _ hk (by rw [hd]; exact hs)
      · exact hw.elim
    · rename_i args As ho
      split at hw
      · rename_i x y T T' h1 h2
        have h1 := arr_eq h1; have h2 := arr_eq h2; subst h1; subst h2
        have hnew : σ.free d = true ∧ (evAppendX P d T T' (σ.ev x) (σ.ev y) fun r => K (σ.put (some d) r)) → OpOk P G0 w0 o a w K := by
          rintro ⟨hfree, hap⟩
          obtain ⟨hs, hfr⟩ := h.fresh hfree h0
          obtain ⟨r, hk, hr⟩ := evAppendX_sound hap
          obtain ⟨v, w', G', g1, g2, g3, g4, g5⟩ := hr o.type _ w _ _ hs.good hfr (hs.ev x) (hs.ev y)
          exact .value (v := v) (w' := w') (by simpa [execOp, ho, resolve, invoke, builtin] using (show _ = _ from by simp [g1])) ⟨_, G', hk, by rw [hd]; exact hs.add g3 g4 g5.boxes (by simpa [dstOk] using hdn) g2⟩
        unfold evAppend at hw
        split at hw
        · rename_i t es xs hx
          split at hw
          · rename_i ht
            obtain ⟨t', r, hk, _, hr⟩ := evAppendOwn_sound hw
            obtain ⟨v, w', G', g1, g2, g3, g4⟩ := hr o.type G w _ _ h.good (by rw [← hx]; exact h.ev x) (h.ev y)
            exact .value (v := v) (w' := w') (by simpa [execOp, ho, resolve, invoke, builtin] using (show _ = _ from by simp [g1])) ⟨_, G', hk, by rw [hd]; exact h.kill h0 g3 g4 hdn g2⟩
          · exact hnew (by rw [hx]; exact hw)
        · exact hnew hw
      · exact hw.elim
    · obtain ⟨hfree, hop⟩ := hw
      obtain ⟨r, hk, hr⟩ := evOp_sound hop
      by_cases hnf : needsFresh o.op = true
      · obtain ⟨hs, hfr⟩ := h.fresh (hfree hnf) h0
        obtain ⟨v, w', G', g1, g2, g3, g4, g5⟩ := hr o _ w a.eval rfl hs.good (fun _ => hfr) hs.boxes (fun x _ => hs.ev x)
        exact .value g1 ⟨_, G', hk, by rw [hd]; exact hs.add g3 g4 g5.boxes (by simpa [dstOk] using hdn) g2⟩
      · obtain ⟨v, w', G', g1, g2, g3, g4, g5⟩ := hr o _ w a.eval rfl h.good (fun h => absurd h hnf) h.boxes (fun x _ => h.ev x)
        exact .value g1 ⟨_, G', hk, by rw [hd]; exact h.add g3 g4 g5.boxes (by simpa [dstOk] using hdn) g2⟩
  · rename_i hd
    split at hw
    · rename_i T xa xv ho
      have : ∃ G', SRel G0 w0 (stFrz σ (σ.ev xa) (σ.ev xv)) G' a w := by
        unfold stFrz
        split
        · exact h.frz h0 _
        · exact ⟨G, h⟩
      obtain ⟨G1, h1⟩ := this
      exact evStore_sound ho hd h1 h0 hw
    · exact hw.elim

/-! ### operations in a row -/
def guardSlot (ops : Array Oper) (j : Nat) : Option Nat := (ops[j]?).bind (·.dst)

def opsA (P : Program) (ops : Array Oper) : List Oper → St → (St → Prop) → Prop
  | [], σ, K => K σ
  | o :: r, σ, K =>
    match o.guard with
    | none => wpOp P o σ fun σ' => opsA P ops r σ' K
    | some (j, want) =>
      match guardSlot ops j with
      | none => False
      | some g =>
        match σ.get g with
        | .sc (.bool b) => (b = want → wpOp P o (σ.put (some g) (.sc (.bool want))) fun σ' => opsA P ops r σ' K) ∧
            (b = !want → dstOk σ.n o.dst = true ∧ opsA P ops r ((σ.put (some g) (.sc (.bool (!want)))).put o.dst .any) K)
        | _ => False

theorem SRel.same {G0 w0 σ G a w} (h : SRel G0 w0 σ G a w) {g : Nat} {x : AV} (hx : σ.get g = x) : SRel G0 w0 (σ.put (some g) x) G a w :=
  { h with
    slots := fun s => by
      have : (σ.put (some g) x).get s = σ.get s := by
        simp only [St.put, St.get, lookT_put]
        split
        · rename_i hs; subst hs; exact hx.symm
        · rfl
      rw [this]; exact h.slots s
    boxes := by rw [put_boxes]; exact h.boxes
    blt := by rw [put_boxes]; exact h.blt
    size := by rw [put_n]; exact h.size }

theorem yielded_bool {ops : Array Oper} {tmps : Array Value} {j g : Nat} {b : Bool} (hg : guardSlot ops j = some g) (hb : tmps.getD g undef = .bool b) : yielded ops tmps j = some b := by
  unfold yielded
  have hlt : tmps[g]? = some (.bool b) := by
    rw [Array.getD_eq_getD_getElem?] at hb
    cases h : tmps[g]? with
    | none => rw [h] at hb; simp [undef] at hb
    | some v => rw [h] at hb; simp at hb; rw [hb]
  simp only [guardSlot] at hg
  simp [hg, hlt]

theorem opsA_sound {ops : Array Oper} {Q : Exit → Act → World → Prop} {K : St → Prop} {G0 w0} (h0 : ∀ b t, G0 b ≠ .tag t) (hQ : ∀ σ' G' a' w', K σ' → SRel G0 w0 σ' G' a' w' → Q .normal a' w') :
    ∀ (l : List Oper) (k : Nat) (σ : St) (G : Nat → Status) (a : Act) (w : World), (∀ j, l[j]? = ops[k + j]?) → opsA P ops l σ K → SRel G0 w0 σ G a w → Go.wpOps P ops Q ((List.range l.length).map (k + ·)) a w
  | [], k, σ, G, a, w, _, hw, h => by simpa [Go.wpOps] using hQ σ G a w hw h
  | o :: r, k, σ, G, a, w, hl, hw, h => by
    have ho : ops[k]? = some o := by simpa using (hl 0).symm
    have hl' : ∀ j, r[j]? = ops[k + 1 + j]? := fun j => by have := hl (j + 1); simpa [Nat.add_assoc, Nat.add_comm 1 j] using this
    have hrange : (List.range (o :: r).length).map (k + ·) = k :: (List.range r.length).map (k + 1 + ·) := by
      rw [List.length_cons, List.range_succ_eq_map]
      simp [Function.comp_def, Nat.add_assoc, Nat.add_comm 1]
    rw [hrange]
    simp only [Go.wpOps, ho]
    have run : ∀ {σ}, wpOp P o σ (fun σ' => opsA P ops r σ' K) → SRel G0 w0 σ G a w → o.wp P a w (Go.wpOps P ops Q ((List.range r.length).map (k + 1 + ·))) Q := fun hw h =>
      wpOp_sound hw h h0 _ _ fun σ' G' a' w' hk hs => opsA_sound h0 hQ r (k + 1) σ' G' a' w' hl' hk hs
    simp only [opsA] at hw
    cases hg : o.guard with
    | none =>
      simp only [hg] at hw
      rw [if_pos (by simp [Region.wanted, hg])]
      exact .inl (run hw h)
    | some p =>
      obtain ⟨j, want⟩ := p
      simp only [hg] at hw
      cases hgs : guardSlot ops j with
      | none => simp [hgs] at hw
      | some g =>
        simp only [hgs] at hw
        split at hw
        · rename_i b hb
          have hv := h.slots g
          rw [hb] at hv
          have hy := yielded_bool hgs hv.sc_inv
          by_cases hbw : b = want
          · subst hbw
            rw [if_pos (by simp [Region.wanted, hg, hy])]
            exact .inl (run (hw.1 rfl) (h.same hb))
          · rw [if_neg (by simp [Region.wanted, hg, hy, hbw])]
            have hbn : b = !want := by cases b <;> cases want <;> simp_all
            obtain ⟨hdst, hw⟩ := hw.2 hbn
            have hs := (h.same (g := g) (x := .sc (.bool (!want))) (by rw [hb, hbn])).add (.refl G w) h.good (fun _ _ h => h) (d := o.dst) (x := .any) (v := undef) (by rw [put_n]; exact hdst) (.froz (.any _))
            exact opsA_sound h0 hQ r (k + 1) _ G _ w hl' hw hs
        · exact hw.elim

end
end Go.AM
