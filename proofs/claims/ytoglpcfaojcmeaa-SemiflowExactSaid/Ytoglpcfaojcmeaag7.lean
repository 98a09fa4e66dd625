/- AmM -/
import Derived.Test.Ytoglpcfaojcmeaag6
namespace Go.AM
open Go.RowKit
section
variable {P : Program}
def rowOk (t : Nat) : AV → Bool
 | .sl t' _ _ => decide (t' < 2) || (decide (root t' = root t) && decide (t' ≠ t))
 | x => x.rowLike
def evStore (P : Program) (T : TypeId) (σ : St) (ax vx : AV) (K : St → Prop) : Prop :=
 match ax with
 | .pb i o => ∃ cs q, σ.boxes[i]? = some cs ∧ tinfo P T = some q ∧ vx.cells.length = q.1 ∧ vx.one = true ∧ o + q.1 ≤ cs.length ∧ K { σ with boxes := σ.boxes.set i (setSeg cs o vx.cells) }
 | .pe t es _ i o => 2 ≤ t ∧ ∃ q, tinfo P T = some q ∧ vx.cells.length = q.1 ∧ 0 < q.1 ∧ o + q.1 ≤ es ∧ vx.fz = true ∧ vx.one = true ∧ leafAll vx.cells = true ∧ K (σ.map (storeLeaf t es i o vx.cells))
 | .po t _ i => ∃ q, tinfo P T = some q ∧ q.1 = 1 ∧ vx.one = true ∧ rowOk t vx = true ∧ K (σ.map (putLeaf t i vx))
 | _ => False
def St.frz (σ : St) (ts : List Nat) : St :=
 match ts with
 | [] => σ
 | t :: ts => σ.map (freezeLeaf fun u => (t :: ts).contains u)
theorem SRel.frz {G0 w0 σ G a w} (h : SRel G0 w0 σ G a w) (h0 : True) (ts : List Nat) : ∃ G', SRel G0 w0 (σ.frz ts) G' a w := by
 cases ts with
 | nil => exact ⟨G, h⟩
 | cons t ts => exact ⟨_, h.freeze h0 _⟩
theorem frz_n (σ : St) (ts : List Nat) : (σ.frz ts).n = σ.n := by cases ts <;> rfl
def stFrz (σ : St) (a x : AV) : St :=
 match a with
 | .pe _ _ _ _ _ => σ.frz x.tags
 | .po t _ i => match x with
  | .sl t' _ _ => if 2 ≤ t' ∧ root t' ≠ root t then σ.map (retagLeaf t' (subT t i)) else σ
  | _ => σ
 | _ => σ
def soApp (P : Program) (T T' : TypeId) (n : Nat) : Prop :=
 match P.underlying T with
 | some (.slice E) => T' = T ∧ ∃ q, tinfo P E = some q ∧ q.1 = 1 ∧ (∃ z, q.2.2 = some z ∧ z.cells.size = 1) ∧ roomFor (n + 1) q.2.1
 | _ => False
def evAppSo (P : Program) (T T' : TypeId) (d : Nat) (σ : St) (t : Nat) (xs : List AV) (y : AV) (K : St → Prop) : Prop :=
 match y with
 | .so t2 [.sl t0 es zs] => soApp P T T' xs.length ∧ 2 ≤ t ∧ 2 ≤ t0 ∧ t0 ≠ t ∧ t2 ≠ t ∧ t2 ≠ t0 ∧ t2 ≠ subT t xs.length ∧
   K (((σ.map (retagLeaf t0 (subT t xs.length))).map (killLeaf t)).put (some d) (.so t (((xs.map (retagRow t0 (subT t xs.length))).map (killRow t)) ++ [.sl (subT t xs.length) es zs])))
 | .sl t2 1 [z] => soApp P T T' xs.length ∧ 2 ≤ t ∧ t2 ≠ t ∧ z.rowLike = true ∧ K ((σ.map (killLeaf t)).put (some d) (.so t ((xs.map (killRow t)) ++ [z])))
 | _ => False
def evAppend (P : Program) (T T' : TypeId) (d : Nat) (σ : St) (x y : AV) (K : St → Prop) : Prop :=
 match x with
 | .sl t es xs => if 2 ≤ t then evAppendOwn P T T' (.sl t es xs) y (fun t r => K ((σ.map (killLeaf t)).put (some d) r))
   else σ.free d = true ∧ evAppendX P d T T' (.sl t es xs) y fun r => K (σ.put (some d) r)
 | .so t xs => evAppSo P T T' d σ t xs y K
 | .tl t es xs i => evAppendTl P T T' (.tl t es xs i) y fun t r1 r2 => K ((σ.map (killLeaf t)).put (some d) r1) ∧ K ((σ.map (killLeaf t)).put (some d) r2)
 | x => σ.free d = true ∧ evAppendX P d T T' x y fun r => K (σ.put (some d) r)
def keepHints : List Nat := [13440]
def keepTag (t0 : Nat) : Bool := decide (1048576 ≤ t0) || decide (2 ≤ t0) && keepHints.contains t0
theorem keepTag_two {t0 : Nat} (h : keepTag t0 = true) : 2 ≤ t0 := by
 unfold keepTag at h
 simp only [Bool.or_eq_true, Bool.and_eq_true, decide_eq_true_eq] at h
 omega
def keepSel (l : List AV) (k1 : Nat → Nat → List AV → Prop) (k2 : Prop) : Prop :=
 match l with
 | [.sl t0 es zs] => if keepTag t0 = true then k1 t0 es zs else k2
 | _ => k2
def keepK (P : Program) (d : Nat) (T : TypeId) (len : Nat) (ps : List (Nat × Operand)) (σ : St) (K : St → Prop) (t0 es : Nat) (zs : List AV) : Prop :=
 σ.free d = true ∧ (match P.underlying T with | some (.slice E) => (∃ q, tinfo P E = some q ∧ q.1 = 1 ∧ q.2.2.isSome = true) | _ => False) ∧ len = 1 ∧ (ps.map (·.1)) = [0] ∧
  K ((σ.map (retagLeaf t0 (subT (64 * (d + 1)) 0))).put (some d) (.so (64 * (d + 1)) [.sl (subT (64 * (d + 1)) 0) es zs]))
def wpAt (P : Program) (o : Oper) (d : Nat) (σ : St) (K : St → Prop) : Prop :=
 match o.op with
 | .box _ x => (σ.ev x).one = true ∧ K (St.put { σ with boxes := σ.boxes ++ [(σ.ev x).cells] } (some d) (.pb σ.boxes.length 0))
 | .alloc T => ∃ q z, tinfo P T = some q ∧ q.2.2 = some z ∧ (z.cells.toList.all fun u => u.oneCell') = true ∧ K (St.put { σ with boxes := σ.boxes ++ [(ofConst z).cells] } (some d) (.pb σ.boxes.length 0))
 | .buildSlice T n ps => keepSel (ps.toList.map fun p => σ.ev p.2) (keepK P d T n ps.toList σ K) <| (σ.frz (tagss (ps.toList.map fun p => σ.ev p.2))).free d = true ∧
   evBuildSlice P d T n (ps.toList.map fun p => (p.1, (σ.frz (tagss (ps.toList.map fun p => σ.ev p.2))).ev p.2)) fun r => K ((σ.frz (tagss (ps.toList.map fun p => σ.ev p.2))).put (some d) r)
 | .call { callee := .value f, args, argTypes := _ } => match σ.ev f with
  | .fn fid caps => CallU P fid (args.toList.map σ.ev ++ caps) d σ K
  | _ => False
 | .call { callee := .builtin .append, args, argTypes } => match args.toList, argTypes.toList with
  | [x, y], [T, T'] => evAppend P T T' d σ (σ.ev x) (σ.ev y) K
  | _, _ => False
 | .call { callee := .builtin .copy, args, argTypes } => match args.toList, argTypes.toList with
  | [x, y], [T, _] => evCopy P T d σ (σ.ev x) (σ.ev y) K
  | _, _ => False
 | op => (needsFresh op = true → σ.free d = true) ∧ evOp P d σ.ev σ.boxes o.type op fun r => K (σ.put (some d) r)
def evMapPut (P : Program) (T : TypeId) (σ : St) (m x y : AV) (K : St → Prop) : Prop :=
 match m, x, y with
 | .mp t P' k e D, .sc kv, .sc yv => P' = P ∧ P.underlying T = some (.map k e) ∧ keyKind (P.underlying k) = true ∧ mapLen D < 9223372036854775807 ∧
   ∃ kl dv, keyOf P k kv = some kl ∧ plainElem (H := Unit) P e yv = some (dv, []) ∧ K (σ.map (putMap t P k e (D.put kl dv)))
 | _, _, _ => False
def wpOp (P : Program) (o : Oper) (σ : St) (K : St → Prop) : Prop :=
 match o.dst with
 | some d => d < σ.n ∧ wpAt P o d σ K
 | none => match o.op with
  | .store T a x => evStore P T (stFrz σ (σ.ev a) (σ.ev x)) ((stFrz σ (σ.ev a) (σ.ev x)).ev a) ((stFrz σ (σ.ev a) (σ.ev x)).ev x) K
  | .mapUpdate T m x y => evMapPut P T σ (σ.ev m) (σ.ev x) (σ.ev y) K
  | .insert T m x y => evMapPut P T σ (σ.ev m) (σ.ev x) (σ.ev y) K
  | .call { callee := .builtin .clear, args, argTypes } => match args.toList, argTypes.toList with
   | [x], [T] => evClear P T σ (σ.ev x) K
   | _, _ => False
  | _ => False
theorem SRel.kill {G0 w0 σ G a w} {t d : Nat} {G' : Nat → Status} {w' : World} (h : SRel G0 w0 σ G a w) (_h0 : True) (he : ExtBut t G w G' w') (hG : Good G' w') {r : AV} {v : Value} (hd : d < σ.n) (hr : VRel G' w' r v) :
  SRel G0 w0 ((σ.map (killLeaf t)).put (some d) r) G' (a.put (some d) v) w' where
 good := hG
 slots := slots_put (fun s => by
  have : (σ.map (killLeaf t)).get s = (σ.get s).kill t := lookT_map rfl σ.tmps s
  rw [this]; exact (h.slots s).but h.good he) h.size (decide_eq_true hd) hr
 boxes := ⟨fun i vs hv => by rw [put_boxes]; have := h.boxes.low i vs hv; simpa [St.map, mapB_eq] using this, fun i cs hi => by
  rw [put_boxes] at hi
  simp only [St.map, mapB_eq, List.getElem?_map] at hi
  cases hc : σ.boxes[i]? with
  | none => simp [hc] at hi
  | some cs' =>
   simp [hc] at hi; subst hi
   rw [mapTops_eq]
   refine (h.boxes.cell i cs' hc).map (fun x v hr => hr.but h.good he) (fun b h1 => ?_) fun h0 b hb => ?_
   ·have hb := h.good.lt b (by rw [h1]; simp)
    exact ⟨by rw [he.stat b hb (by rw [h1]; simp)]; exact h1, he.keep b hb (by rw [h1]; simp)⟩
   ·by_cases hlt : b < w.heap.size
    ·by_cases ht : G b = .tag t
     ·rcases he.old b ht with h' | h' <;> rw [h'] at hb <;> cases hb
     ·exact h0 b (by rw [← he.stat b hlt ht]; exact hb)
    ·rcases he.new b (by omega) with h' | h' <;> rw [h'] at hb <;> cases hb⟩
 blt := fun b i hb => by
  rw [put_boxes]
  have : G b = .box i := by
   by_cases hlt : b < w.heap.size
   ·by_cases ht : G b = .tag t
    ·rcases he.old b ht with h' | h' <;> rw [h'] at hb <;> cases hb
    ·rw [← he.stat b hlt ht]; exact hb
   ·rcases he.new b (by omega) with h' | h' <;> rw [h'] at hb <;> cases hb
  have := h.blt b i this
  simpa [St.map, mapB_eq] using this
 size := by rw [put_size, put_n]; exact h.size
 defs := by rw [put_defers]; exact h.defs
 os := he.os.trans h.os
 tape := he.tape.trans h.tape
 output := he.output.trans h.output
 hsize := Nat.le_trans h.hsize he.size
 stat := fun b hb hnt => by
  have := h.stat b hb hnt
  rw [he.stat b (Nat.lt_of_lt_of_le hb h.hsize) (by rw [this]; exact hnt t)]; exact this
 keep := fun b hb hn hnt => by
  have := h.stat b hb hnt
  rw [he.keep b (Nat.lt_of_lt_of_le hb h.hsize) (by rw [this]; exact hnt t)]; exact h.keep b hb hn hnt
theorem SRel.newBox {G0 w0 σ G a w} {d : Nat} {cs : List AV} {vals : Array Value} {T : TypeId} (h : SRel G0 w0 σ G a w) (hp : PW (VRel G w) cs vals.toList) (h1 : One vals.toList) (hd : d < σ.n) :
  ∃ G', SRel G0 w0 (St.put { σ with boxes := σ.boxes ++ [cs] } (some d) (.pb σ.boxes.length 0)) G' (a.put (some d) (.pointer (some ⟨w.heap.size, 0, none⟩))) (w.alloc (.cells vals T)) := by
 obtain ⟨k1, k2, k3, k4, k5⟩ := AM.newBox (T := T) h.good h.boxes h.blt hp h1
 refine ⟨_, { good := k3, slots := ?_, boxes := k4, blt := k5, size := ?_, defs := ?_, os := k2.os.trans h.os, tape := k2.tape.trans h.tape, output := k2.output.trans h.output, hsize := Nat.le_trans h.hsize k2.size, stat := ?_, keep := ?_ }⟩
 ·exact slots_put (σ := { σ with boxes := σ.boxes ++ [cs] }) (fun s => (h.slots s).ext h.good k2) h.size (by simpa [dstOk] using hd) k1
 ·rw [put_size, put_n]; exact h.size
 ·rw [put_defers]; exact h.defs
 ·exact fun b hb hnt => (k2.stat b (Nat.lt_of_lt_of_le hb h.hsize)).trans (h.stat b hb hnt)
 ·exact fun b hb hn hnt => (k2.keep b (Nat.lt_of_lt_of_le hb h.hsize)).trans (h.keep b hb hn hnt)
def OpOk (P : Program) (G0 : Orig) (w0 : World) (o : Oper) (a : Act) (w : World) (K : St → Prop) : Prop :=
 ∀ (K' : Act → World → Prop) (Q : Exit → Act → World → Prop), (∀ σ' G' a' w', K σ' → SRel G0 w0 σ' G' a' w' → K' a' w') → o.wp P a w K' Q
theorem OpOk.value {G0 w0 a w} {o : Oper} {K : St → Prop} {v : Value} {w' : World} (hr : (execOp a.eval o).run P w = .ok (.value v) w') (h : ∃ σ' G', K σ' ∧ SRel G0 w0 σ' G' (a.put o.dst v) w') : OpOk P G0 w0 o a w K := by
 intro K' Q hK
 obtain ⟨σ', G', h1, h2⟩ := h
 unfold Oper.wp
 rw [hr, Oper.upon_value]
 exact hK σ' G' _ _ h1 h2
theorem evMapPut_sound {T : TypeId} {σ : St} {K : St → Prop} {G0 w0 G a w} {o : Oper} {xm xk xv : Operand} (ho : o.op = .mapUpdate T xm xk xv ∨ o.op = .insert T xm xk xv) (hd : o.dst = none) (h : SRel G0 w0 σ G a w)
  (hs : evMapPut P T σ (σ.ev xm) (σ.ev xk) (σ.ev xv) K) : OpOk P G0 w0 o a w K := by
 have hm := h.ev xm
 have hk := h.ev xk
 have hv := h.ev xv
 intro K' Q hK
 unfold evMapPut at hs
 split at hs
 ·rename_i t P' k e D kv yv e1 e2 e3
  obtain ⟨rfl, hT, hkk, hlen, kl, dv, hkl, hpl, hKK⟩ := hs
  rw [e1] at hm; rw [e2] at hk; rw [e3] at hv
  have hk := hk.sc_inv
  have hv := hv.sc_inv
  generalize hmv : a.eval xm = mv at hm
  cases hm with
  | froz h => cases h
  | mp _ _ _ _ _ b n h1 h2 h3 =>
   obtain ⟨w', hrun, hown, hgr⟩ := (ownsMap_len h3).1.update (keyKind_keyed hkk) hT (by unfold maxLen; omega) hkl hpl
   have hblt := h3.lt
   have hne : ∀ b', b' < w.heap.size → G b' ≠ .tag t → w'.heap[b']? = w.heap[b']? := fun b' hb hn => hgr.block b' hb (fun he => by cases he; exact hn h2)
   have he : ExtBut t G w G w' := ⟨hgr.os, hgr.tape, hgr.output, hgr.size, fun _ _ _ => rfl, hne, fun b' hb => .inl hb, fun b' hb => .inr (by
    cases hg : G b' with
    | junk => rfl
    | _ => have := h.good.lt b' (by rw [hg]; simp); omega)⟩
   have hG : Good G w' := ⟨fun b hb => Nat.lt_of_lt_of_le (h.good.lt b hb) hgr.size, h.good.tags, h.good.boxes⟩
   have hput : ∀ {x v}, VRel G w x v → VRel G w' (x.mapTop (putMap t P' k e (D.put kl dv))) v := by
    intro x v hx
    refine hx.mapTop fun x v hl hx => ?_
    have hb := hx.but h.good he
    rw [show x.kill t = killLeaf t x from AV.mapTop_leaf _ hl] at hb
    cases x with
    | mp t' P2 k2 e2 D2 =>
     simp only [putMap]
     split
     ·rename_i htt
      subst htt
      cases hx with
      | froz h => cases h
      | mp _ _ _ _ _ b' n' g1 g2 g3 =>
       have := h.good.tags b' b _ g2 h2
       subst this
       exact .mp _ _ _ _ _ _ _ h1 h2 hown
     ·rename_i htt
      simp only [killLeaf, htt, if_false] at hb
      exact hb
    | _ => exact hb
   have hr : (execOp a.eval o).run P' w = .ok .skip w' := by rcases ho with ho | ho <;> simp only [execOp, ho, hmv, hk, hv, Sem.run_bind, hrun, Result.andThen_ok, Sem.run_pure]
   unfold Oper.wp
   rw [hr, Oper.upon_skip, hd]
   refine hK _ G _ _ hKK { h with good := hG, slots := fun s => ?_, boxes := ⟨fun i vs hv => by have := h.boxes.low i vs hv; simpa [St.map, mapB_eq] using this, fun j cs' hj => ?_⟩, blt := fun b i hb => by have := h.blt b i hb; simpa [St.map, mapB_eq] using this, os := hgr.os.trans h.os, tape := hgr.tape.trans h.tape, output := hgr.output.trans h.output, hsize := Nat.le_trans h.hsize hgr.size, keep := fun b' hb' hn hnt => ?_ }
   ·have : (σ.map (putMap t P' k e (D.put kl dv))).get s = (σ.get s).mapTop (putMap t P' k e (D.put kl dv)) := lookT_map rfl σ.tmps s
    rw [this]; exact hput (h.slots s)
   ·simp only [St.map, mapB_eq, List.getElem?_map] at hj
    cases hc' : σ.boxes[j]? with
    | none => simp [hc'] at hj
    | some cs'' =>
     simp [hc'] at hj; subst hj
     rw [mapTops_eq]
     exact (h.boxes.cell j cs'' hc').map (fun x v hr => hput hr) (fun b'' k1 => ⟨k1, hne b'' (h.good.lt b'' (by rw [k1]; simp)) (by rw [k1]; simp)⟩) fun h0 => h0
   ·have h6 := h.stat b' hb' hnt
    rw [hne b' (Nat.lt_of_lt_of_le hb' h.hsize) (by rw [h6]; exact hnt t)]
    exact h.keep b' hb' hn hnt
 ·exact hs.elim
theorem evStore_sound {T : TypeId} {σ : St} {K : St → Prop} {G0 w0 G a w} {o : Oper} {xa xv : Operand} (ho : o.op = .store T xa xv) (hd : o.dst = none) (h : SRel G0 w0 σ G a w) (_h0 : True)
  (hs : evStore P T σ (σ.ev xa) (σ.ev xv) K) : OpOk P G0 w0 o a w K := by
 have hva := h.ev xa
 have hvx := h.ev xv
 intro K' Q hK
 unfold evStore at hs
 split at hs
 ·rename_i i o' he
  obtain ⟨cs, ⟨sz, by_, z⟩, hcs, hq, hlen, hone, hfit, hk⟩ := hs
  rw [he] at hva
  obtain ⟨b, hb, hav⟩ := hva.pb_inv
  obtain ⟨b', vals, ty, g1, g2, g3, g4⟩ := BRel.real h.boxes hcs hb
  obtain rfl := h.good.boxes _ _ _ hb g1
  obtain ⟨hc, h1⟩ := hvx.cellsV hone
  simp only at hlen hfit
  have hsz : (a.eval xv).cells.size = sz := by have := hc.1; rw [hlen] at this; simpa using this.symm
  have hcl : cs.length = vals.size := by have := g4.1; simpa using this
  have hrun := store_run (P := P) (T := T) hq (o := o') g2 hsz h1 (by omega)
  have hrun' : (execOp a.eval o).run P w = .ok .skip (w.setRow b (vals.toList.take o' ++ (a.eval xv).cells.toList ++ vals.toList.drop (o' + sz)).toArray) := by
   simp only [execOp, ho, hav, Sem.run_bind, hrun, Result.andThen_ok, Sem.run_pure]
  have hseg : vals.toList.take o' ++ (a.eval xv).cells.toList ++ vals.toList.drop (o' + sz) = setSeg vals.toList o' (a.eval xv).cells.toList := by
   rw [setSeg_eq _ _ _ (by simp [hsz]; omega)]; simp [hsz]
  rw [hseg] at hrun'
  unfold Oper.wp
  rw [hrun', Oper.upon_skip, hd]
  have hset := setRow_heap w b vals (setSeg vals.toList o' (a.eval xv).cells.toList).toArray ty (0, 0) g2
  have hm : ∀ {x v}, VRel G w x v → VRel G (w.setRow b (setSeg vals.toList o' (a.eval xv).cells.toList).toArray) x v := fun hr =>
   hr.mono (fun _ _ => rfl) (fun b' _ hn => heap_setRow_ne (fun h => hn i (by rw [h]; exact hb)))
  refine hK _ G _ _ hk { h with good := ⟨fun b hb => by simpa [World.setRow] using h.good.lt b hb, h.good.tags, h.good.boxes⟩, slots := fun s => hm (h.slots s), boxes := ⟨fun i vs hv => by have := h.boxes.low i vs hv; simpa using this, fun j cs' hj => ?_⟩, blt := fun b i hb => by simpa using h.blt b i hb, hsize := by simpa [World.setRow] using h.hsize, keep := fun b' hb' hn hnt => ?_ }
  ·rw [List.getElem?_set] at hj
   by_cases hji : i = j
   ·subst hji
    have hil : i < σ.boxes.length := (List.getElem?_eq_some_iff.1 hcs).1
    simp only [if_true] at hj
    rw [if_pos hil] at hj
    cases hj
    refine .inl ⟨by rcases h.boxes.cell i cs hcs with h1 | h1 | h1; exact h1.1; exact absurd hb (h1.1 b); exact h1.1, b, _, ty, hb, hset, ?_, ?_⟩
    ·simp only; exact One.setSeg _ h1 g3
    ·simp only; exact (PW.setSeg _ hc g4).mono fun x y _ hr => hm hr
   ·rw [if_neg hji] at hj
    exact (h.boxes.cell j cs' hj).same (fun x v hr => hm hr) (fun b'' k1 => ⟨k1, heap_setRow_ne fun h => by subst h; rw [hb] at k1; cases k1; exact hji rfl⟩) fun h0 => h0
  ·have hne : b' ≠ b := fun h' => by subst h'; exact hn i (by rw [← h.stat b' hb' hnt]; exact hb)
   rw [heap_setRow_ne hne]; exact h.keep b' hb' hn hnt
 ·rename_i t es xs i o' he
  obtain ⟨ht, ⟨sz, by_, z⟩, hq, hlen, hpos, hfit, hfz, hone, hla, hk⟩ := hs
  rw [he] at hva
  obtain ⟨b, off, c, hsl, hil, hav⟩ := hva.pe_inv
  simp only at hlen hpos hfit
  cases hsl with
  | froz h' => exfalso; cases h' <;> omega
  | own _ _ _ _ e vals _ g2 g3 g4 g0 g5 =>
  rcases g2.2 with ⟨hv, _⟩ | ⟨g, cap, cur, hv, _, hh, hnc, hcm, hcs, hct⟩
  ·cases hv
  ·simp only [Value.slice.injEq, Option.some.injEq, Addr.mk.injEq, true_and, and_true] at hv
   obtain ⟨⟨rfl, rfl⟩, rfl⟩ := hv
   have hb : G b = .tag t := g3 b rfl
   obtain ⟨hc, h1⟩ := (hvx.fz hfz).cells hone
   have hsz : (a.eval xv).cells.size = sz := by have := hc.1; rw [hlen] at this; simpa using this.symm
   have hbound : i * es + o' + sz ≤ cur.size := by
    rw [hcs]
    have : (i + 1) * es ≤ c * es := Nat.mul_le_mul_right _ (by omega)
    rw [Nat.succ_mul] at this; omega
   have hrun := store_run (P := P) (T := T) hq (o := 0 + i * es + o') hh hsz h1 (by omega)
   have hrun' : (execOp a.eval o).run P w = .ok .skip (w.setRow b (cur.toList.take (0 + i * es + o') ++ (a.eval xv).cells.toList ++ cur.toList.drop (0 + i * es + o' + sz)).toArray) := by
    simp only [execOp, ho, hav, Sem.run_bind, hrun, Result.andThen_ok, Sem.run_pure]
   have hseg : cur.toList.take (0 + i * es + o') ++ (a.eval xv).cells.toList ++ cur.toList.drop (0 + i * es + o' + sz) = setSeg cur.toList (i * es + o') (a.eval xv).cells.toList := by
    rw [setSeg_eq _ _ _ (by simp [hsz]; omega)]; simp [hsz]
   rw [hseg] at hrun'
   unfold Oper.wp
   rw [hrun', Oper.upon_skip, hd]
   have hst : ∀ {x v}, VRel G w x v → VRel G (w.setRow b (setSeg cur.toList (i * es + o') (a.eval xv).cells.toList).toArray) (x.storeAt t es i o' (σ.ev xv).cells) v := fun hr =>
    hr.stored h.good ht hb hh (by omega) (by intro h; rw [h] at hlen; simp at hlen; omega) hla hc h1
   refine hK _ G _ _ hk { h with good := ⟨fun b hb => by simpa [World.setRow] using h.good.lt b hb, h.good.tags, h.good.boxes⟩, slots := fun s => ?_, boxes := ⟨fun i vs hv => by have := h.boxes.low i vs hv; simpa [St.map, mapB_eq] using this, fun j cs' hj => ?_⟩, blt := fun b i hb => by have := h.blt b i hb; simpa [St.map, mapB_eq] using this, hsize := by simpa [World.setRow] using h.hsize, keep := fun b' hb' hn hnt => ?_, stat := h.stat }
   ·have : (σ.map (storeLeaf t es i o' (σ.ev xv).cells)).get s = (σ.get s).storeAt t es i o' (σ.ev xv).cells := lookT_map rfl σ.tmps s
    rw [this]; exact hst (h.slots s)
   ·simp only [St.map, mapB_eq, List.getElem?_map] at hj
    cases hc' : σ.boxes[j]? with
    | none => simp [hc'] at hj
    | some cs'' =>
     simp [hc'] at hj; subst hj
     rw [mapTops_eq]
     exact (h.boxes.cell j cs'' hc').map (fun x v hr => hst hr) (fun b'' k1 => ⟨k1, heap_setRow_ne fun h => by subst h; rw [hb] at k1; cases k1⟩) fun h0 => h0
   ·have hne : b' ≠ b := fun h' => by
     subst h'
     have := h.stat b' hb' hnt
     rw [hb] at this
     exact hnt t this.symm
    rw [heap_setRow_ne hne]; exact h.keep b' hb' hn hnt
 ·rename_i t xs i he
  obtain ⟨⟨sz, by_, z⟩, hq, hsz1, hone, hrok, hk⟩ := hs
  simp only at hsz1; subst hsz1
  rw [he] at hva
  obtain ⟨b, off, c, hso, hil, hav⟩ := hva.po_inv
  have ht := hso.so_two
  have hrl : (σ.ev xv).rowLike = true := by
   cases hx : σ.ev xv <;> rw [hx] at hrok <;> first | rfl | (simp only [rowOk, AV.rowLike] at hrok; first | exact hrok | (cases hrok))
  have hroot : ∀ t' es ys, σ.ev xv = .sl t' es ys → 2 ≤ t' → root t' = root t ∧ t' ≠ t := fun t' es ys e h2 => by
   rw [e] at hrok
   simp only [rowOk, Bool.or_eq_true, decide_eq_true_eq, Bool.and_eq_true] at hrok
   rcases hrok with h | h
   ·omega
   ·exact h
  have hL : LRel G w (root t) (σ.ev xv) (a.eval xv) := hvx.toL hrl (fun t' es ys e h2 => (hroot t' es ys e h2).1)
  have hyt : ∀ es ys, σ.ev xv ≠ .sl t es ys := fun es ys e => (hroot t es ys e ht).2 rfl
  obtain ⟨hcv, h1v⟩ := hvx.cellsV hone
  have hcells : (a.eval xv).cells.toList = [a.eval xv] := by
   have hc1 : (σ.ev xv).cells = [σ.ev xv] := rowLike_cells hrl
   rw [hc1] at hcv
   have hlen : (a.eval xv).cells.toList.length = 1 := by rw [← hcv.1]; rfl
   cases hv : a.eval xv with
   | agg cs =>
    have h2 := hvx
    rw [hv] at h2
    exfalso
    generalize hX : σ.ev xv = X at h2 hrl
    cases h2 with
    | froz h2 => cases h2 <;> first | (simp [AV.rowLike] at hrl; done) | (rw [hX] at hone; simp [AV.one, Value.oneCell'] at hone)
    | own _ _ _ _ _ _ _ g => rcases g.2 with ⟨g, _⟩ | ⟨_, _, _, g, _⟩ <;> cases g
    | _ => simp [AV.rowLike] at hrl
   | _ => rfl
  have hone1 : (a.eval xv).oneCell' = true := h1v _ (by rw [hcells]; simp)
  cases hso with
  | froz h' => cases h'
  | so _ _ _ e vals _ g2 g3 g4 g0 g5 =>
  rcases g2.2 with ⟨hv, _⟩ | ⟨g, cap, cur, hv, _, hh, hnc, hcm, hcs, hct⟩
  ·cases hv
  ·simp only [Value.slice.injEq, Option.some.injEq, Addr.mk.injEq, true_and, and_true] at hv
   obtain ⟨⟨rfl, rfl⟩, rfl⟩ := hv
   have hb : G b = .tag t := g3 b rfl
   have hbound : i < cur.size := by rw [hcs]; omega
   have hsz : (a.eval xv).cells.size = 1 := by
    have : (a.eval xv).cells.toList.length = 1 := by rw [hcells]; rfl
    simpa using this
   have hrun := store_run (P := P) (T := T) hq (o := 0 + i) hh hsz h1v (by omega)
   have hrun' : (execOp a.eval o).run P w = .ok .skip (w.setRow b (cur.toList.take (0 + i) ++ (a.eval xv).cells.toList ++ cur.toList.drop (0 + i + 1)).toArray) := by
    simp only [execOp, ho, hav, Sem.run_bind, hrun, Result.andThen_ok, Sem.run_pure]
   have hseg : cur.toList.take (0 + i) ++ (a.eval xv).cells.toList ++ cur.toList.drop (0 + i + 1) = cur.toList.set i (a.eval xv) := by
    rw [hcells, Nat.zero_add, List.set_eq_take_append_cons_drop, if_pos (by simpa using hbound)]; simp
   rw [hseg] at hrun'
   unfold Oper.wp
   rw [hrun', Oper.upon_skip, hd]
   have hst : ∀ {x v}, VRel G w x v → VRel G (w.setRow b (cur.toList.set i (a.eval xv)).toArray) (x.mapTop (putLeaf t i (σ.ev xv))) v := fun hr =>
    hr.put h.good ht hb hh hone1 hrl hL hyt
   refine hK _ G _ _ hk { h with good := ⟨fun b hb => by simpa [World.setRow] using h.good.lt b hb, h.good.tags, h.good.boxes⟩, slots := fun s => ?_, boxes := ⟨fun i vs hv => by have := h.boxes.low i vs hv; simpa [St.map, mapB_eq] using this, fun j cs' hj => ?_⟩, blt := fun b i hb => by have := h.blt b i hb; simpa [St.map, mapB_eq] using this, hsize := by simpa [World.setRow] using h.hsize, keep := fun b' hb' hn hnt => ?_, stat := h.stat }
   ·have : (σ.map (putLeaf t i (σ.ev xv))).get s = (σ.get s).mapTop (putLeaf t i (σ.ev xv)) := lookT_map rfl σ.tmps s
    rw [this]; exact hst (h.slots s)
   ·simp only [St.map, mapB_eq, List.getElem?_map] at hj
    cases hc' : σ.boxes[j]? with
    | none => simp [hc'] at hj
    | some cs'' =>
     simp [hc'] at hj; subst hj
     rw [mapTops_eq]
     exact (h.boxes.cell j cs'' hc').map (fun x v hr => hst hr) (fun b'' k1 => ⟨k1, heap_setRow_ne fun h => by subst h; rw [hb] at k1; cases k1⟩) fun h0 => h0
   ·have hne : b' ≠ b := fun h' => by
     subst h'
     have := h.stat b' hb' hnt
     rw [hb] at this
     exact hnt t this.symm
    rw [heap_setRow_ne hne]; exact h.keep b' hb' hn hnt
 ·exact hs.elim
theorem LRel.but {t r : Nat} {G G' : Nat → Status} {w w' : World} {x : AV} {u : Value} (hx : x.rowLike = true) (hr : LRel G w r x u) (hg : Good G w) (he : ExtBut t G w G' w') : (killRow t x).rowLike = true ∧ LRel G' w' r (killRow t x) u := by
 have h1 := hr.val.but hg he
 have h2 : (killRow t x).rowLike = true := by cases x <;> first | exact hx | (simp only [killRow]; split <;> rfl)
 have h3 : x.kill t = killRow t x := by cases x <;> first | rfl | (simp [AV.rowLike] at hx)
 rw [h3] at h1
 refine ⟨h2, h1.toL h2 fun t' es xs e h4 => ?_⟩
 cases x <;> simp only [killRow] at e <;> first | (cases e; done) | skip
 split at e
 ·cases e
 ·cases e; exact hr.rootOf h4
theorem soApp_run {T T' ty : TypeId} {t t2 : Nat} {vals : List Value} {hv : Value} {xs : List AV} {n : Nat} (hap : soApp P T T' n) (hn : n = vals.length) (ht : 2 ≤ t) (h2 : t2 ≠ t) {G : Nat → Status} {w : World} {v u : Value} (hg : Good G w)
  (hx : VRel G w (.sl t 1 (exact vals)) v) (hy : VRel G w (.sl t2 1 (exact [hv])) u) (hrows : PW (LRel G w (root t)) xs vals) (hrl : ∀ x ∈ xs, x.rowLike = true) {z : AV} (hz : z.rowLike = true) (hL : ∀ G' w', ExtBut t G w G' w' → LRel G' w' (root t) z hv) :
  ∃ v' w' G', (Builtin.append_ #[T, T'] ty #[v, u]).run P w = .ok v' w' ∧ VRel G' w' (.so t (xs.map (killRow t) ++ [z])) v' ∧ ExtBut t G w G' w' ∧ Good G' w' := by
 unfold soApp at hap
 split at hap
 ·rename_i E hT
  obtain ⟨rfl, ⟨sz, by_, z0⟩, hq, hs1, ⟨z', hz', hzs⟩, hroom⟩ := hap
  simp only at hs1; subst hs1
  have hev : evAppendOwn P T' T' (.sl t 1 (exact vals)) (.sl t2 1 (exact [hv])) (fun t' r => t' = t ∧ r = .sl t 1 (exact vals ++ exact [hv])) := by
   unfold evAppendOwn
   rw [hT]
   refine ⟨rfl, (1, by_, z0), hq, by simp, ⟨z', hz', hzs⟩, ht, h2, rfl, rfl, ?_, rfl, rfl⟩
   simpa [exact_len, hn] using hroom
  obtain ⟨t', r, ⟨rfl, rfl⟩, _, hr⟩ := evAppendOwn_sound hev
  obtain ⟨v', w', G', g1, g2, g3, g4⟩ := hr ty G w v u hg hx hy
  rw [exact_app] at g2
  refine ⟨v', w', G', g1, g2.so_of ht ?_ ?_, g3, g4⟩
  ·refine PW.append ⟨by simpa using hrows.1, fun j y u' hy' hu' => ?_⟩ (.cons (hL G' w' g3) (.nil _))
   rw [List.getElem?_map] at hy'
   cases hj : xs[j]? with
   | none => simp [hj] at hy'
   | some x => simp [hj] at hy'; subst hy'; exact ((hrows.2 j x u' hj hu').but (hrl x (List.mem_of_getElem? hj)) hg g3).2
  ·intro y hy'
   rcases List.mem_append.1 hy' with h | h
   ·obtain ⟨x, hx', rfl⟩ := List.mem_map.1 h
    obtain ⟨j, hj⟩ := List.getElem?_of_mem hx'
    have hjl : j < vals.length := by rw [← hrows.1]; exact (List.getElem?_eq_some_iff.1 hj).1
    exact ((hrows.2 j x _ hj (List.getElem?_eq_getElem hjl)).but (hrl x hx') hg g3).1
   ·simp at h; subst h; exact hz
 ·exact hap.elim
theorem putT_map (f : AV → AV) (d : Nat) (x y : AV) : ∀ l : List (Nat × AV), putT (mapT f (putT l d y)) d x = putT (mapT f l) d x
 | [] => by simp [putT, mapT]
 | (k, v) :: r => by
  simp only [putT, mapT]
  by_cases h : k = d
  ·simp [h, mapT, putT]
  ·simp [h, mapT, putT, putT_map f d x y r]
theorem SRel.reput {G0 w0 σ G a w} (h : SRel G0 w0 σ G a w) {d : Nat} {x : AV} (hx : VRel G w x (a.tmps.getD d undef)) : SRel G0 w0 (σ.put (some d) x) G a w :=
 { h with
  slots := fun s => by
   simp only [St.get, St.put, lookT_put]
   split
   ·rename_i e; subst e; exact hx
   ·exact h.slots s }
theorem wpOp_sound {o : Oper} {σ : St} {K : St → Prop} {G0 w0 G a w} (hw : wpOp P o σ K) (h : SRel G0 w0 σ G a w) (h0 : True) : OpOk P G0 w0 o a w K := by
  unfold wpOp at hw
  split at hw
  · rename_i d hd
    obtain ⟨hdn, hw⟩ := hw
    unfold wpAt at hw
    split at hw
    · rename_i T x ho
      obtain ⟨hone, hk⟩ := hw
      obtain ⟨hp, h1⟩ := (h.ev x).cellsV hone
      obtain ⟨G', hs⟩ := h.newBox (T := T) hp h1 hdn
      exact .value (v := .pointer (some ⟨w.heap.size, 0, none⟩)) (w' := w.alloc (.cells (a.eval x).cells T)) (by simp [execOp, ho, Instr.box, newVar, newRow]) ⟨_, G', hk, by rw [hd]; exact hs⟩
    · rename_i T ho
      obtain ⟨⟨sz, by_, z0⟩, z, hq, hz, hz1, hk⟩ := hw
      simp only at hz; subst hz
      obtain ⟨i, hi, hsz, hby, hzz⟩ := tinfo_some hq
      obtain ⟨hp, h1⟩ := ofConst_cells (S := Stable G) (w := w) z hz1
      obtain ⟨G', hs⟩ := h.newBox (T := T) (hp.mono fun x y _ hr => VRel.froz hr) h1 hdn
      exact .value (v := .pointer (some ⟨w.heap.size, 0, none⟩)) (w' := w.alloc (.cells z.cells T)) (by simp [execOp, ho, Instr.alloc, newVar, newRow, zeroValue, typeInfo, hi, hzz]) ⟨_, G', hk, by rw [hd]; exact hs⟩
    · rename_i T n ps ho
      have hold : ((σ.frz (tagss (ps.toList.map fun p => σ.ev p.2))).free d = true ∧
          evBuildSlice P d T n (ps.toList.map fun p => (p.1, (σ.frz (tagss (ps.toList.map fun p => σ.ev p.2))).ev p.2)) fun r => K ((σ.frz (tagss (ps.toList.map fun p => σ.ev p.2))).put (some d) r)) → OpOk P G0 w0 o a w K := fun hw => by
       obtain ⟨hfree, hop⟩ := hw
       obtain ⟨G1, h1⟩ := h.frz h0 (tagss (ps.toList.map fun p => σ.ev p.2))
       have hdn : d < (σ.frz (tagss (ps.toList.map fun p => σ.ev p.2))).n := by rw [frz_n]; exact hdn
       generalize σ.frz (tagss (ps.toList.map fun p => σ.ev p.2)) = τ at *
       have hop' : evOp P d τ.ev τ.boxes o.type (.buildSlice T n ps) fun r => K (τ.put (some d) r) := hop
       obtain ⟨r, hk, hr⟩ := evOp_sound hop'
       obtain ⟨hs, hfr⟩ := h1.fresh hfree h0
       obtain ⟨v, w', G', g1, g2, g3, g4, g5⟩ := hr o _ _ w a.eval ho hs.good (fun _ => hfr) hs.boxes (fun x _ => hs.ev x)
       exact .value g1 ⟨_, G', hk, by rw [hd]; exact hs.add g3 g4 g5.boxes (by simpa [dstOk] using hdn) g2⟩
      unfold keepSel at hw
      split at hw
      · rename_i t0 es zs hps
        split at hw
        · rename_i hbig
          have hbig := keepTag_two hbig
          obtain ⟨hfree, hT, hlen, hidx, hk⟩ := hw
          obtain ⟨x, hpx⟩ : ∃ x, ps.toList = [(0, x)] := by
            cases hl : ps.toList with
            | nil => rw [hl] at hidx; simp at hidx
            | cons p r =>
              rw [hl] at hidx
              simp only [List.map_cons, List.cons.injEq, List.map_eq_nil_iff] at hidx
              obtain ⟨i, x⟩ := p
              obtain ⟨h1, h2⟩ := hidx
              simp only at h1; subst h1; subst h2
              exact ⟨x, rfl⟩
          have hpa := arr_eq hpx
          subst hpa
          simp only [List.map_cons, List.map_nil, List.cons.injEq, and_true] at hps
          subst hlen
          have hne : t0 ≠ 64 * (d + 1) := by
            intro e
            cases x with
            | tmp s =>
              simp only [St.free, Bool.and_eq_true, decide_eq_true_eq] at hfree
              have hl := freeT_look hfree.2.1 s
              have hps' : lookT σ.tmps s = .sl t0 es zs := hps
              rw [hps'] at hl
              simp only [AV.allLeaf, freeLeaf, root] at hl
              have hl := of_decide_eq_true hl
              have h1 := hfree.1
              omega
            | const v =>
              simp only [St.ev, ofLit] at hps
              split at hps
              · split at hps <;> cases hps
              · unfold leafConst at hps; split at hps <;> cases hps
            | global g => cases hps
            | func f => cases hps
          obtain ⟨hs, hfr⟩ := h.fresh hfree h0
          have hxv := hs.ev x
          rw [hps] at hxv
          split at hT
          · rename_i E hTE
            obtain ⟨⟨sz, by_, z⟩, hq, hs1, hz⟩ := hT
            simp only at hs1; subst hs1
            have hone : (a.eval x).oneCell' = true := by obtain ⟨ao, c, e, _⟩ := hxv.sl_inv; rw [e]; rfl
            have hev : evBuildSlice P d T 1 [(0, .sc (a.eval x))] (fun r => r = .sl (64 * (d + 1)) 1 [.sc (a.eval x)]) := by
              unfold evBuildSlice
              rw [hTE]
              refine ⟨(1, by_, z), hq, by simp, hz, by simp, rfl, rfl, ?_, rfl⟩
              simp [partOk, AV.cells, AV.fz, fzLeaf, AV.one, hone]
            obtain ⟨r, rfl, hr⟩ := evBuildSlice_sound hev
            obtain ⟨v', w', G', g1, g2, g3, g4, g5⟩ := hr (killR d G) w #[(0, a.eval x)] hs.good hfr (.cons ⟨rfl, .froz (.sc _)⟩ (.nil _))
            have hadd := hs.add (d := some d) g3 g4 g5.boxes (by simpa [dstOk] using hdn) g2
            have hsub := sub_big (64 * (d + 1)) 0
            have hret := hadd.retag (a := t0) (b := subT (64 * (d + 1)) 0) h0 (by omega) (by omega)
            have hdl := hfr.1
            have hrow : VRel (retagG t0 (subT (64 * (d + 1)) 0) G') w' (.sl (subT (64 * (d + 1)) 0) es zs) (a.eval x) := by
              have := retag_sl (a := t0) (b := subT (64 * (d + 1)) 0) (by omega) (by omega) (hxv.ext hs.good g3)
              simpa [retagLeaf] using this
            have hnew : VRel (retagG t0 (subT (64 * (d + 1)) 0) G') w' (.sl (64 * (d + 1)) 1 (exact [a.eval x])) v' := by
              have := retag_sl (a := t0) (b := subT (64 * (d + 1)) 0) (by omega) (by omega) g2
              simp only [retagLeaf] at this
              rw [if_neg (by omega), if_neg (by omega)] at this
              exact this
            have hso := hnew.so_of (xs := [.sl (subT (64 * (d + 1)) 0) es zs]) (by omega) (.cons (hrow.toL rfl (fun _ _ _ e _ => by cases e; exact root_sub _ _)) (.nil _)) (by simp [AV.rowLike])
            have hval : ((a.put (some d) v').tmps.getD d undef) = v' := by rw [put_getD, if_pos ⟨rfl, by rw [h.size]; exact hdn⟩]
            have hfin := hret.reput (d := d) (by rw [hval]; exact hso)
            refine .value (v := v') (w' := w') (by simp [execOp, ho, g1]) ⟨_, retagG t0 (subT (64 * (d + 1)) 0) G', hk, ?_⟩
            rw [hd]
            have e : St.put ((σ.put (some d) (.sl (64 * (d + 1)) 1 [.sc (a.eval x)])).map (retagLeaf t0 (subT (64 * (d + 1)) 0))) (some d) (.so (64 * (d + 1)) [.sl (subT (64 * (d + 1)) 0) es zs]) = St.put (σ.map (retagLeaf t0 (subT (64 * (d + 1)) 0))) (some d) (.so (64 * (d + 1)) [.sl (subT (64 * (d + 1)) 0) es zs]) := by
              simp only [St.put, St.map, putT_map]
            rw [← e]; exact hfin
          · exact hT.elim
        · exact hold hw
      · exact hold hw
    · rename_i f args As ho
      split at hw
      · rename_i fid caps hf
        have hff := h.ev f
        rw [hf] at hff
        obtain ⟨vs, hfe, hcaps⟩ := hff.fn_inv
        obtain ⟨⟨fn, hfn, hname, hbody⟩, hcalls⟩ := CallU.sound (vs := args.map a.eval ++ vs) hw h h0 (fun G' hs => by
          have hff := hs.ev f
          rw [hf] at hff
          obtain ⟨vs', hfe', hcaps'⟩ := hff.fn_inv
          rw [hfe] at hfe'; cases hfe'
          rw [Array.toList_append, Array.toList_map]
          refine PW.append ⟨by simp, fun j x u hx hu => ?_⟩ (hcaps'.mono fun x y _ hr => .froz hr)
          simp only [List.getElem?_map] at hx hu
          cases hj : args.toList[j]? with
          | none => simp [hj] at hx
          | some c => simp [hj] at hx hu; subst hx; subst hu; exact hs.ev c)
        have hrun : (execOp a.eval o).run P w = .ok (.enter fid (args.map a.eval ++ vs)) w := by
          have hname' : ¬ fn.name = "runtime.NumGoroutine" := by simpa using hname
          have hbody' : ¬ fn.body = none := by intro h; rw [h] at hbody; simp at hbody
          simp [execOp, ho, resolve, hfe, Deferred.ofValue, invoke, callFunc, hfn, hname', hbody']
        intro K' Q hK
        unfold Oper.wp
        rw [hrun, Oper.upon_enter]
        refine hcalls.mono ?_
        rintro e w' ⟨v, σ', G', rfl, hk, hs⟩
        exact hK σ' G' _ _ hk (by rw [hd]; exact hs)
      · exact hw.elim
    · rename_i args As ho
      split at hw
      · rename_i x y T T' h1 h2
        have h1 := arr_eq h1; have h2 := arr_eq h2; subst h1; subst h2
        have hnew : σ.free d = true ∧ (evAppendX P d T T' (σ.ev x) (σ.ev y) fun r => K (σ.put (some d) r)) → OpOk P G0 w0 o a w K := by
          rintro ⟨hfree, hap⟩
          obtain ⟨hs, hfr⟩ := h.fresh hfree h0
          obtain ⟨r, hk, hr⟩ := evAppendX_sound hap
          obtain ⟨v, w', G', g1, g2, g3, g4, g5⟩ := hr o.type _ w _ _ hs.good hfr (hs.ev x) (hs.ev y)
          exact .value (v := v) (w' := w') (by simpa [execOp, ho, resolve, invoke, builtin] using (show _ = _ from by simp [g1])) ⟨_, G', hk, by rw [hd]; exact hs.add g3 g4 g5.boxes (by simpa [dstOk] using hdn) g2⟩
        unfold evAppend at hw
        split at hw
        · rename_i t es xs hx
          split at hw
          · rename_i ht
            obtain ⟨t', r, hk, _, hr⟩ := evAppendOwn_sound hw
            obtain ⟨v, w', G', g1, g2, g3, g4⟩ := hr o.type G w _ _ h.good (by rw [← hx]; exact h.ev x) (h.ev y)
            exact .value (v := v) (w' := w') (by simpa [execOp, ho, resolve, invoke, builtin] using (show _ = _ from by simp [g1])) ⟨_, G', hk, by rw [hd]; exact h.kill h0 g3 g4 hdn g2⟩
          · exact hnew (by rw [hx]; exact hw)
        · rename_i t xs hx
          have hxv := h.ev x
          rw [hx] at hxv
          obtain ⟨vals, hex, hrows, hone, hrl⟩ := hxv.so_exact
          unfold evAppSo at hw
          split at hw
          · rename_i t2 t0 es zs hy
            obtain ⟨hap, ht, ht0, h1, h2, h3, h4, hk⟩ := hw
            have hyv := h.ev y
            rw [hy] at hyv
            obtain ⟨yvals, hey, hyrows, hyone, _⟩ := hyv.so_exact
            obtain ⟨hv, rfl⟩ : ∃ hv, yvals = [hv] := by
              have := hyrows.1
              cases yvals with
              | nil => simp at this
              | cons q r => cases r with
                | nil => exact ⟨q, rfl⟩
                | cons _ _ => simp at this
            have hb2 : 2 ≤ subT t xs.length := by have := sub_big t xs.length; omega
            have hret := h.retag (a := t0) (b := subT t xs.length) h0 ht0 hb2
            have hL0 := hyrows.2 0 _ _ rfl rfl
            have hrow : VRel (retagG t0 (subT t xs.length) G) w (.sl (subT t xs.length) es zs) hv := by
              have := retag_sl (a := t0) (b := subT t xs.length) ht0 hb2 hL0.val
              simpa [retagLeaf] using this
            have hrowL := hrow.toL (r := root t) rfl (fun _ _ _ e _ => by cases e; exact root_sub _ _)
            have hex' : VRel (retagG t0 (subT t xs.length) G) w (.sl t 1 (exact vals)) (a.eval x) := by
              have := retag_sl (a := t0) (b := subT t xs.length) ht0 hb2 hex
              simp only [retagLeaf] at this
              rw [if_neg (fun e => h1 e.symm), if_neg (fun e => sub_ne t xs.length e.symm)] at this
              exact this
            have hey' : VRel (retagG t0 (subT t xs.length) G) w (.sl t2 1 (exact [hv])) (a.eval y) := by
              have := retag_sl (a := t0) (b := subT t xs.length) ht0 hb2 hey
              simp only [retagLeaf] at this
              rw [if_neg h3, if_neg h4] at this
              exact this
            have hrows' : PW (LRel (retagG t0 (subT t xs.length) G) w (root t)) (xs.map (retagRow t0 (subT t xs.length))) vals := ⟨by simpa using hrows.1, fun j q u hq hu => by
              rw [List.getElem?_map] at hq
              cases hj : xs[j]? with
              | none => simp [hj] at hq
              | some q' => simp [hj] at hq; subst hq; exact (retagRow_rel ht0 hb2 (hrl q' (List.mem_of_getElem? hj)) (hrows.2 j q' u hj hu)).2⟩
            have hrl' : ∀ q ∈ xs.map (retagRow t0 (subT t xs.length)), q.rowLike = true := fun q hq => by
              obtain ⟨q', hq', rfl⟩ := List.mem_map.1 hq
              have := hrl q' hq'
              cases q' <;> first | exact this | (simp only [retagRow]; split <;> first | rfl | (split <;> rfl))
            obtain ⟨v', w', G', g1, g2, g3, g4⟩ := soApp_run (ty := o.type) (t2 := t2) hap hrows.1 ht h2 hret.good hex' hey' hrows' hrl' (z := .sl (subT t xs.length) es zs) rfl (fun G' w' he => by
              have := hrowL.but rfl hret.good he
              simp only [killRow] at this
              rw [if_neg (sub_ne t xs.length)] at this
              exact this.2)
            exact .value (v := v') (w' := w') (by simpa [execOp, ho, resolve, invoke, builtin] using (show _ = _ from by simp [g1])) ⟨_, G', hk, by rw [hd]; exact hret.kill h0 g3 g4 (by simpa [St.map] using hdn) g2⟩
          · rename_i t2 z hy
            obtain ⟨hap, ht, h2, hz, hk⟩ := hw
            have hyv := h.ev y
            rw [hy] at hyv
            have hz1 : z.cells = [z] := rowLike_cells hz
            have key : ∀ u, VRel G w (.sl t2 1 [z]) u → ∃ hv, VRel G w (.sl t2 1 (exact [hv])) u ∧ FRel (Stable G) w z hv := by
              intro u hyv
              cases hyv with
              | froz hyv =>
                cases hyv with
                | sl _ _ _ b off c vals' k1 k2 k3 kc k4 k5 k0 k6 k7 =>
                  obtain ⟨hv, rfl⟩ : ∃ hv, vals' = [hv] := by
                    simp only [flat, List.flatMap_cons, List.flatMap_nil, List.append_nil, hz1] at k5
                    cases vals' with
                    | nil => simp at k5
                    | cons q r => cases r with
                      | nil => exact ⟨q, rfl⟩
                      | cons _ _ => simp at k5
                  refine ⟨hv, .froz (.sl _ _ _ b off c [hv] k1 k2 k3 kc (exact_wide _) (by rw [exact_rel (S := Stable G) (w := w).1]) k0 k6 (fun j q u hq hu => (exact_rel (S := Stable G) (w := w)).2 j q u hq hu)), ?_⟩
                  exact k7 0 z hv (by simp [flat, hz1]) rfl
              | own _ _ _ _ e vals' k1 k2 k3 k4 k0 k5 =>
                obtain ⟨hv, rfl⟩ : ∃ hv, vals' = [hv] := by
                  have k6 := k5.1
                  simp only [flat, List.flatMap_cons, List.flatMap_nil, List.append_nil, hz1] at k6
                  cases vals' with
                  | nil => simp at k6
                  | cons q r => cases r with
                    | nil => exact ⟨q, rfl⟩
                    | cons _ _ => simp at k6
                exact ⟨hv, .own _ _ _ _ e [hv] k1 k2 k3 (exact_wide _) k0 exact_rel, k5.2 0 z hv (by simp [flat, hz1]) rfl⟩
            obtain ⟨hv, hey, hfz⟩ := key _ hyv
            obtain ⟨v', w', G', g1, g2, g3, g4⟩ := soApp_run (ty := o.type) (t2 := t2) hap hrows.1 ht h2 h.good hex hey hrows hrl (z := z) hz (fun G' w' he => .froz (hfz.mono (fun b hb => by
              unfold Stable at *
              rw [he.stat b (h.good.lt b (by rw [hb]; simp)) (by rw [hb]; simp)]; exact hb) (fun b hb => he.keep b (h.good.lt b (by unfold Stable at hb; rw [hb]; simp)) (by unfold Stable at hb; rw [hb]; simp))))
            exact .value (v := v') (w' := w') (by simpa [execOp, ho, resolve, invoke, builtin] using (show _ = _ from by simp [g1])) ⟨_, G', hk, by rw [hd]; exact h.kill h0 g3 g4 hdn g2⟩
          · exact hw.elim
        · rename_i t es xs i hx
          obtain ⟨t', r1, r2, ⟨hk1, hk2⟩, _, hr⟩ := evAppendTl_sound hw
          obtain ⟨v, w', G', g1, g2, g3, g4⟩ := hr o.type G w _ _ h.good (by rw [← hx]; exact h.ev x) (h.ev y)
          rcases g2 with g2 | g2
          · exact .value (v := v) (w' := w') (by simpa [execOp, ho, resolve, invoke, builtin] using (show _ = _ from by simp [g1])) ⟨_, G', hk1, by rw [hd]; exact h.kill h0 g3 g4 hdn g2⟩
          · exact .value (v := v) (w' := w') (by simpa [execOp, ho, resolve, invoke, builtin] using (show _ = _ from by simp [g1])) ⟨_, G', hk2, by rw [hd]; exact h.kill h0 g3 g4 hdn g2⟩
        · exact hnew hw
      · exact hw.elim
    · rename_i args As ho
      split at hw
      · rename_i x y T T' h1 h2
        have h1 := arr_eq h1; have h2 := arr_eq h2; subst h1; subst h2
        obtain ⟨v, w', hr, σ', G', hk, hs⟩ := evCopy_sound ho hd hdn h hw
        exact .value hr ⟨σ', G', hk, hs⟩
      · exact hw.elim
    · obtain ⟨hfree, hop⟩ := hw
      obtain ⟨r, hk, hr⟩ := evOp_sound hop
      by_cases hnf : needsFresh o.op = true
      · obtain ⟨hs, hfr⟩ := h.fresh (hfree hnf) h0
        obtain ⟨v, w', G', g1, g2, g3, g4, g5⟩ := hr o _ _ w a.eval rfl hs.good (fun _ => hfr) hs.boxes (fun x _ => hs.ev x)
        exact .value g1 ⟨_, G', hk, by rw [hd]; exact hs.add g3 g4 g5.boxes (by simpa [dstOk] using hdn) g2⟩
      · obtain ⟨v, w', G', g1, g2, g3, g4, g5⟩ := hr o _ _ w a.eval rfl h.good (fun h => absurd h hnf) h.boxes (fun x _ => h.ev x)
        exact .value g1 ⟨_, G', hk, by rw [hd]; exact h.add g3 g4 g5.boxes (by simpa [dstOk] using hdn) g2⟩
  · rename_i hd
    split at hw
    · rename_i T xa xv ho
      have : ∃ G', SRel G0 w0 (stFrz σ (σ.ev xa) (σ.ev xv)) G' a w := by
        unfold stFrz
        split
        · exact h.frz h0 _
        · split
          · split
            · rename_i hc
              exact ⟨_, h.retag h0 hc.1 (Nat.le_trans (by decide : 2 ≤ 1048576) (sub_big _ _))⟩
            · exact ⟨G, h⟩
          · exact ⟨G, h⟩
        · exact ⟨G, h⟩
      obtain ⟨G1, h1⟩ := this
      exact evStore_sound ho hd h1 h0 hw
    · rename_i T m x y ho
      exact evMapPut_sound (.inl ho) hd h hw
    · rename_i T m x y ho
      exact evMapPut_sound (.inr ho) hd h hw
    · rename_i args As ho
      split at hw
      · rename_i x T h1 h2
        have h1 := arr_eq h1; have h2 := arr_eq h2; subst h1; subst h2
        obtain ⟨v, w', hr, σ', G', hk, hs⟩ := evClear_sound ho hd h hw
        exact .value hr ⟨σ', G', hk, hs⟩
      · exact hw.elim
    · exact hw.elim
def guardSlot (ops : Array Oper) (j : Nat) : Option Nat := (ops[j]?).bind (·.dst)
def opsA (P : Program) (ops : Array Oper) : List Oper → St → (St → Prop) → Prop
 | [], σ, K => K σ
 | o :: r, σ, K =>
  match o.guard with
  | none => wpOp P o σ fun σ' => opsA P ops r σ' K
  | some (j, want) =>
   match guardSlot ops j with
   | none => False
   | some g =>
    match σ.get g with
    | .sc (.bool b) => (b = want → wpOp P o (σ.put (some g) (.sc (.bool want))) fun σ' => opsA P ops r σ' K) ∧
      (b = !want → dstOk σ.n o.dst = true ∧ opsA P ops r ((σ.put (some g) (.sc (.bool (!want)))).put o.dst (.sc undef)) K)
    | .sc (.tuple _) => dstOk σ.n o.dst = true ∧ opsA P ops r (σ.put o.dst (.sc undef)) K
    | _ => False
theorem SRel.same {G0 w0 σ G a w} (h : SRel G0 w0 σ G a w) {g : Nat} {x : AV} (hx : σ.get g = x) : SRel G0 w0 (σ.put (some g) x) G a w :=
 { h with
  slots := fun s => by
   have : (σ.put (some g) x).get s = σ.get s := by
    simp only [St.put, St.get, lookT_put]
    split
    ·rename_i hs; subst hs; exact hx.symm
    ·rfl
   rw [this]; exact h.slots s
  boxes := by rw [put_boxes]; exact h.boxes
  blt := by rw [put_boxes]; exact h.blt
  size := by rw [put_n]; exact h.size }
theorem yielded_bool {ops : Array Oper} {tmps : Array Value} {j g : Nat} {b : Bool} (hg : guardSlot ops j = some g) (hb : tmps.getD g undef = .bool b) : yielded ops tmps j = some b := by
 unfold yielded
 have hlt : tmps[g]? = some (.bool b) := by
  rw [Array.getD_eq_getD_getElem?] at hb
  cases h : tmps[g]? with
  | none => rw [h] at hb; simp [undef] at hb
  | some v => rw [h] at hb; simp at hb; rw [hb]
 simp only [guardSlot] at hg
 simp [hg, hlt]
theorem yielded_none {ops : Array Oper} {tmps : Array Value} {j g : Nat} {vs : Array Value} (hg : guardSlot ops j = some g) (hb : tmps.getD g undef = .tuple vs) : yielded ops tmps j = none := by
 unfold yielded
 simp only [guardSlot] at hg
 rw [hg]
 rw [Array.getD_eq_getD_getElem?] at hb
 cases h : tmps[g]? with
 | none => simp [h]
 | some v => rw [h] at hb; simp at hb; simp [h, hb]
theorem opsA_sound {ops : Array Oper} {Q : Exit → Act → World → Prop} {K : St → Prop} {G0 w0} (h0 : True) (hQ : ∀ σ' G' a' w', K σ' → SRel G0 w0 σ' G' a' w' → Q .normal a' w') :
  ∀ (l : List Oper) (k : Nat) (σ : St) (G : Nat → Status) (a : Act) (w : World), (∀ j, l[j]? = ops[k + j]?) → opsA P ops l σ K → SRel G0 w0 σ G a w → Go.wpOps P ops Q ((List.range l.length).map (k + ·)) a w
 | [], k, σ, G, a, w, _, hw, h => by simpa [Go.wpOps] using hQ σ G a w hw h
 | o :: r, k, σ, G, a, w, hl, hw, h => by
  have ho : ops[k]? = some o := by simpa using (hl 0).symm
  have hl' : ∀ j, r[j]? = ops[k + 1 + j]? := fun j => by have := hl (j + 1); simpa [Nat.add_assoc, Nat.add_comm 1 j] using this
  have hrange : (List.range (o :: r).length).map (k + ·) = k :: (List.range r.length).map (k + 1 + ·) := by
   rw [List.length_cons, List.range_succ_eq_map]
   simp [Function.comp_def, Nat.add_assoc, Nat.add_comm 1]
  rw [hrange]
  simp only [Go.wpOps, ho]
  have run : ∀ {σ}, wpOp P o σ (fun σ' => opsA P ops r σ' K) → SRel G0 w0 σ G a w → o.wp P a w (Go.wpOps P ops Q ((List.range r.length).map (k + 1 + ·))) Q := fun hw h =>
   wpOp_sound hw h h0 _ _ fun σ' G' a' w' hk hs => opsA_sound h0 hQ r (k + 1) σ' G' a' w' hl' hk hs
  simp only [opsA] at hw
  cases hg : o.guard with
  | none =>
   simp only [hg] at hw
   rw [if_pos (by simp [Region.wanted, hg])]
   exact .inl (run hw h)
  | some p =>
   obtain ⟨j, want⟩ := p
   simp only [hg] at hw
   cases hgs : guardSlot ops j with
   | none => simp [hgs] at hw
   | some g =>
    simp only [hgs] at hw
    split at hw
    ·rename_i b hb
     have hv := h.slots g
     rw [hb] at hv
     have hy := yielded_bool hgs hv.sc_inv
     by_cases hbw : b = want
     ·subst hbw
      rw [if_pos (by simp [Region.wanted, hg, hy])]
      exact .inl (run (hw.1 rfl) (h.same hb))
     ·rw [if_neg (by simp [Region.wanted, hg, hy, hbw])]
      have hbn : b = !want := by cases b <;> cases want <;> simp_all
      obtain ⟨hdst, hw⟩ := hw.2 hbn
      have hs := (h.same (g := g) (x := .sc (.bool (!want))) (by rw [hb, hbn])).add (.refl G w) h.good (fun _ _ h => h) (d := o.dst) (x := .sc undef) (v := undef) (by rw [put_n]; exact hdst) (.froz (.sc _))
      exact opsA_sound h0 hQ r (k + 1) _ G _ w hl' hw hs
    ·rename_i vs hb
     have hv := h.slots g
     rw [hb] at hv
     have hy := yielded_none hgs hv.sc_inv
     rw [if_neg (by simp [Region.wanted, hg, hy])]
     obtain ⟨hdst, hw⟩ := hw
     have hs := h.add (.refl G w) h.good (fun _ _ h => h) (d := o.dst) (x := .sc undef) (v := undef) hdst (.froz (.sc _))
     exact opsA_sound h0 hQ r (k + 1) _ G _ w hl' hw hs
    ·exact hw.elim
end
end Go.AM
