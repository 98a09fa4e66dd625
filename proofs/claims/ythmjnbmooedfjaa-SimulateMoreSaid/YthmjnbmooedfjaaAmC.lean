/-
  The abstract machine: the operations that only compute or read, one by one.
-/
import Derived.Test.YthmjnbmooedfjaaAmB
import Derived.Laws.BytesString
import Derived.Laws.CopyRow
namespace Go.AM
open Go.RowKit

section ops
variable {P : Program} {d : Nat} {G : Nat → Status} {w : World}

def leafConst : Value → AV
  | .slice none 0 0 => .nil
  | v => .sc v
def ofConst : Value → AV
  | .agg cs => .ag (cs.toList.map leafConst)
  | v => leafConst v

theorem leafConst_rel (v : Value) : FRel (Stable G) w (leafConst v) v := by
  unfold leafConst; split
  · exact .nil
  · exact .sc _

/-- the kind of a type's variables: made of parts? -/
def aggT (P : Program) (T : TypeId) : Option Bool := (P.underlying T).map fun | .struct _ => true | .array _ _ => true | _ => false

theorem run_isAgg {T : TypeId} {b : Bool} (h : aggT P T = some b) (w : World) : (isAgg T).run P w = .ok b w := by
  unfold aggT at h
  cases hd : P.underlying T with
  | none => simp [hd] at h
  | some d => simp only [hd, Option.map_some, Option.some.injEq] at h; subst h; cases d <;> simp [isAgg, run_underlying hd]

/-! pointers -/
def ptrAdd (x : AV) (n : Nat) : AV :=
  match x with
  | .pb i o => .pb i (o + n)
  | .pe t es xs i o => .pe t es xs i (o + n)
  | .fp cs o => .fp cs (o + n)
  | _ => .any

def isPtr : AV → Bool
  | .pb .. => true
  | .pe .. => true
  | .fp .. => true
  | _ => false

theorem VRel.ptr_inv {x : AV} {v : Value} (h : VRel G w x v) (hx : isPtr x = true) : ∃ b o, v = .pointer (some ⟨b, o, none⟩) ∧ ∀ n, VRel G w (ptrAdd x n) (.pointer (some ⟨b, o + n, none⟩)) := by
  cases x <;> simp only [isPtr, Bool.false_eq_true] at hx
  case pb i o => obtain ⟨b, hb, rfl⟩ := h.pb_inv; exact ⟨b, o, rfl, fun n => .pb _ _ _ hb⟩
  case pe t es xs i o => obtain ⟨b, off, c, h1, h2, rfl⟩ := h.pe_inv; exact ⟨b, _, rfl, fun n => by rw [Nat.add_assoc]; exact .pe _ _ _ _ _ _ _ _ h1 h2⟩
  case fp cs o => obtain ⟨b, vals, h1, rfl, h0, h2, h3⟩ := h.fp_inv; exact ⟨b, o, rfl, fun n => .froz (.fp _ _ _ vals h1 h3.1 h0 h2 h3.2)⟩

/-- the cells that a pointer leads to -/
def cellsAt (bx : List (List AV)) (x : AV) : Option (List AV × Nat) :=
  match x with
  | .pb i o => (bx[i]?).map fun cs => (cs, o)
  | .pe _ _ xs i o => (xs[i]?).map fun x => (x.cells, o)
  | .fp cs o => some (cs, o)
  | .po _ xs i => (xs[i]?).map fun x => ([x], 0)
  | _ => none

theorem cellsAt_rel {gh : Gh} {bx : List (List AV)} {x : AV} {v : Value} {cs : List AV} {o : Nat} (hg : Good G w) (h : VRel G w x v) (hb : BRel gh G w bx) (hc : cellsAt bx x = some (cs, o)) :
    ∃ b k, v = .pointer (some ⟨b, k, none⟩) ∧ ∀ (j : Nat) y, cs[o + j]? = some y → ∃ u, w.cell? ⟨b, k + j, none⟩ = some u ∧ VRel G w y u ∧ u.oneCell' = true := by
  cases x <;> simp only [cellsAt] at hc <;> try (cases hc; done)
  case pb i o' =>
    obtain ⟨b, hb', rfl⟩ := h.pb_inv
    cases hi : bx[i]? with
    | none => simp [hi] at hc
    | some cs' =>
      simp only [hi, Option.map_some, Option.some.injEq, Prod.mk.injEq] at hc
      obtain ⟨rfl, rfl⟩ := hc
      obtain ⟨b', vals, ty, h1, h2, h0, h3⟩ := hb.real hi hb'
      obtain rfl := hg.boxes _ _ _ hb' h1
      refine ⟨b, _, rfl, fun j y hy => ?_⟩
      have hlt : o' + j < vals.toList.length := by rw [← h3.1]; exact (List.getElem?_eq_some_iff.1 hy).1
      have hv := List.getElem?_eq_getElem hlt
      refine ⟨_, ?_, h3.2 _ _ _ hy hv, h0 _ (List.mem_of_getElem? hv)⟩
      simp only [World.cell?, h2]
      simp
  case pe t es xs i o' =>
    obtain ⟨b, off, c, h1, h2, rfl⟩ := h.pe_inv
    rw [List.getElem?_eq_getElem h2] at hc
    simp only [Option.map_some, Option.some.injEq, Prod.mk.injEq] at hc
    obtain ⟨rfl, rfl⟩ := hc
    obtain ⟨ao, c', h3, _, _, _, h4⟩ := h1.sl_inv
    cases h3
    rcases h4 with h4 | ⟨b', off', vals, e, h5, h6, h0, h7, h8⟩
    · subst h4; simp at h2
    · cases e
      refine ⟨b, _, rfl, fun j y hy => ?_⟩
      have hf := flat_cell i (o' + j) h6 (List.getElem?_eq_getElem h2) hy
      have hlt : i * es + (o' + j) < vals.length := by rw [← h8.1]; exact (List.getElem?_eq_some_iff.1 hf).1
      have hv := List.getElem?_eq_getElem hlt
      refine ⟨_, ?_, .froz (h8.2 _ _ _ hf hv), h0 _ (List.mem_of_getElem? hv)⟩
      have := h7 _ _ hv
      rw [show off + i * es + o' + j = off + (i * es + (o' + j)) by omega]; exact this
  case po t xs i =>
    obtain ⟨b, off, c, h1, h2, rfl⟩ := h.po_inv
    rw [List.getElem?_eq_getElem h2] at hc
    simp only [Option.map_some, Option.some.injEq, Prod.mk.injEq] at hc
    obtain ⟨rfl, rfl⟩ := hc
    obtain ⟨ao, c', h3, _, _, h4⟩ := h1.so_inv
    cases h3
    rcases h4 with h4 | ⟨b', vals, e, h7, h0, h8⟩
    · subst h4; simp at h2
    · cases e
      refine ⟨b, _, rfl, fun j y hy => ?_⟩
      have hj : j = 0 := by
        have := (List.getElem?_eq_some_iff.1 hy).1
        simp at this; omega
      subst hj
      simp at hy; subst hy
      have hlt : i < vals.length := by rw [← h8.1]; exact h2
      have hv := List.getElem?_eq_getElem hlt
      refine ⟨_, ?_, (h8.2 _ _ _ (List.getElem?_eq_getElem h2) hv).val, h0 _ (List.mem_of_getElem? hv)⟩
      have := h7 _ _ hv
      simpa using this
  case fp cs' o' =>
    simp only [Option.some.injEq, Prod.mk.injEq] at hc
    obtain ⟨rfl, rfl⟩ := hc
    obtain ⟨b, vals, h1, rfl, h0, h2, h3⟩ := h.fp_inv
    refine ⟨b, _, rfl, fun j y hy => ?_⟩
    have hlt : o' + j < vals.length := by rw [← h3.1]; exact (List.getElem?_eq_some_iff.1 hy).1
    have hv := List.getElem?_eq_getElem hlt
    exact ⟨_, h2 _ _ hv, .froz (h3.2 _ _ _ hy hv), h0 _ (List.mem_of_getElem? hv)⟩

def evLoad (P : Program) (bx : List (List AV)) (T : TypeId) (x : AV) (K : AV → Prop) : Prop :=
  match cellsAt bx x with
  | none => False
  | some (cs, o) =>
    match aggT P T with
    | none => False
    | some false => (∃ y, cs[o]? = some y ∧ K y)
    | some true => match tinfo P T with
      | none => False
      | some (sz, _, _) => o + sz ≤ cs.length ∧ K (.ag ((cs.drop o).take sz))

theorem evLoad_reads {bx : List (List AV)} {T : TypeId} {x : AV} {K : AV → Prop} (h : evLoad P bx T x K) :
    ∃ r, K r ∧ ∀ (gh : Gh) (G : Nat → Status) (w : World) (v : Value), Good G w → BRel gh G w bx → VRel G w x v → ∃ u, (Instr.loadAt T v).run P w = .ok u w ∧ VRel G w r u := by
  unfold evLoad at h
  cases hc : cellsAt bx x with
  | none => simp [hc] at h
  | some p =>
    obtain ⟨cs, o⟩ := p
    simp only [hc] at h
    cases ha : aggT P T with
    | none => simp [ha] at h
    | some b =>
      cases b with
      | false =>
        simp only [ha] at h
        obtain ⟨y, hy, hK⟩ := h
        refine ⟨y, hK, fun gh G w v hg hb hv => ?_⟩
        obtain ⟨b, k, rfl, hcell⟩ := cellsAt_rel hg hv hb hc
        obtain ⟨u, h1, h2, _⟩ := hcell 0 y (by simpa using hy)
        refine ⟨u, ?_, h2⟩
        simp only [Nat.add_zero] at h1
        simp [Instr.loadAt, Instr.sureAddr, loadVar, run_isAgg ha, h1]
      | true =>
        simp only [ha] at h
        cases ht : tinfo P T with
        | none => simp [ht] at h
        | some q =>
          obtain ⟨sz, by_, z⟩ := q
          simp only [ht] at h
          obtain ⟨hlen, hK⟩ := h
          refine ⟨_, hK, fun gh G w v hg hb hv => ?_⟩
          obtain ⟨b, k, rfl, hcell⟩ := cellsAt_rel hg hv hb hc
          have hex : ∃ f : Nat → Value, ∀ j, j < sz → ∃ y, cs[o + j]? = some y ∧ w.cell? ⟨b, k + j, none⟩ = some (f j) ∧ VRel G w y (f j) ∧ (f j).oneCell' = true := by
            refine ⟨fun j => (w.cell? ⟨b, k + j, none⟩).getD undef, fun j hj => ?_⟩
            have hl : o + j < cs.length := by omega
            obtain ⟨u, h1, h2, h3⟩ := hcell j _ (List.getElem?_eq_getElem hl)
            exact ⟨_, List.getElem?_eq_getElem hl, by simp only [h1, Option.getD_some], by simp only [h1, Option.getD_some]; exact h2, by simp only [h1, Option.getD_some]; exact h3⟩
          obtain ⟨f, hf⟩ := hex
          refine ⟨.agg ((List.range sz).map f).toArray, ?_, .ag _ _ ?_ ?_ ?_⟩
          · have := run_loadCells (P := P) w ⟨b, k, none⟩ sz f (fun j hj => by rw [Addr.add_none]; obtain ⟨_, _, h, _⟩ := hf j hj; exact h)
            simp [Instr.loadAt, Instr.sureAddr, loadVar, run_isAgg ha, run_sizeOf ht, this]
          · simp; omega
          · intro u hu
            simp only [List.mem_map, List.mem_range] at hu
            obtain ⟨j, hj, rfl⟩ := hu
            obtain ⟨_, _, _, _, h⟩ := hf j hj; exact h
          · intro j x u hx hu
            simp only [List.getElem?_map] at hu
            have hj : j < sz := by
              rcases Nat.lt_or_ge j sz with h | h
              · exact h
              · simp [h] at hu
            simp [hj] at hu
            rw [List.getElem?_take, if_pos hj, List.getElem?_drop] at hx
            obtain ⟨y, h1, _, h2, _⟩ := hf j hj
            rw [h1] at hx; cases hx; rw [← hu]; exact h2

theorem evLoad_sound {bx : List (List AV)} {T : TypeId} {x : AV} {K : AV → Prop} (h : evLoad P bx T x K) :
    ∃ r, K r ∧ ∀ (d : Nat) (gh : Gh) (G : Nat → Status) (w : World) (v : Value), Good G w → BRel gh G w bx → VRel G w x v → Does P d G w (Instr.loadAt T v) r := by
  obtain ⟨r, hK, hr⟩ := evLoad_reads h
  refine ⟨r, hK, fun d gh G w v hg hb hv => ?_⟩
  obtain ⟨u, h1, h2⟩ := hr gh G w v hg hb hv
  exact .pure hg h1 h2

/-! addresses -/
def evIndexAddr (P : Program) (T : TypeId) (x i : AV) (K : AV → Prop) : Prop :=
  match i with
  | .sc (.int _ n) =>
    match P.underlying T, x with
    | some (.slice E), .sl t es xs => (∃ q, tinfo P E = some q ∧ q.1 = es) ∧ 0 ≤ n ∧ n < xs.length ∧ K (.pe t es xs n.toNat 0)
    | some (.slice E), .so t xs => (∃ q, tinfo P E = some q ∧ q.1 = 1) ∧ 0 ≤ n ∧ n < xs.length ∧ K (.po t xs n.toNat)
    | some (.slice E), .tl t es xs i => (∃ q, tinfo P E = some q ∧ q.1 = es) ∧ 0 ≤ n ∧ i + n < xs.length ∧ K (.pe t es xs (i + n.toNat) 0)
    | some (.array len E), x => isPtr x = true ∧ 0 ≤ n ∧ n < len ∧ (∃ q, tinfo P E = some q ∧ K (ptrAdd x (n.toNat * q.1)))
    | _, _ => False
  | _ => False

theorem evIndexAddr_sound {T : TypeId} {x i : AV} {K : AV → Prop} (h : evIndexAddr P T x i K) :
    ∃ r, K r ∧ ∀ (d : Nat) (G : Nat → Status) (w : World) (v u : Value), Good G w → VRel G w x v → VRel G w i u → Does P d G w (Instr.indexAt T v u) r := by
  unfold evIndexAddr at h
  split at h
  · rename_i k n
    split at h
    · rename_i E t es xs hT
      obtain ⟨⟨⟨sz, by_, z⟩, hq, rfl⟩, h0, h1, hK⟩ := h
      refine ⟨_, hK, fun d G w v u hg hv hu => ?_⟩
      obtain rfl := hu.sc_inv
      obtain ⟨ao, c, rfl, h2, h3, _, h4⟩ := hv.sl_inv
      rcases h4 with rfl | ⟨b, off, vals, rfl, hs⟩
      · simp at h1; omega
      · refine .pure hg (v := .pointer (some ⟨b, off + n.toNat * sz + 0, none⟩)) ?_ (.pe _ _ _ _ _ _ _ c hv (by omega))
        simp [Instr.indexAt, asIntOf, run_underlying hT, h0, h1, run_sizeOf hq, Addr.add_none]
    · rename_i E t xs hT
      obtain ⟨⟨⟨sz, by_, z⟩, hq, rfl⟩, h0, h1, hK⟩ := h
      refine ⟨_, hK, fun d G w v u hg hv hu => ?_⟩
      obtain rfl := hu.sc_inv
      obtain ⟨ao, c, rfl, h3, _, h4⟩ := hv.so_inv
      rcases h4 with rfl | ⟨b, vals, rfl, hs⟩
      · simp at h1; omega
      · refine .pure hg (v := .pointer (some ⟨b, 0 + n.toNat, none⟩)) ?_ (.po _ _ _ _ _ c hv (by omega))
        simp [Instr.indexAt, asIntOf, run_underlying hT, h0, h1, run_sizeOf hq, Addr.add_none]
    · rename_i E t es xs i hT
      obtain ⟨⟨⟨sz, by_, z⟩, hq, rfl⟩, h0, h1, hK⟩ := h
      refine ⟨_, hK, fun d G w v u hg hv hu => ?_⟩
      obtain rfl := hu.sc_inv
      obtain ⟨b, off, off', c, h2, h3, h4, hc, rfl⟩ := hv.tl_inv
      obtain rfl : off' = off + i * sz := by rcases h4 with h4 | h4 <;> omega
      refine .pure hg (v := .pointer (some ⟨b, off + (i + n.toNat) * sz + 0, none⟩)) ?_ (.pe _ _ _ _ _ _ _ c h2 (by omega))
      have h1' : n < ((xs.length - i : Nat) : Int) := by omega
      simp [Instr.indexAt, asIntOf, run_underlying hT, h0, h1', run_sizeOf hq, Addr.add_none, Nat.add_mul, Nat.add_assoc]
    · rename_i len E hT
      obtain ⟨hp, h0, h1, ⟨sz, by_, z⟩, hq, hK⟩ := h
      refine ⟨_, hK, fun d G w v u hg hv hu => ?_⟩
      obtain rfl := hu.sc_inv
      obtain ⟨b, o, rfl, ho⟩ := hv.ptr_inv hp
      refine .pure hg (v := .pointer (some ⟨b, o + n.toNat * sz, none⟩)) ?_ (ho _)
      simp [Instr.indexAt, asIntOf, run_underlying hT, Instr.sureAddr, h0, h1, run_sizeOf hq, Addr.add_none]
    · exact h.elim
  · exact h.elim

/-- a field's place and type -/
def fieldOf (P : Program) (T : TypeId) (f : Nat) : Option (Nat × TypeId) :=
  match P.underlying T with
  | some (.struct fs) => (fs[f]?).map fun fd => (fd.offset, fd.type)
  | _ => none

theorem fieldOf_some {T : TypeId} {f off : Nat} {ty : TypeId} (h : fieldOf P T f = some (off, ty)) : ∃ fs fd, P.underlying T = some (.struct fs) ∧ fs[f]? = some fd ∧ fd.offset = off ∧ fd.type = ty := by
  unfold fieldOf at h
  split at h
  · rename_i fs hT
    cases hf : fs[f]? with
    | none => simp [hf] at h
    | some fd => simp [hf] at h; exact ⟨fs, fd, hT, hf, h.1, h.2⟩
  · cases h

def evFieldAddr (P : Program) (T : TypeId) (x : AV) (f : Nat) (K : AV → Prop) : Prop :=
  isPtr x = true ∧ ∃ p, fieldOf P T f = some p ∧ (∃ q, tinfo P p.2 = some q ∧ q.1 ≠ 0) ∧ K (ptrAdd x p.1)

theorem evFieldAddr_sound {T : TypeId} {x : AV} {f : Nat} {K : AV → Prop} (h : evFieldAddr P T x f K) :
    ∃ r, K r ∧ ∀ (d : Nat) (G : Nat → Status) (w : World) (v : Value), Good G w → VRel G w x v → Does P d G w (Instr.fieldAt T v f) r := by
  obtain ⟨hp, ⟨off, ty⟩, hf, ⟨⟨sz, by_, z⟩, hq, h0⟩, hK⟩ := h
  obtain ⟨fs, fd, hT, hfd, rfl, rfl⟩ := fieldOf_some hf
  refine ⟨_, hK, fun d G w v hg hv => ?_⟩
  obtain ⟨b, o, rfl, ho⟩ := hv.ptr_inv hp
  refine .pure hg (v := .pointer (some ⟨b, o + fd.offset, none⟩)) ?_ (ho _)
  simp only at h0 hq
  simp [Instr.fieldAt, run_underlying hT, hfd, Instr.sureAddr, fieldPlace, run_sizeOf hq, h0, Addr.add_none]

/-! parts of values -/
def evPart (P : Program) (T : TypeId) (cs : List AV) (o : Nat) (K : AV → Prop) : Prop :=
  match aggT P T with
  | none => False
  | some false => ∃ y, cs[o]? = some y ∧ K y
  | some true => match tinfo P T with
    | none => False
    | some (sz, _, _) => o + sz ≤ cs.length ∧ K (.ag ((cs.drop o).take sz))

theorem evPart_sound {T : TypeId} {cs : List AV} {o : Nat} {K : AV → Prop} (h : evPart P T cs o K) :
    ∃ r, K r ∧ ∀ (d : Nat) (G : Nat → Status) (w : World) (vs : Array Value), Good G w → One vs.toList → PW (VRel G w) cs vs.toList → Does P d G w (part T vs o) r := by
  unfold evPart at h
  cases ha : aggT P T with
  | none => simp [ha] at h
  | some b =>
    cases b with
    | false =>
      simp only [ha] at h
      obtain ⟨y, hy, hK⟩ := h
      refine ⟨y, hK, fun d G w vs hg h0 hv => ?_⟩
      have hlt : o < vs.toList.length := by rw [← hv.1]; exact (List.getElem?_eq_some_iff.1 hy).1
      have hu := List.getElem?_eq_getElem hlt
      refine .pure hg (v := vs.toList[o]) ?_ (hv.2 _ _ _ hy hu)
      have : vs[o]? = some vs.toList[o] := by simp
      simp [part, run_isAgg ha, this]
    | true =>
      simp only [ha] at h
      cases ht : tinfo P T with
      | none => simp [ht] at h
      | some q =>
        obtain ⟨sz, by_, z⟩ := q
        simp only [ht] at h
        obtain ⟨hlen, hK⟩ := h
        refine ⟨_, hK, fun d G w vs hg h0 hv => ?_⟩
        have hext : (vs.extract o (o + sz)).toList = (vs.toList.drop o).take sz := by
          simp [Array.toList_extract, List.extract]
        refine .pure hg (v := .agg (vs.extract o (o + sz))) (by simp [part, run_isAgg ha, run_sizeOf ht]) ?_
        have hp := (hv.drop o).take sz
        refine .ag _ _ ?_ ?_ ?_
        · rw [hext]; exact hp.1
        · rw [hext]; intro u hu; exact h0 u (List.mem_of_mem_drop (List.mem_of_mem_take hu))
        · rw [hext]; exact hp.2

def evField (P : Program) (T : TypeId) (x : AV) (f : Nat) (K : AV → Prop) : Prop :=
  match x with
  | .ag cs => ∃ p, fieldOf P T f = some p ∧ evPart P p.2 cs p.1 K
  | _ => False

theorem evField_sound {T : TypeId} {x : AV} {f : Nat} {K : AV → Prop} (h : evField P T x f K) :
    ∃ r, K r ∧ ∀ (d : Nat) (G : Nat → Status) (w : World) (v : Value), Good G w → VRel G w x v → Does P d G w (Instr.field T v f) r := by
  unfold evField at h
  split at h
  · rename_i cs
    obtain ⟨⟨off, ty⟩, hf, hp⟩ := h
    obtain ⟨fs, fd, hT, hfd, rfl, rfl⟩ := fieldOf_some hf
    obtain ⟨r, hK, hr⟩ := evPart_sound hp
    refine ⟨r, hK, fun d G w v hg hv => ?_⟩
    obtain ⟨vs, rfl, h0, hv⟩ := hv.ag_inv
    obtain ⟨v, w', G', h1, h2⟩ := hr d G w vs hg h0 hv
    exact ⟨v, w', G', by simpa [Instr.field, run_underlying hT, hfd, asAgg] using h1, h2⟩
  · exact h.elim

def evIndex (P : Program) (T : TypeId) (x i : AV) (K : AV → Prop) : Prop :=
  match i with
  | .sc (.int _ n) =>
    match P.underlying T, x with
    | some (.array len E), .ag cs => 0 ≤ n ∧ n < len ∧ (∃ q, tinfo P E = some q ∧ evPart P E cs (n.toNat * q.1) K)
    | some .string, .sc (.string s) => 0 ≤ n ∧ (∃ b, s[n.toNat]? = some b ∧ K (.sc (.int .u8 b.toNat)))
    | _, _ => False
  | _ => False

theorem evIndex_sound {T : TypeId} {x i : AV} {K : AV → Prop} (h : evIndex P T x i K) :
    ∃ r, K r ∧ ∀ (d : Nat) (G : Nat → Status) (w : World) (v u : Value), Good G w → VRel G w x v → VRel G w i u → Does P d G w (Instr.index T v u) r := by
  unfold evIndex at h
  split at h
  · rename_i k n
    split at h
    · rename_i len E cs hT
      obtain ⟨h0, h1, ⟨sz, by_, z⟩, hq, hp⟩ := h
      obtain ⟨r, hK, hr⟩ := evPart_sound hp
      refine ⟨r, hK, fun d G w v u hg hv hu => ?_⟩
      obtain rfl := hu.sc_inv
      obtain ⟨vs, rfl, h00, hv⟩ := hv.ag_inv
      obtain ⟨v, w', G', h2, h3⟩ := hr d G w vs hg h00 hv
      exact ⟨v, w', G', by simpa [Instr.index, asIntOf, run_underlying hT, h0, h1, run_sizeOf hq] using h2, h3⟩
    · rename_i s hT
      obtain ⟨h0, b, hb, hK⟩ := h
      refine ⟨_, hK, fun d G w v u hg hv hu => ?_⟩
      obtain rfl := hu.sc_inv
      obtain rfl := hv.sc_inv
      exact .pure hg (v := .int .u8 b.toNat) (by simp [Instr.index, asIntOf, run_underlying hT, h0, hb]) (.froz (.sc _))
    · exact h.elim
  · exact h.elim

def evExtract (x : AV) (i : Nat) (K : AV → Prop) : Prop :=
  match x with
  | .tup xs => ∃ y, xs[i]? = some y ∧ K y
  | _ => False

theorem evExtract_sound {x : AV} {i : Nat} {K : AV → Prop} (h : evExtract x i K) :
    ∃ r, K r ∧ ∀ (d : Nat) (G : Nat → Status) (w : World) (v : Value), Good G w → VRel G w x v → Does P d G w (Instr.extract v i) r := by
  unfold evExtract at h
  split at h
  · obtain ⟨y, hy, hK⟩ := h
    refine ⟨y, hK, fun d G w v hg hv => ?_⟩
    obtain ⟨vs, rfl, hv'⟩ := hv.tup_inv
    have hlt : i < vs.toList.length := by rw [← hv'.1]; exact (List.getElem?_eq_some_iff.1 hy).1
    have hu := List.getElem?_eq_getElem hlt
    refine .pure hg (v := vs.toList[i]) ?_ (hv'.2 _ _ _ hy hu)
    have : vs[i]? = some vs.toList[i] := by simp
    simp [Instr.extract, this]
  · exact h.elim

/-! one operand -/
def evUn (op : UnOp) (x : AV) (K : AV → Prop) : Prop :=
  match op, x with
  | .not, .sc (.bool b) => K (.sc (.bool (!b)))
  | .not, .ub => K .ub
  | .neg, .sc (.int k n) => K (.sc (.int k (k.wrap (0 - n))))
  | _, _ => False

theorem evUn_sound {op : UnOp} {x : AV} {K : AV → Prop} (h : evUn op x K) :
    ∃ r, K r ∧ ∀ (d : Nat) (G : Nat → Status) (w : World) (v : Value), Good G w → VRel G w x v → Does P d G w (Op.unary op v) r := by
  unfold evUn at h
  split at h
  · refine ⟨_, h, fun d G w v hg hv => ?_⟩
    obtain rfl := hv.sc_inv
    exact .pure hg (by simp [Op.unary]) (.froz (.sc _))
  · refine ⟨_, h, fun d G w v hg hv => ?_⟩
    obtain ⟨b, rfl⟩ := hv.ub_inv
    exact .pure hg (v := .bool (!b)) (by simp [Op.unary]) (.froz (.ub _))
  · refine ⟨_, h, fun d G w v hg hv => ?_⟩
    obtain rfl := hv.sc_inv
    exact .pure hg (by simp [Op.unary, Op.intArith]) (.froz (.sc _))
  · exact h.elim

/-- known bytes -/
def bytesOf : List AV → Option (List Int)
  | [] => some []
  | .sc (.int .u8 n) :: r => (bytesOf r).map (n :: ·)
  | _ => none
def strOf (ns : List Int) : ByteArray := ns.foldl (fun r n => r.push (UInt8.ofNat n.toNat)) ByteArray.empty

theorem bytesOf_eq : ∀ {xs : List AV} {ns : List Int}, bytesOf xs = some ns → xs = ns.map fun n => .sc (.int .u8 n)
  | [], ns, h => by cases h; rfl
  | x :: r, ns, h => by
    unfold bytesOf at h
    split at h
    · rename_i e; cases e
    · rename_i n r' e
      cases e
      cases hb : bytesOf r with
      | none => simp [hb] at h
      | some ms => simp [hb] at h; subst h; rw [bytesOf_eq hb]; rfl
    · cases h

def evConv (P : Program) (src dst : TypeId) (x : AV) (K : AV → Prop) : Prop :=
  match P.underlying src, P.underlying dst, x with
  | some (.int _), some (.int k), .sc (.int _ n) => K (.sc (.int k (k.wrap n)))
  | some .string, some .string, .sc (.string s) => K (.sc (.string s))
  | some (.slice e), some .string, .sl _ 1 xs => P.underlying e = some (.int .u8) ∧ xs ≠ [] ∧ ∃ ns, bytesOf xs = some ns ∧ K (.sc (.string (strOf ns)))
  | _, _, _ => False

theorem evConv_sound {src dst : TypeId} {x : AV} {K : AV → Prop} (h : evConv P src dst x K) :
    ∃ r, K r ∧ ∀ (d : Nat) (G : Nat → Status) (w : World) (v : Value), Good G w → VRel G w x v → Does P d G w (convert src dst v) r := by
  unfold evConv at h
  split at h
  · rename_i h1 h2
    refine ⟨_, h, fun d G w v hg hv => ?_⟩
    obtain rfl := hv.sc_inv
    exact .pure hg (by simp [convert, run_underlying h1, run_underlying h2, Conv.intToInt]) (.froz (.sc _))
  · rename_i h1 h2
    refine ⟨_, h, fun d G w v hg hv => ?_⟩
    obtain rfl := hv.sc_inv
    exact .pure hg (by simp [convert, run_underlying h1, run_underlying h2]) (.froz (.sc _))
  · rename_i e t xs h1 h2
    obtain ⟨h3, hne, ns, hns, hK⟩ := h
    refine ⟨_, hK, fun d G w v hg hv => ?_⟩
    have hxs := bytesOf_eq hns
    obtain ⟨ao, c, rfl, _, _, _, h | ⟨b, off, vals, rfl, _, g1, g2, g3, g4⟩⟩ := hv.sl_inv
    · exact absurd h hne
    · have hflat : flat xs = xs := by
        have : ∀ ms : List Int, flat (ms.map fun n => AV.sc (.int .u8 n)) = ms.map fun n => AV.sc (.int .u8 n) := fun ms => by
          induction ms with
          | nil => rfl
          | cons n ms ih => simp only [List.map_cons, flat, List.flatMap_cons, AV.cells] at ih ⊢; rw [ih]; rfl
        rw [hxs]; exact this ns
      rw [hflat] at g4
      have hvals : vals = ns.map (Value.int .u8) := by
        apply List.ext_getElem?
        intro j
        have hlen := g4.1
        by_cases hj : j < vals.length
        · obtain ⟨u, hu⟩ : ∃ u, vals[j]? = some u := ⟨vals[j], by simp [hj]⟩
          have hjx : j < xs.length := by omega
          have hxj : xs[j]? = (ns[j]?).map fun n => AV.sc (.int .u8 n) := by rw [hxs, List.getElem?_map]
          cases hn : ns[j]? with
          | none => rw [hn] at hxj; simp at hxj; omega
          | some n =>
            rw [hn] at hxj
            have hr := g4.2 j _ u hxj hu
            cases hr
            rw [hu, List.getElem?_map, hn]; rfl
        · have hnl : xs.length = ns.length := by rw [hxs, List.length_map]
          rw [List.getElem?_eq_none (by omega), List.getElem?_eq_none (by rw [List.length_map]; omega)]
      have hl := run_loadCells_list (P := P) w ⟨b, off, none⟩ vals (fun j u hj => by rw [Addr.add_none]; exact g3 j u hj)
      have hlen : vals.length = xs.length := g4.1.symm
      rw [hlen, hvals] at hl
      refine .pure hg ?_ (.froz (.sc _))
      rw [run_convert_bytes_string w src dst e _ _ _ h1 h3 h2, run_bytesToString w _ _ _ ns hl]
      rfl
  · exact h.elim

end ops
end Go.AM
