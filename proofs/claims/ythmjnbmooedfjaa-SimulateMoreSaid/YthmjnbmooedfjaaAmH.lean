/-
  The abstract machine: make, struct literals, variables, stores.
-/
import Derived.Test.YthmjnbmooedfjaaAmG
import Derived.Lib.AppendZeros
namespace Go.AM
open Go.RowKit

section ops
variable {P : Program}

/-! ### make -/
theorem ofConst_cells {S : Nat → Prop} {w : World} (z : Value) (h1 : z.cells.toList.all (fun u => u.oneCell') = true) : PW (FRel S w) (ofConst z).cells z.cells.toList ∧ One z.cells.toList := by
  have hone : One z.cells.toList := fun u hu => List.all_eq_true.1 h1 u hu
  refine ⟨?_, hone⟩
  have hleaf : ∀ u : Value, FRel S w (leafConst u) u := fun u => by
    unfold leafConst; split
    · exact .nil
    · exact .sc _
  have hl : ∀ u : Value, (leafConst u).cells = [leafConst u] := fun u => by
    unfold leafConst; split <;> rfl
  cases z with
  | agg cs =>
    simp only [ofConst, AV.cells, Value.cells]
    refine ⟨by simp, fun j x u hx hu => ?_⟩
    simp only [List.getElem?_map, hu, Option.map_some, Option.some.injEq] at hx
    rw [← hx]; exact hleaf u
  | tuple vs => simp [Value.cells, Value.oneCell'] at h1
  | _ => simp only [ofConst, Value.cells, hl]; exact .cons (hleaf _) (.nil _)

theorem flat_replicate {x : AV} : ∀ (n j : Nat), 0 < x.cells.length → j < n * x.cells.length → (flat (List.replicate n x))[j]? = x.cells[j % x.cells.length]?
  | 0, j, _, h => by simp at h
  | n + 1, j, h0, h => by
    simp only [flat, List.replicate_succ, List.flatMap_cons]
    by_cases hj : j < x.cells.length
    · rw [List.getElem?_append_left hj, Nat.mod_eq_of_lt hj]
    · rw [List.getElem?_append_right (by omega)]
      have := flat_replicate (x := x) n (j - x.cells.length) h0 (by rw [Nat.succ_mul] at h; omega)
      simp only [flat] at this
      rw [this, ← Nat.mod_eq_sub_mod (by omega)]

/-- a zero value's cells are plain -/
def zeroOk (sz : Nat) (z : Value) : Bool := decide (z.cells.size = sz) && z.cells.toList.all fun u => u.oneCell'

def evMake (P : Program) (d : Nat) (T : TypeId) (l c : AV) (K : AV → Prop) : Prop :=
  match P.underlying T, l, c with
  | some (.slice E), .sc (.int _ l), .sc (.int _ c) => ∃ q, tinfo P E = some q ∧ 0 < q.1 ∧ 0 ≤ l ∧ l ≤ c ∧ (q.2.1 : Int) * c ≤ 281474976710656 ∧ c ≤ 9223372036854775807 ∧
      ∃ z, q.2.2 = some z ∧ zeroOk q.1 z = true ∧ K (.sl (64 * (d + 1)) q.1 (List.replicate l.toNat (ofConst z)))
  | _, _, _ => False

theorem evMake_sound {d : Nat} {T : TypeId} {l c : AV} {K : AV → Prop} (h : evMake P d T l c K) :
    ∃ r, K r ∧ ∀ (G : Nat → Status) (w : World) (v u : Value), Good G w → Fresh d G → VRel G w l v → VRel G w c u → Does P d G w (Instr.makeSlice T v u) r := by
  unfold evMake at h
  split at h
  · rename_i E k l k' c hT
    obtain ⟨⟨sz, by_, z⟩, hq, h0, hl, hlc, hb, h63, z', hz, hzo, hK⟩ := h
    simp only at h0 hb hz hzo
    subst hz
    obtain ⟨i, hi, hsz, hby, hzz⟩ := tinfo_some hq
    simp only [zeroOk, Bool.and_eq_true, decide_eq_true_eq] at hzo
    refine ⟨_, hK, fun G w v u hg hf hv hu => ?_⟩
    obtain rfl := hv.sc_inv; obtain rfl := hu.sc_inv
    have hrun := run_make (P := P) w T E i z' hT hi hzz k k' l c hl hlc (by rw [hby]; exact hb) h63
    rw [hsz] at hrun
    obtain ⟨hp, hone⟩ := ofConst_cells (S := Stable G) (w := w) z' hzo.2
    have hcl : (ofConst z').cells.length = sz := by rw [hp.1]; simpa using hzo.1
    have hle : l.toNat * sz ≤ c.toNat * sz := Nat.mul_le_mul_right _ (by omega)
    have hget : ∀ j, j < c.toNat * sz → (madeCells z'.cells (c.toNat * sz)).toList[j]? = z'.cells.toList[j % sz]? := by
      intro j hj
      have hm : j % sz < z'.cells.size := by rw [hzo.1]; exact Nat.mod_lt _ h0
      simp only [madeCells, Array.toList_map, List.getElem?_map, Array.toList_range, List.getElem?_range hj, Option.map_some, hzo.1, Array.getElem?_toList, Array.getElem?_eq_getElem hm]
      rw [getElem!_pos z'.cells (j % sz) hm]
    have hpw : PW (FRel (Stable G) w) (flat (List.replicate l.toNat (ofConst z'))) ((madeCells z'.cells (c.toNat * sz)).toList.take (l.toNat * sz)) := by
      have hlen : (flat (List.replicate l.toNat (ofConst z'))).length = l.toNat * sz := by
        rw [flat_length (es := sz) (fun x hx => by rw [List.eq_of_mem_replicate hx]; exact hcl)]; simp
      refine ⟨by rw [hlen, List.length_take, Array.length_toList, size_madeCells]; omega, fun j x u hx hu => ?_⟩
      have hj : j < l.toNat * sz := by rw [← hlen]; exact (List.getElem?_eq_some_iff.1 hx).1
      rw [flat_replicate _ _ (by omega) (by rw [hcl]; exact hj), hcl] at hx
      rw [List.getElem?_take, if_pos hj, hget j (by omega)] at hu
      exact hp.2 _ _ _ hx hu
    have hones : One ((madeCells z'.cells (c.toNat * sz)).toList.take (l.toNat * sz)) := by
      intro u hu
      obtain ⟨j, hj⟩ := List.getElem?_of_mem (List.mem_of_mem_take hu)
      have hjl : j < c.toNat * sz := by have := (List.getElem?_eq_some_iff.1 hj).1; rwa [Array.length_toList, size_madeCells] at this
      rw [hget j hjl] at hj
      exact hone u (List.mem_of_getElem? hj)
    refine ⟨_, _, updG G w.heap.size (.tag (64 * (d + 1))), hrun, ?_, .alloc _ _, hg.upd _ _ (Nat.le_refl _) (by simp) (by simp) (fun t ht b hb => ?_) (fun i h => by cases h), .upd hf.own⟩
    · refine .own _ sz _ _ E ((madeCells z'.cells (c.toNat * sz)).toList.take (l.toNat * sz)) (by omega) ⟨?_, .inr ⟨w.heap.size, c.toNat, _, by simp, Nat.zero_le _, heap_alloc_new w _, ?_, ?_, size_madeCells _ _, by simp⟩⟩ (fun b hb => ?_) (fun x hx => by rw [List.eq_of_mem_replicate hx]; exact hcl) hones (hpw.mono fun x y _ hr => hr.mono (fun b hb => ?_) (fun b hb => ?_))
      · rw [List.length_take, Array.length_toList, size_madeCells, List.length_replicate]; omega
      · simp; omega
      · simp only [maxLen]; omega
      · simp only [Value.ownBlock, Option.some.injEq] at hb; simp [updG, ← hb]
      · have := hg.lt b (by unfold Stable at hb; rw [hb]; simp)
        unfold Stable at *; simp [updG, Nat.ne_of_lt this, hb]
      · exact heap_alloc_old w _ (hg.lt b (by unfold Stable at hb; rw [hb]; simp))
    · cases ht; exact hf.ne hb
  · exact h.elim

/-- a variable that is only this call's, as the one element of what it owns -/
def evAllocE (P : Program) (d : Nat) (T : TypeId) (K : AV → Prop) : Prop :=
  ∃ q, tinfo P T = some q ∧ ∃ z, q.2.2 = some z ∧ zeroOk q.1 z = true ∧ K (.pe (64 * (d + 1)) q.1 [ofConst z] 0 0)

theorem evAllocE_sound {d : Nat} {T : TypeId} {K : AV → Prop} (h : evAllocE P d T K) :
    ∃ r, K r ∧ ∀ (G : Nat → Status) (w : World), Good G w → Fresh d G → Does P d G w (Instr.alloc T true (.tuple #[])) r := by
  obtain ⟨⟨sz, by_, z⟩, hq, z', hz, hzo, hK⟩ := h
  simp only at hz hzo
  subst hz
  obtain ⟨i, hi, hsz, hby, hzz⟩ := tinfo_some hq
  simp only [zeroOk, Bool.and_eq_true, decide_eq_true_eq] at hzo
  refine ⟨_, hK, fun G w hg hf => ?_⟩
  have hrun : (Instr.alloc T true (.tuple #[])).run P w = .ok (.pointer (some ⟨w.heap.size, 0, none⟩)) (w.alloc (.cells z'.cells T)) := by
    simp [Instr.alloc, newVar, newRow, zeroValue, typeInfo, hi, hzz]
  obtain ⟨hp, hone⟩ := ofConst_cells (S := Stable G) (w := w) z' hzo.2
  have hcl : (ofConst z').cells.length = sz := by rw [hp.1]; simpa using hzo.1
  have hfl : flat [ofConst z'] = (ofConst z').cells := by simp [flat]
  have hsl : VRel (updG G w.heap.size (.tag (64 * (d + 1)))) (w.alloc (.cells z'.cells T)) (.sl (64 * (d + 1)) sz [ofConst z']) (.slice (some ⟨w.heap.size, 0, none⟩) 1 1) := by
    refine .own _ sz _ _ T z'.cells.toList (by omega) ⟨?_, .inr ⟨w.heap.size, 1, _, by simp, Nat.zero_le _, heap_alloc_new w _, ?_, ?_, ?_, ?_⟩⟩ (fun b hb => ?_) (fun x hx => by simp at hx; subst hx; exact hcl) hone ?_
    · simp [hzo.1]
    · simp
    · simp [maxLen]
    · rw [hzo.1]; omega
    · rw [List.length_singleton, Nat.one_mul, ← hzo.1]; exact List.take_of_length_le (by simp)
    · simp only [Value.ownBlock, Option.some.injEq] at hb; simp [updG, ← hb]
    · rw [hfl]
      refine hp.mono fun x y _ hr => hr.mono (fun b hb => ?_) (fun b hb => ?_)
      · have := hg.lt b (by unfold Stable at hb; rw [hb]; simp)
        unfold Stable at *; simp [updG, Nat.ne_of_lt this, hb]
      · exact heap_alloc_old w _ (hg.lt b (by unfold Stable at hb; rw [hb]; simp))
  refine ⟨_, _, updG G w.heap.size (.tag (64 * (d + 1))), hrun, ?_, .alloc _ _, hg.upd _ _ (Nat.le_refl _) (by simp) (by simp) (fun t ht b hb => ?_) (fun i h => by cases h), .upd hf.own⟩
  · have := VRel.pe (64 * (d + 1)) sz [ofConst z'] 0 0 w.heap.size 0 1 hsl (by simp)
    simpa using this
  · cases ht; exact hf.ne hb

theorem size_alloc (w : World) (o : Obj) : (w.alloc o).heap.size = w.heap.size + 1 := by simp

/-- append of so many zeros, to nil -/
def evAppendZ (P : Program) (d : Nat) (T T' : TypeId) (x : AV) (n : Int) (K : AV → Prop) : Prop :=
  match P.underlying T, P.underlying T', x with
  | some (.slice E), some (.int _), .nil => ∃ q, tinfo P E = some q ∧ 0 < q.1 ∧ 0 < n ∧ n.toNat * q.2.1 ≤ 140737488355328 ∧ n ≤ 9223372036854775807 ∧
      ∃ z, q.2.2 = some z ∧ zeroOk q.1 z = true ∧ K (.sl (64 * (d + 1)) q.1 (List.replicate n.toNat (ofConst z)))
  | _, _, _ => False

theorem evAppendZ_sound {d : Nat} {T T' : TypeId} {x : AV} {k : IntKind} {n : Int} {K : AV → Prop} (h : evAppendZ P d T T' x n K) :
    ∃ r, K r ∧ ∀ (ty : TypeId) (G : Nat → Status) (w : World) (v u : Value), Good G w → Fresh d G → VRel G w x v → VRel G w (.sc (.int k n)) u → Does P d G w (Builtin.append_ #[T, T'] ty #[v, u]) r := by
  unfold evAppendZ at h
  split at h
  · rename_i E kn hT hT'
    obtain ⟨⟨sz, by_, z⟩, hq, h0, hn, hb, h63, z', hz, hzo, hK⟩ := h
    simp only at h0 hb hz hzo
    subst hz
    obtain ⟨i, hi, hsz, hby, hzz⟩ := tinfo_some hq
    simp only [zeroOk, Bool.and_eq_true, decide_eq_true_eq] at hzo
    refine ⟨_, hK, fun ty G w v u hg hf hv hu => ?_⟩
    obtain rfl := hv.nil_inv; obtain rfl := hu.sc_inv
    obtain ⟨m, rfl⟩ : ∃ m : Nat, n = m := ⟨n.toNat, by omega⟩
    simp only [Int.toNat_natCast] at hb ⊢
    have hrun := Go.Lib.run_append_nil_zeros (P := P) w T T' ty E i z' k kn hT hT' hi hzz m (by omega) (by omega) h63 (by rw [hby]; omega)
    obtain ⟨hp, hone⟩ := ofConst_cells (S := Stable G) (w := w) z' hzo.2
    have hcl : (ofConst z').cells.length = sz := by rw [hp.1]; simpa using hzo.1
    have hge := grownCap_ge w m 0 E
    have hle := grownCap_le_maxLen w m 0 E (by simp only [maxLen]; omega)
    have hsize : ∀ c, (Builtin.zeroCells z'.cells c).size = c * sz := fun c => by simp [Builtin.zeroCells, hzo.1]
    have hget : ∀ c j, j < c * sz → (Builtin.zeroCells z'.cells c).toList[j]? = z'.cells.toList[j % sz]? := by
      intro c j hj
      have hm : j % sz < z'.cells.size := by rw [hzo.1]; exact Nat.mod_lt _ h0
      have hj' : j < c * z'.cells.size := by rw [hzo.1]; exact hj
      simp only [Builtin.zeroCells, Array.toList_map, List.getElem?_map, Array.toList_range, hzo.1, List.getElem?_range hj, Option.map_some, Array.getElem?_toList, Array.getElem?_eq_getElem hm]
      rw [getElem!_pos z'.cells (j % sz) hm]
    have hpw : PW (FRel (Stable G) w) (flat (List.replicate m (ofConst z'))) (Builtin.zeroCells z'.cells m).toList := by
      have hlen : (flat (List.replicate m (ofConst z'))).length = m * sz := by
        rw [flat_length (es := sz) (fun x hx => by rw [List.eq_of_mem_replicate hx]; exact hcl)]; simp
      refine ⟨by rw [hlen, Array.length_toList, hsize], fun j x u hx hu => ?_⟩
      have hj : j < m * sz := by rw [← hlen]; exact (List.getElem?_eq_some_iff.1 hx).1
      rw [flat_replicate _ _ (by omega) (by rw [hcl]; exact hj), hcl] at hx
      rw [hget m j hj] at hu
      exact hp.2 _ _ _ hx hu
    have hones : One (Builtin.zeroCells z'.cells m).toList := by
      intro u hu
      obtain ⟨j, hj⟩ := List.getElem?_of_mem hu
      have hjl : j < m * sz := by have := (List.getElem?_eq_some_iff.1 hj).1; rwa [Array.length_toList, hsize] at this
      rw [hget m j hjl] at hj
      exact hone u (List.mem_of_getElem? hj)
    refine ⟨_, _, updG G w.heap.size (.tag (64 * (d + 1))), hrun, ?_, ⟨rfl, rfl, rfl, Nat.le_of_lt (by have hdr : w.drew.heap.size = w.heap.size := rfl; have := size_alloc w.drew (.cells (Builtin.zeroCells z'.cells m ++ Builtin.zeroCells z'.cells (grownCap w m 0 E - m)) E); omega), fun b hb => by simp [updG, Nat.ne_of_lt hb], fun b hb => heap_alloc_old w.drew _ hb⟩, hg.upd _ _ (Nat.le_refl _) (by have hdr : w.drew.heap.size = w.heap.size := rfl; have := size_alloc w.drew (.cells (Builtin.zeroCells z'.cells m ++ Builtin.zeroCells z'.cells (grownCap w m 0 E - m)) E); omega) (Nat.le_of_lt (by have hdr : w.drew.heap.size = w.heap.size := rfl; have := size_alloc w.drew (.cells (Builtin.zeroCells z'.cells m ++ Builtin.zeroCells z'.cells (grownCap w m 0 E - m)) E); omega)) (fun t ht b hb => ?_) (fun i h => by cases h), .upd hf.own⟩
    · refine .own _ sz _ _ E (Builtin.zeroCells z'.cells m).toList (by omega) ⟨?_, .inr ⟨w.heap.size, grownCap w m 0 E, _, by simp, Nat.zero_le _, heap_alloc_new w.drew _, ?_, hle, ?_, ?_⟩⟩ (fun b hb => ?_) (fun x hx => by rw [List.eq_of_mem_replicate hx]; exact hcl) hones (hpw.mono fun x y _ hr => hr.mono (fun b hb => ?_) (fun b hb => ?_))
      · rw [Array.length_toList, hsize, List.length_replicate]
      · simpa using hge
      · rw [Array.size_append, hsize, hsize, ← Nat.add_mul]; congr 1; omega
      · rw [Array.toList_append, List.length_replicate, List.take_append_of_le_length (by rw [Array.length_toList, hsize]; exact Nat.le_refl _), List.take_of_length_le (by rw [Array.length_toList, hsize]; exact Nat.le_refl _)]
      · simp only [Value.ownBlock, Option.some.injEq] at hb; simp [updG, ← hb]
      · have := hg.lt b (by unfold Stable at hb; rw [hb]; simp)
        unfold Stable at *; simp [updG, Nat.ne_of_lt this, hb]
      · exact heap_alloc_old w.drew _ (hg.lt b (by unfold Stable at hb; rw [hb]; simp))
    · cases ht; exact hf.ne hb
  · exact h.elim

def evAppendX (P : Program) (d : Nat) (T T' : TypeId) (x y : AV) (K : AV → Prop) : Prop :=
  match y with
  | .sc (.int _ n) => evAppendZ P d T T' x n K
  | y => evAppendNew P d T T' x y K
theorem evAppendX_sound {d : Nat} {T T' : TypeId} {x y : AV} {K : AV → Prop} (h : evAppendX P d T T' x y K) :
    ∃ r, K r ∧ ∀ (ty : TypeId) (G : Nat → Status) (w : World) (v u : Value), Good G w → Fresh d G → VRel G w x v → VRel G w y u → Does P d G w (Builtin.append_ #[T, T'] ty #[v, u]) r := by
  unfold evAppendX at h
  split at h
  · exact evAppendZ_sound h
  · exact evAppendNew_sound h

/-! ### struct literals -/
def setSeg {α : Type} (cs : List α) (off : Nat) : List α → List α
  | [] => cs
  | y :: ys => setSeg (cs.set off y) (off + 1) ys

theorem setSeg_length {α : Type} : ∀ (ys : List α) (cs : List α) (off : Nat), (setSeg cs off ys).length = cs.length
  | [], _, _ => rfl
  | y :: ys, cs, off => by simp [setSeg, setSeg_length ys]

theorem setSeg_rel {R : AV → Value → Prop} (off : Nat) : ∀ (ys : List AV) (vs : List Value) (j0 : Nat) (cs : List AV) (cur : Array Value), PW R ys vs → PW R cs cur.toList →
    PW R (setSeg cs (off + j0) ys) ((vs.zipIdx j0).foldl (fun (cs : Array Value) (p : Value × Nat) => cs.setIfInBounds (off + p.2) p.1) cur).toList
  | [], vs, j0, cs, cur, h, hc => by rw [h.nil_inv]; simpa [setSeg] using hc
  | y :: ys, vs, j0, cs, cur, h, hc => by
    obtain ⟨v, vs', rfl, h1, h2⟩ := h.cons_inv
    simp only [setSeg, List.zipIdx_cons, List.foldl_cons]
    exact setSeg_rel off ys vs' (j0 + 1) _ _ h2 (by rw [Array.toList_setIfInBounds]; exact hc.set _ h1)

theorem setSeg_one (off : Nat) : ∀ (vs : List Value) (j0 : Nat) (cur : Array Value), One vs → One cur.toList →
    One ((vs.zipIdx j0).foldl (fun (cs : Array Value) (p : Value × Nat) => cs.setIfInBounds (off + p.2) p.1) cur).toList
  | [], _, _, _, hc => by simpa using hc
  | v :: vs, j0, cur, h, hc => by
    simp only [List.zipIdx_cons, List.foldl_cons]
    refine setSeg_one off vs (j0 + 1) _ (fun u hu => h u (by simp [hu])) fun u hu => ?_
    rw [Array.toList_setIfInBounds] at hu
    rcases List.mem_or_eq_of_mem_set hu with h' | h'
    · exact hc u h'
    · rw [h']; exact h v (by simp)

def fillA (place : Nat → Option (Nat × Nat)) : List AV → List (Nat × AV) → Option (List AV)
  | cs, [] => some cs
  | cs, (i, x) :: rest =>
    match place i with
    | none => none
    | some (off, size) => if x.cells.length = size ∧ off + size ≤ cs.length ∧ x.one = true then fillA place (setSeg cs off x.cells) rest else none

theorem VRel.cellsV {G : Nat → Status} {w : World} {x : AV} {v : Value} (h : VRel G w x v) (h1 : x.one = true) : PW (VRel G w) x.cells v.cells.toList ∧ One v.cells.toList := by
  have leaf : x.leafy = true → v.oneCell' = true → PW (VRel G w) x.cells v.cells.toList ∧ One v.cells.toList := by
    intro h2 h3
    have hc : x.cells = [x] := by cases x <;> first | rfl | (simp [AV.leafy] at h2)
    have hv : v.cells.toList = [v] := by cases v <;> first | rfl | (simp [Value.oneCell'] at h3)
    rw [hc, hv]
    exact ⟨.cons h (.nil _), fun u hu => by simp at hu; subst hu; exact h3⟩
  cases x with
  | any => simp [AV.one] at h1
  | tup => simp [AV.one] at h1
  | ag cs => obtain ⟨vs, rfl, h0, h1⟩ := h.ag_inv; exact ⟨h1, h0⟩
  | sc u => have := h.sc_inv; subst this; exact leaf rfl (by simpa [AV.one] using h1)
  | nil => have := h.nil_inv; subst this; exact leaf rfl rfl
  | ub => obtain ⟨b, rfl⟩ := h.ub_inv; exact leaf rfl rfl
  | so t xs => obtain ⟨ao, c, rfl, _⟩ := h.so_inv; exact leaf rfl rfl
  | po t xs i => obtain ⟨b, off, c, _, _, rfl⟩ := h.po_inv; exact leaf rfl rfl
  | sl t es xs => obtain ⟨ao, c, rfl, _⟩ := h.sl_inv; exact leaf rfl rfl
  | pb i o => obtain ⟨b, _, rfl⟩ := h.pb_inv; exact leaf rfl rfl
  | pe t es xs i o => obtain ⟨b, off, c, _, _, rfl⟩ := h.pe_inv; exact leaf rfl rfl
  | fn f caps => obtain ⟨vs, rfl, _⟩ := h.fn_inv; exact leaf rfl rfl
  | mp => simp [AV.one] at h1
  | cl => simp [AV.one] at h1
  | tl => simp [AV.one] at h1
  | fp cs o => obtain ⟨b, vals, _, rfl, _⟩ := h.fp_inv; exact leaf rfl rfl

theorem fillA_rel {G : Nat → Status} {w : World} {place : Nat → Option (Nat × Nat)} : ∀ (ps : List (Nat × AV)) (vs : List (Nat × Value)) (cs r : List AV) (cur : Array Value),
    PW (fun p q => p.1 = q.1 ∧ VRel G w p.2 q.2) ps vs → PW (VRel G w) cs cur.toList → One cur.toList → fillA place cs ps = some r →
    ∃ cells, Instr.fill place cur vs = some cells ∧ PW (VRel G w) r cells.toList ∧ One cells.toList
  | [], vs, cs, r, cur, h, hc, h1, hf => by
    rw [h.nil_inv]
    simp only [fillA, Option.some.injEq] at hf
    subst hf; exact ⟨cur, by simp [Instr.fill], hc, h1⟩
  | (i, x) :: ps, vs, cs, r, cur, h, hc, h1, hf => by
    obtain ⟨⟨i', v⟩, vs', rfl, h2, h3⟩ := h.cons_inv
    simp only at h2
    obtain ⟨rfl, hv⟩ := h2
    simp only [fillA] at hf
    cases hp : place i with
    | none => simp [hp] at hf
    | some p =>
      obtain ⟨off, size⟩ := p
      simp only [hp] at hf
      split at hf
      · rename_i hcond
        obtain ⟨hs, hlen, hone⟩ := hcond
        obtain ⟨hpc, h1c⟩ := hv.cellsV hone
        have hvs : v.cells.size = size := by have := hpc.1; rw [hs] at this; simpa using this.symm
        have hcl : cs.length = cur.size := by have := hc.1; simpa using this
        have hz : v.cells.zipIdx = (v.cells.toList.zipIdx).toArray := by apply Array.toList_inj.1; rw [Array.toList_zipIdx]
        have hfold : (Array.foldl (fun cs x => match x with | (c, j) => cs.setIfInBounds (off + j) c) cur v.cells.zipIdx) = (v.cells.toList.zipIdx).foldl (fun (cs : Array Value) (p : Value × Nat) => cs.setIfInBounds (off + p.2) p.1) cur := by
          rw [hz, List.foldl_toArray']
          simp
        have hr := setSeg_rel (R := VRel G w) off x.cells v.cells.toList 0 cs cur hpc hc
        have ho := setSeg_one off v.cells.toList 0 cur h1c h1
        obtain ⟨cells, e1, e2, e3⟩ := fillA_rel ps vs' _ r _ h3 (by simpa using hr) ho (by simpa using hf)
        refine ⟨cells, ?_, e2, e3⟩
        simp only [Instr.fill, hp, hvs, ne_eq, not_true_eq_false, false_or]
        rw [if_neg (by simp; omega)]
        exact hfold ▸ e1
      · cases hf

/-- the fields' places, and their sizes -/
def placesOf (P : Program) (T : TypeId) : Option (List (Nat × Nat)) :=
  match P.underlying T with
  | some (.struct fs) => fs.toList.mapM fun f => (P.info? f.type).map fun i => (f.offset, i.size)
  | some (.array n e) => (P.info? e).map fun i => (List.range n).map fun k => (k * i.size, i.size)
  | _ => none

theorem fill_more {f g : Nat → Option (Nat × Nat)} (h : ∀ i p, f i = some p → g i = some p) : ∀ (ps : List (Nat × Value)) (cells r : Array Value), Instr.fill f cells ps = some r → Instr.fill g cells ps = some r
  | [], cells, r, hf => hf
  | (i, v) :: rest, cells, r, hf => by
    simp only [Instr.fill] at hf ⊢
    cases hi : f i with
    | none => simp [hi] at hf
    | some p =>
      rw [h i p hi]
      simp only [hi] at hf ⊢
      split at hf
      · cases hf
      · rename_i hc
        rw [if_neg hc]
        exact fill_more h rest _ r hf

def evBuild (P : Program) (T : TypeId) (ps : List (Nat × AV)) (K : AV → Prop) : Prop :=
  ∃ q places z r, tinfo P T = some q ∧ placesOf P T = some places ∧ q.2.2 = some z ∧ (z.cells.toList.all fun u => u.oneCell') = true ∧ fillA (fun i => places[i]?) (ofConst z).cells ps = some r ∧ K (.ag r)

theorem evBuild_sound {T : TypeId} {ps : List (Nat × AV)} {K : AV → Prop} (h : evBuild P T ps K) :
    ∃ r, K r ∧ ∀ (d : Nat) (G : Nat → Status) (w : World) (vs : Array (Nat × Value)), Good G w → PW (fun p q => p.1 = q.1 ∧ VRel G w p.2 q.2) ps vs.toList → Does P d G w (Instr.build T vs) r := by
  obtain ⟨⟨sz, by_, z0⟩, places, z, r, hq, hpl, hz, hz1, hf, hK⟩ := h
  simp only at hz; subst hz
  refine ⟨_, hK, fun d G w vs hg hv => ?_⟩
  obtain ⟨i, hi, hsz, hby, hzz⟩ := tinfo_some hq
  obtain ⟨hp, hone⟩ := ofConst_cells (S := Stable G) (w := w) z hz1
  obtain ⟨cells, e1, e2, e3⟩ := fillA_rel ps vs.toList _ r z.cells hv (hp.mono fun x y _ hr => .froz hr) hone hf
  have hb : P.built T vs.toList = some cells := by
    unfold placesOf at hpl
    split at hpl
    · rename_i fs hT
      simp only [Program.built, hi, hT, hzz, hpl]
      simpa using e1
    · rename_i n e hT
      cases hie : P.info? e with
      | none => simp [hie] at hpl
      | some ie =>
        simp only [hie, Option.map_some, Option.some.injEq] at hpl
        simp only [Program.built, hi, hT, hzz, hie]
        refine fill_more (fun j p hj => ?_) _ _ _ e1
        rw [← hpl, List.getElem?_map] at hj
        cases hr : (List.range n)[j]? with
        | none => simp [hr] at hj
        | some k =>
          have hk : k = j := by
            have := List.getElem?_eq_some_iff.1 hr
            obtain ⟨h1, h2⟩ := this
            simpa using h2.symm
          subst hk
          simpa [hr] using hj
    · cases hpl
  exact .pure hg (run_build w T vs cells hb) (.ag r cells e2.1 e3 e2.2)

/-! ### variables of the call's own -/
/-- a new variable behind the boxes -/
theorem newBox {gh : Gh} {G : Nat → Status} {w : World} {bx : List (List AV)} {cs : List AV} {vals : Array Value} {T : TypeId} (hg : Good G w) (hb : BRel gh G w bx) (hbl : ∀ b i, G b = .box i → i < bx.length)
    (hp : PW (VRel G w) cs vals.toList) (h1 : One vals.toList) :
    let G' := updG G w.heap.size (.box bx.length)
    let w' := w.alloc (.cells vals T)
    VRel G' w' (.pb bx.length 0) (.pointer (some ⟨w.heap.size, 0, none⟩)) ∧ Ext G w G' w' ∧ Good G' w' ∧ BRel gh G' w' (bx ++ [cs]) ∧ (∀ b i, G' b = .box i → i < (bx ++ [cs]).length) := by
  intro G' w'
  have hE : Ext G w G' w' := .alloc _ _
  have hG : Good G' w' := hg.upd _ _ (Nat.le_refl _) (by simp [w']) (by simp [w']) (fun t ht => by cases ht) (fun i hi b h => by cases hi; have := hbl b _ h; omega)
  refine ⟨.pb _ _ _ (by simp [G', updG]), hE, hG, ?_, ?_⟩
  · refine ⟨fun i vs hv => by have := hb.low i vs hv; simp; omega, fun i cs' hi => ?_⟩
    by_cases hlt : i < bx.length
    · rw [List.getElem?_append_left hlt] at hi
      refine (hb.ext hg hE fun b i hbi hi => ?_).cell i cs' hi
      simp only [G', updG] at hbi
      split at hbi
      · cases hbi; omega
      · exact hbi
    · rw [List.getElem?_append_right (by omega)] at hi
      have : i = bx.length := by
        cases hd : i - bx.length with
        | zero => omega
        | succ n => rw [hd] at hi; simp at hi
      subst this
      simp at hi; subst hi
      exact .inl ⟨by cases hgh : gh bx.length with | none => rfl | some vs => have := hb.low _ vs hgh; omega, w.heap.size, vals, T, by simp [G', updG], heap_alloc_new w _, h1, hp.mono fun x y _ hr => hr.ext hg hE⟩
  · intro b i h
    simp only [G', updG] at h
    split at h
    · cases h; simp
    · have := hbl b i h; simp; omega

/-! ### stores -/
/-- what is stored into the cells of a variable -/
theorem store_run {w : World} {T : TypeId} {sz by_ : Nat} {z : Option Value} (hq : tinfo P T = some (sz, by_, z)) {b o : Nat} {cur : Array Value} {e : TypeId} (hh : w.heap[b]? = some (.cells cur e (0, 0))) {v : Value}
    (hs : v.cells.size = sz) (h1 : One v.cells.toList) (hfit : o + sz ≤ cur.size) :
    (Instr.storeAt T (.pointer (some ⟨b, o, none⟩)) v).run P w = .ok () (w.setRow b (cur.toList.take o ++ v.cells.toList ++ cur.toList.drop (o + sz)).toArray) := by
  have hst := run_storeCells_at P b o e v.cells.toList 0 cur w hh (by simpa [hs] using hfit) h1
  simp only [Nat.add_zero] at hst
  have hadd : (storeCells ⟨b, o, none⟩ v.cells.toList).run P w = _ := hst
  simp [Instr.storeAt, Instr.sureAddr, storeVar, run_sizeOf hq, hs, hadd]

end ops
end Go.AM
