/- AmH AmI AmX AmJ AmK AmL -/
import Derived.Test.YtapjfgddbfneaaaGreatg1
import Derived.Lib.AppendZeros
namespace Go.AM
open Go.RowKit
section ops
variable {P : Program}
theorem ofConst_cells {S : Nat -> Prop} {w : World} (z : Value) (h1 : z.cells.toList.all (fun u => u.oneCell') = true) : PW (FRel S w) (ofConst z).cells z.cells.toList /\ One z.cells.toList := by
 have hone : One z.cells.toList := fun u hu => List.all_eq_true.1 h1 u hu
 refine ⟨?_, hone⟩
 have hleaf : ∀ u : Value, FRel S w (leafConst u) u := fun u => by
  unfold leafConst; split
  ·exact .nil
  ·exact .sc _
 have hl : ∀ u : Value, (leafConst u).cells = [leafConst u] := fun u => by
  unfold leafConst; split <;> rfl
 cases z with
 | agg cs =>
  simp only [ofConst, AV.cells, Value.cells]
  refine ⟨by simp, fun j x u hx hu => ?_⟩
  simp only [List.getElem?_map, hu, Option.map_some, Option.some.injEq] at hx
  rw [<- hx]; exact hleaf u
 | tuple vs => simp [Value.cells, Value.oneCell'] at h1
 | _ => simp only [ofConst, Value.cells, hl]; exact .cons (hleaf _) (.nil _)
theorem flat_replicate {x : AV} : ∀ (n j : Nat), 0 < x.cells.length -> j < n * x.cells.length -> (flat (List.replicate n x))[j]? = x.cells[j % x.cells.length]?
 | 0, j, _, h => by simp at h
 | n + 1, j, h0, h => by
  simp only [flat, List.replicate_succ, List.flatMap_cons]
  by_cases hj : j < x.cells.length
  ·rw [List.getElem?_append_left hj, Nat.mod_eq_of_lt hj]
  ·rw [List.getElem?_append_right (by omega)]
   have := flat_replicate (x := x) n (j - x.cells.length) h0 (by rw [Nat.succ_mul] at h; omega)
   simp only [flat] at this
   rw [this, <- Nat.mod_eq_sub_mod (by omega)]
def zeroOk (sz : Nat) (z : Value) : Bool := decide (z.cells.size = sz) && z.cells.toList.all fun u => u.oneCell'
def evMake (P : Program) (d : Nat) (T : TypeId) (l c : AV) (K : AV -> Prop) : Prop :=
 match P.underlying T, l, c with
 | some (.slice E), .sc (.int _ l), .sc (.int _ c) => ∃ q, tinfo P E = some q /\ 0 < q.1 /\ 0 <= l /\ l <= c /\ (q.2.1 : Int) * c <= 281474976710656 /\ c <= 9223372036854775807 /\
   ∃ z, q.2.2 = some z /\ zeroOk q.1 z = true /\ K (.sl (64 * (d + 1)) q.1 (List.replicate l.toNat (ofConst z)))
 | _, _, _ => False
theorem evMake_sound {d : Nat} {T : TypeId} {l c : AV} {K : AV -> Prop} (h : evMake P d T l c K) :
  ∃ r, K r /\ ∀ (G : Nat -> Status) (w : World) (v u : Value), Good G w -> Fresh d G -> VRel G w l v -> VRel G w c u -> Does P d G w (Instr.makeSlice T v u) r := by
 unfold evMake at h
 split at h
 ·rename_i E k l k' c hT
  obtain ⟨⟨sz, by_, z⟩, hq, h0, hl, hlc, hb, h63, z', hz, hzo, hK⟩ := h
  simp only at h0 hb hz hzo
  subst hz
  obtain ⟨i, hi, hsz, hby, hzz⟩ := tinfo_some hq
  simp only [zeroOk, Bool.and_eq_true, decide_eq_true_eq] at hzo
  refine ⟨_, hK, fun G w v u hg hf hv hu => ?_⟩
  obtain rfl := hv.sc_inv; obtain rfl := hu.sc_inv
  have hrun := run_make (P := P) w T E i z' hT hi hzz k k' l c hl hlc (by rw [hby]; exact hb) h63
  rw [hsz] at hrun
  obtain ⟨hp, hone⟩ := ofConst_cells (S := Stable G) (w := w) z' hzo.2
  have hcl : (ofConst z').cells.length = sz := by rw [hp.1]; simpa using hzo.1
  have hle : l.toNat * sz <= c.toNat * sz := Nat.mul_le_mul_right _ (by omega)
  have hget : ∀ j, j < c.toNat * sz -> (madeCells z'.cells (c.toNat * sz)).toList[j]? = z'.cells.toList[j % sz]? := by
   intro j hj
   have hm : j % sz < z'.cells.size := by rw [hzo.1]; exact Nat.mod_lt _ h0
   simp only [madeCells, Array.toList_map, List.getElem?_map, Array.toList_range, List.getElem?_range hj, Option.map_some, hzo.1, Array.getElem?_toList, Array.getElem?_eq_getElem hm]
   rw [getElem!_pos z'.cells (j % sz) hm]
  have hpw : PW (FRel (Stable G) w) (flat (List.replicate l.toNat (ofConst z'))) ((madeCells z'.cells (c.toNat * sz)).toList.take (l.toNat * sz)) := by
   have hlen : (flat (List.replicate l.toNat (ofConst z'))).length = l.toNat * sz := by
    rw [flat_length (es := sz) (fun x hx => by rw [List.eq_of_mem_replicate hx]; exact hcl)]; simp
   refine ⟨by rw [hlen, List.length_take, Array.length_toList, size_madeCells]; omega, fun j x u hx hu => ?_⟩
   have hj : j < l.toNat * sz := by rw [<- hlen]; exact (List.getElem?_eq_some_iff.1 hx).1
   rw [flat_replicate _ _ (by omega) (by rw [hcl]; exact hj), hcl] at hx
   rw [List.getElem?_take, if_pos hj, hget j (by omega)] at hu
   exact hp.2 _ _ _ hx hu
  have hones : One ((madeCells z'.cells (c.toNat * sz)).toList.take (l.toNat * sz)) := by
   intro u hu
   obtain ⟨j, hj⟩ := List.getElem?_of_mem (List.mem_of_mem_take hu)
   have hjl : j < c.toNat * sz := by have := (List.getElem?_eq_some_iff.1 hj).1; rwa [Array.length_toList, size_madeCells] at this
   rw [hget j hjl] at hj
   exact hone u (List.mem_of_getElem? hj)
  refine ⟨_, _, updG G w.heap.size (.tag (64 * (d + 1))), hrun, ?_, .alloc _ _, hg.upd _ _ (Nat.le_refl _) (by simp) (by simp) (fun t ht b hb => ?_) (fun i h => by cases h), .upd hf.own⟩
  ·refine .own _ sz _ _ E ((madeCells z'.cells (c.toNat * sz)).toList.take (l.toNat * sz)) (by omega) ⟨?_, .inr ⟨w.heap.size, c.toNat, _, by simp, Nat.zero_le _, heap_alloc_new w _, ?_, ?_, size_madeCells _ _, by simp⟩⟩ (fun b hb => ?_) (fun x hx => by rw [List.eq_of_mem_replicate hx]; exact hcl) hones (hpw.mono fun x y _ hr => hr.mono (fun b hb => ?_) (fun b hb => ?_))
   ·rw [List.length_take, Array.length_toList, size_madeCells, List.length_replicate]; omega
   ·simp; omega
   ·simp only [maxLen]; omega
   ·simp only [Value.ownBlock, Option.some.injEq] at hb; simp [updG, <- hb]
   ·have := hg.lt b (by unfold Stable at hb; rw [hb]; simp)
    unfold Stable at *; simp [updG, Nat.ne_of_lt this, hb]
   ·exact heap_alloc_old w _ (hg.lt b (by unfold Stable at hb; rw [hb]; simp))
  ·cases ht; exact hf.ne hb
 ·exact h.elim
def evAllocE (P : Program) (d : Nat) (T : TypeId) (K : AV -> Prop) : Prop :=
 ∃ q, tinfo P T = some q /\ ∃ z, q.2.2 = some z /\ zeroOk q.1 z = true /\ K (.pe (64 * (d + 1)) q.1 [ofConst z] 0 0)
theorem evAllocE_sound {d : Nat} {T : TypeId} {K : AV -> Prop} (h : evAllocE P d T K) :
  ∃ r, K r /\ ∀ (G : Nat -> Status) (w : World), Good G w -> Fresh d G -> Does P d G w (Instr.alloc T true (.tuple #[])) r := by
 obtain ⟨⟨sz, by_, z⟩, hq, z', hz, hzo, hK⟩ := h
 simp only at hz hzo
 subst hz
 obtain ⟨i, hi, hsz, hby, hzz⟩ := tinfo_some hq
 simp only [zeroOk, Bool.and_eq_true, decide_eq_true_eq] at hzo
 refine ⟨_, hK, fun G w hg hf => ?_⟩
 have hrun : (Instr.alloc T true (.tuple #[])).run P w = .ok (.pointer (some ⟨w.heap.size, 0, none⟩)) (w.alloc (.cells z'.cells T)) := by
  simp [Instr.alloc, newVar, newRow, zeroValue, typeInfo, hi, hzz]
 obtain ⟨hp, hone⟩ := ofConst_cells (S := Stable G) (w := w) z' hzo.2
 have hcl : (ofConst z').cells.length = sz := by rw [hp.1]; simpa using hzo.1
 have hfl : flat [ofConst z'] = (ofConst z').cells := by simp [flat]
 have hsl : VRel (updG G w.heap.size (.tag (64 * (d + 1)))) (w.alloc (.cells z'.cells T)) (.sl (64 * (d + 1)) sz [ofConst z']) (.slice (some ⟨w.heap.size, 0, none⟩) 1 1) := by
  refine .own _ sz _ _ T z'.cells.toList (by omega) ⟨?_, .inr ⟨w.heap.size, 1, _, by simp, Nat.zero_le _, heap_alloc_new w _, ?_, ?_, ?_, ?_⟩⟩ (fun b hb => ?_) (fun x hx => by simp at hx; subst hx; exact hcl) hone ?_
  ·simp [hzo.1]
  ·simp
  ·simp [maxLen]
  ·rw [hzo.1]; omega
  ·rw [List.length_singleton, Nat.one_mul, <- hzo.1]; exact List.take_of_length_le (by simp)
  ·simp only [Value.ownBlock, Option.some.injEq] at hb; simp [updG, <- hb]
  ·rw [hfl]
   refine hp.mono fun x y _ hr => hr.mono (fun b hb => ?_) (fun b hb => ?_)
   ·have := hg.lt b (by unfold Stable at hb; rw [hb]; simp)
    unfold Stable at *; simp [updG, Nat.ne_of_lt this, hb]
   ·exact heap_alloc_old w _ (hg.lt b (by unfold Stable at hb; rw [hb]; simp))
 refine ⟨_, _, updG G w.heap.size (.tag (64 * (d + 1))), hrun, ?_, .alloc _ _, hg.upd _ _ (Nat.le_refl _) (by simp) (by simp) (fun t ht b hb => ?_) (fun i h => by cases h), .upd hf.own⟩
 ·have := VRel.pe (64 * (d + 1)) sz [ofConst z'] 0 0 w.heap.size 0 1 hsl (by simp)
  simpa using this
 ·cases ht; exact hf.ne hb
theorem size_alloc (w : World) (o : Obj) : (w.alloc o).heap.size = w.heap.size + 1 := by simp
def evAppendZ (P : Program) (d : Nat) (T T' : TypeId) (x : AV) (n : Int) (K : AV -> Prop) : Prop :=
 match P.underlying T, P.underlying T', x with
 | some (.slice E), some (.int _), .nil => ∃ q, tinfo P E = some q /\ 0 < q.1 /\ 0 < n /\ n.toNat * q.2.1 <= 140737488355328 /\ n <= 9223372036854775807 /\
   ∃ z, q.2.2 = some z /\ zeroOk q.1 z = true /\ K (.sl (64 * (d + 1)) q.1 (List.replicate n.toNat (ofConst z)))
 | _, _, _ => False
theorem evAppendZ_sound {d : Nat} {T T' : TypeId} {x : AV} {k : IntKind} {n : Int} {K : AV -> Prop} (h : evAppendZ P d T T' x n K) :
  ∃ r, K r /\ ∀ (ty : TypeId) (G : Nat -> Status) (w : World) (v u : Value), Good G w -> Fresh d G -> VRel G w x v -> VRel G w (.sc (.int k n)) u -> Does P d G w (Builtin.append_ #[T, T'] ty #[v, u]) r := by
 unfold evAppendZ at h
 split at h
 ·rename_i E kn hT hT'
  obtain ⟨⟨sz, by_, z⟩, hq, h0, hn, hb, h63, z', hz, hzo, hK⟩ := h
  simp only at h0 hb hz hzo
  subst hz
  obtain ⟨i, hi, hsz, hby, hzz⟩ := tinfo_some hq
  simp only [zeroOk, Bool.and_eq_true, decide_eq_true_eq] at hzo
  refine ⟨_, hK, fun ty G w v u hg hf hv hu => ?_⟩
  obtain rfl := hv.nil_inv; obtain rfl := hu.sc_inv
  obtain ⟨m, rfl⟩ : ∃ m : Nat, n = m := ⟨n.toNat, by omega⟩
  simp only [Int.toNat_natCast] at hb ⊢
  have hrun := Go.Lib.run_append_nil_zeros (P := P) w T T' ty E i z' k kn hT hT' hi hzz m (by omega) (by omega) h63 (by rw [hby]; omega)
  obtain ⟨hp, hone⟩ := ofConst_cells (S := Stable G) (w := w) z' hzo.2
  have hcl : (ofConst z').cells.length = sz := by rw [hp.1]; simpa using hzo.1
  have hge := grownCap_ge w m 0 E
  have hle := grownCap_le_maxLen w m 0 E (by simp only [maxLen]; omega)
  have hsize : ∀ c, (Builtin.zeroCells z'.cells c).size = c * sz := fun c => by simp [Builtin.zeroCells, hzo.1]
  have hget : ∀ c j, j < c * sz -> (Builtin.zeroCells z'.cells c).toList[j]? = z'.cells.toList[j % sz]? := by
   intro c j hj
   have hm : j % sz < z'.cells.size := by rw [hzo.1]; exact Nat.mod_lt _ h0
   have hj' : j < c * z'.cells.size := by rw [hzo.1]; exact hj
   simp only [Builtin.zeroCells, Array.toList_map, List.getElem?_map, Array.toList_range, hzo.1, List.getElem?_range hj, Option.map_some, Array.getElem?_toList, Array.getElem?_eq_getElem hm]
   rw [getElem!_pos z'.cells (j % sz) hm]
  have hpw : PW (FRel (Stable G) w) (flat (List.replicate m (ofConst z'))) (Builtin.zeroCells z'.cells m).toList := by
   have hlen : (flat (List.replicate m (ofConst z'))).length = m * sz := by
    rw [flat_length (es := sz) (fun x hx => by rw [List.eq_of_mem_replicate hx]; exact hcl)]; simp
   refine ⟨by rw [hlen, Array.length_toList, hsize], fun j x u hx hu => ?_⟩
   have hj : j < m * sz := by rw [<- hlen]; exact (List.getElem?_eq_some_iff.1 hx).1
   rw [flat_replicate _ _ (by omega) (by rw [hcl]; exact hj), hcl] at hx
   rw [hget m j hj] at hu
   exact hp.2 _ _ _ hx hu
  have hones : One (Builtin.zeroCells z'.cells m).toList := by
   intro u hu
   obtain ⟨j, hj⟩ := List.getElem?_of_mem hu
   have hjl : j < m * sz := by have := (List.getElem?_eq_some_iff.1 hj).1; rwa [Array.length_toList, hsize] at this
   rw [hget m j hjl] at hj
   exact hone u (List.mem_of_getElem? hj)
  refine ⟨_, _, updG G w.heap.size (.tag (64 * (d + 1))), hrun, ?_, ⟨rfl, rfl, rfl, Nat.le_of_lt (by have hdr : w.drew.heap.size = w.heap.size := rfl; have := size_alloc w.drew (.cells (Builtin.zeroCells z'.cells m ++ Builtin.zeroCells z'.cells (grownCap w m 0 E - m)) E); omega), fun b hb => by simp [updG, Nat.ne_of_lt hb], fun b hb => heap_alloc_old w.drew _ hb⟩, hg.upd _ _ (Nat.le_refl _) (by have hdr : w.drew.heap.size = w.heap.size := rfl; have := size_alloc w.drew (.cells (Builtin.zeroCells z'.cells m ++ Builtin.zeroCells z'.cells (grownCap w m 0 E - m)) E); omega) (Nat.le_of_lt (by have hdr : w.drew.heap.size = w.heap.size := rfl; have := size_alloc w.drew (.cells (Builtin.zeroCells z'.cells m ++ Builtin.zeroCells z'.cells (grownCap w m 0 E - m)) E); omega)) (fun t ht b hb => ?_) (fun i h => by cases h), .upd hf.own⟩
  ·refine .own _ sz _ _ E (Builtin.zeroCells z'.cells m).toList (by omega) ⟨?_, .inr ⟨w.heap.size, grownCap w m 0 E, _, by simp, Nat.zero_le _, heap_alloc_new w.drew _, ?_, hle, ?_, ?_⟩⟩ (fun b hb => ?_) (fun x hx => by rw [List.eq_of_mem_replicate hx]; exact hcl) hones (hpw.mono fun x y _ hr => hr.mono (fun b hb => ?_) (fun b hb => ?_))
   ·rw [Array.length_toList, hsize, List.length_replicate]
   ·simpa using hge
   ·rw [Array.size_append, hsize, hsize, <- Nat.add_mul]; congr 1; omega
   ·rw [Array.toList_append, List.length_replicate, List.take_append_of_le_length (by rw [Array.length_toList, hsize]; exact Nat.le_refl _), List.take_of_length_le (by rw [Array.length_toList, hsize]; exact Nat.le_refl _)]
   ·simp only [Value.ownBlock, Option.some.injEq] at hb; simp [updG, <- hb]
   ·have := hg.lt b (by unfold Stable at hb; rw [hb]; simp)
    unfold Stable at *; simp [updG, Nat.ne_of_lt this, hb]
   ·exact heap_alloc_old w.drew _ (hg.lt b (by unfold Stable at hb; rw [hb]; simp))
  ·cases ht; exact hf.ne hb
 ·exact h.elim
def evAppendX (P : Program) (d : Nat) (T T' : TypeId) (x y : AV) (K : AV -> Prop) : Prop :=
 match y with
 | .sc (.int _ n) => evAppendZ P d T T' x n K
 | y => evAppendNew P d T T' x y K
theorem evAppendX_sound {d : Nat} {T T' : TypeId} {x y : AV} {K : AV -> Prop} (h : evAppendX P d T T' x y K) :
  ∃ r, K r /\ ∀ (ty : TypeId) (G : Nat -> Status) (w : World) (v u : Value), Good G w -> Fresh d G -> VRel G w x v -> VRel G w y u -> Does P d G w (Builtin.append_ #[T, T'] ty #[v, u]) r := by
 unfold evAppendX at h
 split at h
 ·exact evAppendZ_sound h
 ·exact evAppendNew_sound h
def setSeg {α : Type} (cs : List α) (off : Nat) : List α -> List α
 | [] => cs
 | y :: ys => setSeg (cs.set off y) (off + 1) ys
theorem setSeg_length {α : Type} : ∀ (ys : List α) (cs : List α) (off : Nat), (setSeg cs off ys).length = cs.length
 | [], _, _ => rfl
 | y :: ys, cs, off => by simp [setSeg, setSeg_length ys]
theorem setSeg_rel {R : AV -> Value -> Prop} (off : Nat) : ∀ (ys : List AV) (vs : List Value) (j0 : Nat) (cs : List AV) (cur : Array Value), PW R ys vs -> PW R cs cur.toList ->
  PW R (setSeg cs (off + j0) ys) ((vs.zipIdx j0).foldl (fun (cs : Array Value) (p : Value × Nat) => cs.setIfInBounds (off + p.2) p.1) cur).toList
 | [], vs, j0, cs, cur, h, hc => by rw [h.nil_inv]; simpa [setSeg] using hc
 | y :: ys, vs, j0, cs, cur, h, hc => by
  obtain ⟨v, vs', rfl, h1, h2⟩ := h.cons_inv
  simp only [setSeg, List.zipIdx_cons, List.foldl_cons]
  exact setSeg_rel off ys vs' (j0 + 1) _ _ h2 (by rw [Array.toList_setIfInBounds]; exact hc.set _ h1)
theorem setSeg_one (off : Nat) : ∀ (vs : List Value) (j0 : Nat) (cur : Array Value), One vs -> One cur.toList ->
  One ((vs.zipIdx j0).foldl (fun (cs : Array Value) (p : Value × Nat) => cs.setIfInBounds (off + p.2) p.1) cur).toList
 | [], _, _, _, hc => by simpa using hc
 | v :: vs, j0, cur, h, hc => by
  simp only [List.zipIdx_cons, List.foldl_cons]
  refine setSeg_one off vs (j0 + 1) _ (fun u hu => h u (by simp [hu])) fun u hu => ?_
  rw [Array.toList_setIfInBounds] at hu
  rcases List.mem_or_eq_of_mem_set hu with h' | h'
  ·exact hc u h'
  ·rw [h']; exact h v (by simp)
def fillA (place : Nat -> Option (Nat × Nat)) : List AV -> List (Nat × AV) -> Option (List AV)
 | cs, [] => some cs
 | cs, (i, x) :: rest =>
  match place i with
  | none => none
  | some (off, size) => if x.cells.length = size /\ off + size <= cs.length /\ x.one = true then fillA place (setSeg cs off x.cells) rest else none
theorem VRel.cellsV {G : Nat -> Status} {w : World} {x : AV} {v : Value} (h : VRel G w x v) (h1 : x.one = true) : PW (VRel G w) x.cells v.cells.toList /\ One v.cells.toList := by
 have leaf : x.leafy = true -> v.oneCell' = true -> PW (VRel G w) x.cells v.cells.toList /\ One v.cells.toList := by
  intro h2 h3
  have hc : x.cells = [x] := by cases x <;> first | rfl | (simp [AV.leafy] at h2)
  have hv : v.cells.toList = [v] := by cases v <;> first | rfl | (simp [Value.oneCell'] at h3)
  rw [hc, hv]
  exact ⟨.cons h (.nil _), fun u hu => by simp at hu; subst hu; exact h3⟩
 cases x with
 | any => simp [AV.one] at h1
 | tup => simp [AV.one] at h1
 | ag cs => obtain ⟨vs, rfl, h0, h1⟩ := h.ag_inv; exact ⟨h1, h0⟩
 | sc u => have := h.sc_inv; subst this; exact leaf rfl (by simpa [AV.one] using h1)
 | nil => have := h.nil_inv; subst this; exact leaf rfl rfl
 | ub => obtain ⟨b, rfl⟩ := h.ub_inv; exact leaf rfl rfl
 | so t xs => obtain ⟨ao, c, rfl, _⟩ := h.so_inv; exact leaf rfl rfl
 | po t xs i => obtain ⟨b, off, c, _, _, rfl⟩ := h.po_inv; exact leaf rfl rfl
 | sl t es xs => obtain ⟨ao, c, rfl, _⟩ := h.sl_inv; exact leaf rfl rfl
 | pb i o => obtain ⟨b, _, rfl⟩ := h.pb_inv; exact leaf rfl rfl
 | pe t es xs i o => obtain ⟨b, off, c, _, _, rfl⟩ := h.pe_inv; exact leaf rfl rfl
 | fn f caps => obtain ⟨vs, rfl, _⟩ := h.fn_inv; exact leaf rfl rfl
 | mp => simp [AV.one] at h1
 | cl => simp [AV.one] at h1
 | tl => simp [AV.one] at h1
 | fp cs o => obtain ⟨b, vals, _, rfl, _⟩ := h.fp_inv; exact leaf rfl rfl
theorem fillA_rel {G : Nat -> Status} {w : World} {place : Nat -> Option (Nat × Nat)} : ∀ (ps : List (Nat × AV)) (vs : List (Nat × Value)) (cs r : List AV) (cur : Array Value),
  PW (fun p q => p.1 = q.1 /\ VRel G w p.2 q.2) ps vs -> PW (VRel G w) cs cur.toList -> One cur.toList -> fillA place cs ps = some r ->
  ∃ cells, Instr.fill place cur vs = some cells /\ PW (VRel G w) r cells.toList /\ One cells.toList
 | [], vs, cs, r, cur, h, hc, h1, hf => by
  rw [h.nil_inv]
  simp only [fillA, Option.some.injEq] at hf
  subst hf; exact ⟨cur, by simp [Instr.fill], hc, h1⟩
 | (i, x) :: ps, vs, cs, r, cur, h, hc, h1, hf => by
  obtain ⟨⟨i', v⟩, vs', rfl, h2, h3⟩ := h.cons_inv
  simp only at h2
  obtain ⟨rfl, hv⟩ := h2
  simp only [fillA] at hf
  cases hp : place i with
  | none => simp [hp] at hf
  | some p =>
   obtain ⟨off, size⟩ := p
   simp only [hp] at hf
   split at hf
   ·rename_i hcond
    obtain ⟨hs, hlen, hone⟩ := hcond
    obtain ⟨hpc, h1c⟩ := hv.cellsV hone
    have hvs : v.cells.size = size := by have := hpc.1; rw [hs] at this; simpa using this.symm
    have hcl : cs.length = cur.size := by have := hc.1; simpa using this
    have hz : v.cells.zipIdx = (v.cells.toList.zipIdx).toArray := by apply Array.toList_inj.1; rw [Array.toList_zipIdx]
    have hfold : (Array.foldl (fun cs x => match x with | (c, j) => cs.setIfInBounds (off + j) c) cur v.cells.zipIdx) = (v.cells.toList.zipIdx).foldl (fun (cs : Array Value) (p : Value × Nat) => cs.setIfInBounds (off + p.2) p.1) cur := by
     rw [hz, List.foldl_toArray']
     simp
    have hr := setSeg_rel (R := VRel G w) off x.cells v.cells.toList 0 cs cur hpc hc
    have ho := setSeg_one off v.cells.toList 0 cur h1c h1
    obtain ⟨cells, e1, e2, e3⟩ := fillA_rel ps vs' _ r _ h3 (by simpa using hr) ho (by simpa using hf)
    refine ⟨cells, ?_, e2, e3⟩
    simp only [Instr.fill, hp, hvs, ne_eq, not_true_eq_false]
    rw [if_neg (by simp; omega)]
    exact hfold ▸ e1
   ·cases hf
def placesOf (P : Program) (T : TypeId) : Option (List (Nat × Nat)) :=
 match P.underlying T with
 | some (.struct fs) => fs.toList.mapM fun f => (P.info? f.type).map fun i => (f.offset, i.size)
 | some (.array n e) => (P.info? e).map fun i => (List.range n).map fun k => (k * i.size, i.size)
 | _ => none
theorem fill_more {f g : Nat -> Option (Nat × Nat)} (h : ∀ i p, f i = some p -> g i = some p) : ∀ (ps : List (Nat × Value)) (cells r : Array Value), Instr.fill f cells ps = some r -> Instr.fill g cells ps = some r
 | [], cells, r, hf => hf
 | (i, v) :: rest, cells, r, hf => by
  simp only [Instr.fill] at hf ⊢
  cases hi : f i with
  | none => simp [hi] at hf
  | some p =>
   rw [h i p hi]
   simp only [hi] at hf ⊢
   split at hf
   ·cases hf
   ·rename_i hc
    rw [if_neg hc]
    exact fill_more h rest _ r hf
def evBuild (P : Program) (T : TypeId) (ps : List (Nat × AV)) (K : AV -> Prop) : Prop :=
 ∃ q places z r, tinfo P T = some q /\ placesOf P T = some places /\ q.2.2 = some z /\ (z.cells.toList.all fun u => u.oneCell') = true /\ fillA (fun i => places[i]?) (ofConst z).cells ps = some r /\ K (.ag r)
theorem evBuild_sound {T : TypeId} {ps : List (Nat × AV)} {K : AV -> Prop} (h : evBuild P T ps K) :
  ∃ r, K r /\ ∀ (d : Nat) (G : Nat -> Status) (w : World) (vs : Array (Nat × Value)), Good G w -> PW (fun p q => p.1 = q.1 /\ VRel G w p.2 q.2) ps vs.toList -> Does P d G w (Instr.build T vs) r := by
 obtain ⟨⟨sz, by_, z0⟩, places, z, r, hq, hpl, hz, hz1, hf, hK⟩ := h
 simp only at hz; subst hz
 refine ⟨_, hK, fun d G w vs hg hv => ?_⟩
 obtain ⟨i, hi, hsz, hby, hzz⟩ := tinfo_some hq
 obtain ⟨hp, hone⟩ := ofConst_cells (S := Stable G) (w := w) z hz1
 obtain ⟨cells, e1, e2, e3⟩ := fillA_rel ps vs.toList _ r z.cells hv (hp.mono fun x y _ hr => .froz hr) hone hf
 have hb : P.built T vs.toList = some cells := by
  unfold placesOf at hpl
  split at hpl
  ·rename_i fs hT
   simp only [Program.built, hi, hT, hzz, hpl]
   simpa using e1
  ·rename_i n e hT
   cases hie : P.info? e with
   | none => simp [hie] at hpl
   | some ie =>
    simp only [hie, Option.map_some, Option.some.injEq] at hpl
    simp only [Program.built, hi, hT, hzz, hie]
    refine fill_more (fun j p hj => ?_) _ _ _ e1
    rw [<- hpl, List.getElem?_map] at hj
    cases hr : (List.range n)[j]? with
    | none => simp [hr] at hj
    | some k =>
     have hk : k = j := by
      have := List.getElem?_eq_some_iff.1 hr
      obtain ⟨h1, h2⟩ := this
      simpa using h2.symm
     subst hk
     simpa [hr] using hj
  ·cases hpl
 exact .pure hg (run_build w T vs cells hb) (.ag r cells e2.1 e3 e2.2)
theorem newBox {gh : Gh} {G : Nat -> Status} {w : World} {bx : List (List AV)} {cs : List AV} {vals : Array Value} {T : TypeId} (hg : Good G w) (hb : BRel gh G w bx) (hbl : ∀ b i, G b = .box i -> i < bx.length)
  (hp : PW (VRel G w) cs vals.toList) (h1 : One vals.toList) :
  let G' := updG G w.heap.size (.box bx.length)
  let w' := w.alloc (.cells vals T)
  VRel G' w' (.pb bx.length 0) (.pointer (some ⟨w.heap.size, 0, none⟩)) /\ Ext G w G' w' /\ Good G' w' /\ BRel gh G' w' (bx ++ [cs]) /\ (∀ b i, G' b = .box i -> i < (bx ++ [cs]).length) := by
 intro G' w'
 have hE : Ext G w G' w' := .alloc _ _
 have hG : Good G' w' := hg.upd _ _ (Nat.le_refl _) (by simp [w']) (by simp [w']) (fun t ht => by cases ht) (fun i hi b h => by cases hi; have := hbl b _ h; omega)
 refine ⟨.pb _ _ _ (by simp [G', updG]), hE, hG, ?_, ?_⟩
 ·refine ⟨fun i vs hv => by have := hb.low i vs hv; simp; omega, fun i cs' hi => ?_⟩
  by_cases hlt : i < bx.length
  ·rw [List.getElem?_append_left hlt] at hi
   refine (hb.ext hg hE fun b i hbi hi => ?_).cell i cs' hi
   simp only [G', updG] at hbi
   split at hbi
   ·cases hbi; omega
   ·exact hbi
  ·rw [List.getElem?_append_right (by omega)] at hi
   have : i = bx.length := by
    cases hd : i - bx.length with
    | zero => omega
    | succ n => rw [hd] at hi; simp at hi
   subst this
   simp at hi; subst hi
   exact .inl ⟨by cases hgh : gh bx.length with | none => rfl | some vs => have := hb.low _ vs hgh; omega, w.heap.size, vals, T, by simp [G', updG], heap_alloc_new w _, h1, hp.mono fun x y _ hr => hr.ext hg hE⟩
 ·intro b i h
  simp only [G', updG] at h
  split at h
  ·cases h; simp
  ·have := hbl b i h; simp; omega
theorem store_run {w : World} {T : TypeId} {sz by_ : Nat} {z : Option Value} (hq : tinfo P T = some (sz, by_, z)) {b o : Nat} {cur : Array Value} {e : TypeId} (hh : w.heap[b]? = some (.cells cur e (0, 0))) {v : Value}
  (hs : v.cells.size = sz) (h1 : One v.cells.toList) (hfit : o + sz <= cur.size) :
  (Instr.storeAt T (.pointer (some ⟨b, o, none⟩)) v).run P w = .ok () (w.setRow b (cur.toList.take o ++ v.cells.toList ++ cur.toList.drop (o + sz)).toArray) := by
 have hst := run_storeCells_at P b o e v.cells.toList 0 cur w hh (by simpa [hs] using hfit) h1
 simp only [Nat.add_zero] at hst
 have hadd : (storeCells ⟨b, o, none⟩ v.cells.toList).run P w = _ := hst
 simp [Instr.storeAt, Instr.sureAddr, storeVar, run_sizeOf hq, hs, hadd]
end ops
theorem setSeg_take {α : Type} : ∀ (ys cs : List α) (k m : Nat), (setSeg cs k ys).take m = setSeg (cs.take m) k ys
 | [], _, _, _ => rfl
 | y :: ys, cs, k, m => by simp only [setSeg]; rw [setSeg_take ys, List.take_set]
theorem setSeg_eq {α : Type} : ∀ (ys cs : List α) (k : Nat), k + ys.length <= cs.length -> setSeg cs k ys = cs.take k ++ ys ++ cs.drop (k + ys.length)
 | [], cs, k, _ => by simp [setSeg]
 | y :: ys, cs, k, h => by
  simp only [List.length_cons] at h
  simp only [setSeg]
  rw [setSeg_eq ys (cs.set k y) (k + 1) (by simp; omega)]
  have hk : k < cs.length := by omega
  have e1 : (cs.set k y).take (k + 1) = cs.take k ++ [y] := by
   rw [List.take_succ_eq_append_getElem (by simpa using hk), List.take_set_of_le (Nat.le_refl _)]; simp
  have e2 : (cs.set k y).drop (k + 1 + ys.length) = cs.drop (k + (ys.length + 1)) := by
   rw [List.drop_set_of_lt (by omega), show k + 1 + ys.length = k + (ys.length + 1) by omega]
  rw [e1, e2]; simp
theorem setSeg_out {α : Type} : ∀ (ys cs : List α) (k : Nat), cs.length <= k -> setSeg cs k ys = cs
 | [], _, _, _ => rfl
 | y :: ys, cs, k, h => by simp only [setSeg]; rw [List.set_eq_of_length_le h, setSeg_out ys cs (k + 1) (by omega)]
theorem PW.setSeg {α β : Type} {R : α -> β -> Prop} : ∀ {ys : List α} {vs : List β} {cs : List α} {us : List β} (k : Nat), PW R ys vs -> PW R cs us -> PW R (AM.setSeg cs k ys) (AM.setSeg us k vs)
 | [], vs, cs, us, k, h, hc => by rw [h.nil_inv]; exact hc
 | y :: ys, vs, cs, us, k, h, hc => by
  obtain ⟨v, vs', rfl, h1, h2⟩ := h.cons_inv
  simp only [AM.setSeg]
  exact PW.setSeg (k + 1) h2 (hc.set k h1)
theorem setSeg_append_right {α : Type} : ∀ (ys as bs : List α) (k : Nat), setSeg (as ++ bs) (as.length + k) ys = as ++ setSeg bs k ys
 | [], _, _, _ => rfl
 | y :: ys, as, bs, k => by
  simp only [setSeg]
  rw [List.set_append_right _ _ (by omega), show as.length + k - as.length = k by omega, show as.length + k + 1 = as.length + (k + 1) by omega, setSeg_append_right ys]
theorem setSeg_append_left {α : Type} : ∀ (ys as bs : List α) (k : Nat), k + ys.length <= as.length -> setSeg (as ++ bs) k ys = setSeg as k ys ++ bs
 | [], _, _, _, _ => rfl
 | y :: ys, as, bs, k, h => by
  simp only [List.length_cons] at h
  simp only [setSeg]
  rw [List.set_append_left _ _ (by omega), setSeg_append_left ys _ _ _ (by simp; omega)]
theorem One.setSeg : ∀ {vs us : List Value} (k : Nat), One vs -> One us -> One (AM.setSeg us k vs)
 | [], _, _, _, h => h
 | v :: vs, us, k, hv, hu => by
  simp only [AM.setSeg]
  refine One.setSeg (k + 1) (fun u h => hv u (by simp [h])) fun u h => ?_
  rcases List.mem_or_eq_of_mem_set h with h' | h'
  ·exact hu u h'
  ·rw [h']; exact hv v (by simp)
def updElem (o : Nat) (ys : List AV) : AV -> AV
 | .ag cs => .ag (setSeg cs o ys)
 | _ => ys.headD .any
def leafAll (ys : List AV) : Bool := ys.all fun y => y.leafy
theorem updElem_cells {o : Nat} {ys : List AV} {e : AV} (h : o + ys.length <= e.cells.length) (hp : ys ≠ []) (hl : leafAll ys = true) : (updElem o ys e).cells = setSeg e.cells o ys := by
 cases ys with
 | nil => exact absurd rfl hp
 | cons y ys =>
  have hy : y.leafy = true := by simp only [leafAll, List.all_cons, Bool.and_eq_true] at hl; exact hl.1
  have leaf : e.leafy = true \/ (∃ vs, e = .tup vs) -> (updElem o (y :: ys) e).cells = setSeg e.cells o (y :: ys) := by
   intro he
   have hc : e.cells = [e] := by
    rcases he with he | ⟨vs, rfl⟩
    ·cases e <;> first | rfl | (simp [AV.leafy] at he)
    ·rfl
   have hu : updElem o (y :: ys) e = y := by
    rcases he with he | ⟨vs, rfl⟩
    ·cases e <;> first | rfl | (simp [AV.leafy] at he)
    ·rfl
   rw [hc] at h
   simp only [List.length_cons, List.length_nil] at h
   have h0 : o = 0 := by omega
   have h1 : ys = [] := List.eq_nil_of_length_eq_zero (by omega)
   subst h0; subst h1
   rw [hu, hc]
   have : y.cells = [y] := by cases y <;> first | rfl | (simp [AV.leafy] at hy)
   rw [this]; rfl
  cases e with
  | ag cs => rfl
  | tup vs => exact leaf (.inr ⟨vs, rfl⟩)
  | _ => exact leaf (.inl rfl)
def updAt (xs : List AV) (i o : Nat) (ys : List AV) : List AV := xs.modify i (updElem o ys)
theorem updAt_flat {es o : Nat} {ys : List AV} (ho : o + ys.length <= es) (hp : ys ≠ []) (hl : leafAll ys = true) : ∀ (xs : List AV) (i : Nat), (∀ x ∈ xs, x.cells.length = es) -> flat (updAt xs i o ys) = setSeg (flat xs) (i * es + o) ys
 | [], i, _ => by
  cases i <;> simp [updAt, flat, setSeg_out]
 | x :: xs, 0, h => by
  have hx := h x (by simp)
  simp only [updAt, List.modify_zero_cons, flat, List.flatMap_cons, Nat.zero_mul, Nat.zero_add]
  rw [updElem_cells (by omega) hp hl, setSeg_append_left _ _ _ _ (by omega)]
 | x :: xs, i + 1, h => by
  have hx := h x (by simp)
  have := updAt_flat ho hp hl xs i (fun y hy => h y (by simp [hy]))
  simp only [updAt, flat] at this
  simp only [updAt, List.modify_succ_cons, flat, List.flatMap_cons]
  rw [this, show (i + 1) * es + o = x.cells.length + (i * es + o) by rw [hx, Nat.succ_mul]; omega, setSeg_append_right]
theorem updAt_width {es o : Nat} {ys : List AV} (ho : o + ys.length <= es) (hp : ys ≠ []) (hl : leafAll ys = true) {xs : List AV} {i : Nat} (h : ∀ x ∈ xs, x.cells.length = es) : ∀ x ∈ updAt xs i o ys, x.cells.length = es := by
 intro x hx
 obtain ⟨j, hj⟩ := List.getElem?_of_mem hx
 simp only [updAt, List.getElem?_modify] at hj
 cases hk : xs[j]? with
 | none => simp [hk] at hj
 | some y =>
  have hy := h y (List.mem_of_getElem? hk)
  simp only [hk, Option.map_eq_map, Option.map_some, Option.some.injEq] at hj
  split at hj
  ·rw [<- hj, updElem_cells (by omega) hp hl, setSeg_length]; exact hy
  ·rw [<- hj]; exact hy
def storeRow (t es i o : Nat) (ys : List AV) : AV -> AV
 | .sl t' es' xs => if t' = t then (if es' = es then .sl t es (updAt xs i o ys) else .any) else .sl t' es' xs
 | x => x
def storeLeaf (t es i o : Nat) (ys : List AV) : AV -> AV
 | .so t' xs => if t' = t then .any else .so t' (xs.map (storeRow t es i o ys))
 | .po t' xs i' => if t' = t then .any else .po t' (xs.map (storeRow t es i o ys)) i'
 | .sl t' es' xs => if t' = t then (if es' = es then .sl t es (updAt xs i o ys) else .any) else .sl t' es' xs
 | .pe t' es' xs i' o' => if t' = t then (if es' = es then .pe t es (updAt xs i o ys) i' o' else .any) else .pe t' es' xs i' o'
 | .tl t' es' xs i' => if t' = t then (if es' = es then .tl t es (updAt xs i o ys) i' else .any) else .tl t' es' xs i'
 | x => x
def AV.storeAt (t es i o : Nat) (ys : List AV) (x : AV) : AV := x.mapTop (storeLeaf t es i o ys)
section
variable {G : Nat -> Status} {w : World} {t es i o b : Nat} {ys : List AV} {vs : List Value} {cur : Array Value} {e : TypeId}
theorem heap_setRow_ne {b' : Nat} {cs : Array Value} (h : b' ≠ b) : (w.setRow b cs).heap[b']? = w.heap[b']? := by
 simp [World.setRow, Array.getElem?_modify, Ne.symm h]
theorem VRel.stored (hg : Good G w) (ht : 2 <= t) (hb : G b = .tag t) (hh : w.heap[b]? = some (.cells cur e (0, 0))) (ho : o + ys.length <= es) (hp : ys ≠ []) (hl : leafAll ys = true)
  (hy : PW (FRel (Stable G) w) ys vs) (h1 : One vs) {x : AV} {v : Value} (h : VRel G w x v) :
  VRel G (w.setRow b (setSeg cur.toList (i * es + o) vs).toArray) (x.storeAt t es i o ys) v := by
 have hset := setRow_heap w b cur (setSeg cur.toList (i * es + o) vs).toArray e (0, 0) hh
 have hF : ∀ {x v}, FRel (Stable G) w x v -> FRel (Stable G) (w.setRow b (setSeg cur.toList (i * es + o) vs).toArray) x v := fun hr =>
  hr.mono (fun _ h => h) (fun b' hb' => heap_setRow_ne (fun h => by subst h; unfold Stable at hb'; rw [hb] at hb'; cases hb'))
 have hsl : ∀ {t' es' xs v}, VRel G w (.sl t' es' xs) v -> VRel G (w.setRow b (setSeg cur.toList (i * es + o) vs).toArray) (storeLeaf t es i o ys (.sl t' es' xs)) v := by
  intro t' es' xs v h
  simp only [storeLeaf]
  cases h with
  | froz h =>
   have : t' < 2 := by cases h <;> assumption
   rw [if_neg (by omega)]
   exact .froz (hF h)
  | own _ _ _ _ e' vals h2 h3 h4 h5 h0 h6 =>
   by_cases htt : t' = t
   ·subst htt
    rw [if_pos rfl]
    by_cases hes : es' = es
    ·subst hes
     rw [if_pos rfl]
     have hlen : (updAt xs i o ys).length = xs.length := by simp [updAt]
     rcases h3.2 with ⟨hv, hn⟩ | ⟨g, cap, cur', hv, hgb, hh', hnc, hcm, hcs, hct⟩
     ·subst hv
      obtain rfl := List.eq_nil_of_length_eq_zero hn
      have : updAt [] i o ys = [] := by cases i <;> rfl
      rw [this]
      refine .own t' es' [] _ e' vals h2 ⟨h3.1, .inl ⟨rfl, rfl⟩⟩ (fun b hb => by simp [Value.ownBlock] at hb) (by simp) h0 ⟨h6.1, fun j x u hx hu => hF (h6.2 j x u hx hu)⟩
     ·subst hv
      obtain rfl := hg.tags _ _ _ (h4 g rfl) hb
      rw [hh] at hh'
      simp only [Option.some.injEq, Obj.cells.injEq, and_true] at hh'
      obtain ⟨rfl, rfl⟩ := hh'
      refine .own t' es' _ _ e (AM.setSeg vals (i * es' + o) vs) h2 ⟨?_, .inr ⟨g, cap, _, by rw [hlen], Nat.zero_le _, hset, by rw [hlen]; exact hnc, hcm, ?_, ?_⟩⟩ (fun b' hb' => ?_) (updAt_width ho hp hl h5) (One.setSeg _ h1 h0) ?_
      ·rw [setSeg_length, hlen]; exact h3.1
      ·simp only [List.size_toArray, setSeg_length, Array.length_toList]; exact hcs
      ·rw [hlen]; simp only [setSeg_take]; rw [hct]
      ·simp only [Value.ownBlock, Option.some.injEq] at hb'; rw [<- hb']; exact hb
      ·rw [updAt_flat ho hp hl xs i h5]
       exact (PW.setSeg _ hy h6).mono fun x y _ hr => hF hr
    ·rw [if_neg hes]; exact .froz (.any _)
   ·rw [if_neg htt]
    refine .own t' es' xs v e' vals h2 (ownsRow_congr h3 fun b' hb' => heap_setRow_ne (fun h => ?_)) h4 h5 h0 (h6.mono fun x y _ hr => hF hr)
    subst h
    have := h4 _ hb'
    rw [hb] at this; cases this; exact htt rfl
 have hso : ∀ {t' xs v}, t' ≠ t -> VRel G w (.so t' xs) v -> VRel G (w.setRow b (setSeg cur.toList (i * es + o) vs).toArray) (.so t' (xs.map (storeRow t es i o ys))) v := by
  intro t' xs v hne h
  refine h.so_map h.so_two (fun x u hx hr => ?_) (fun b' hb' => ⟨hb', heap_setRow_ne (fun h => by subst h; rw [hb] at hb'; cases hb'; exact hne rfl)⟩)
  cases x with
  | sl t'' es'' xs'' =>
   have h1 := hsl hr.val
   have h2 : (storeRow t es i o ys (.sl t'' es'' xs'')).rowLike = true := by simp only [storeRow]; split <;> first | rfl | (split <;> rfl)
   refine ⟨h2, h1.toL h2 fun t3 es3 xs3 he h3 => ?_⟩
   simp only [storeLeaf] at he
   split at he
   ·rename_i htt
    split at he
    ·cases he; rw [<- htt]; exact hr.rootOf (by omega)
    ·cases he
   ·cases he; exact hr.rootOf h3
  | _ => exact ⟨hx, .froz (hF (hr.other (by simp)))⟩
 refine h.mapTop fun x v hx h => ?_
 cases x with
 | so t' xs =>
  simp only [storeLeaf]; split
  ·exact .froz (.any _)
  ·rename_i hne; exact hso hne h
 | po t' xs i' =>
  obtain ⟨b', off, c, h2, h3, rfl⟩ := h.po_inv
  simp only [storeLeaf]; split
  ·exact .froz (.any _)
  ·rename_i hne; exact (hso hne h2).po_of (by simp) h3
 | sl t' es' xs => exact hsl h
 | pe t' es' xs i' o' =>
  obtain ⟨b', off, c, h2, h3, rfl⟩ := h.pe_inv
  have := hsl h2
  simp only [storeLeaf] at this ⊢
  by_cases htt : t' = t
  ·rw [if_pos htt] at this ⊢
   by_cases hes : es' = es
   ·rw [if_pos hes] at this ⊢
    have hlen : (updAt xs i o ys).length = xs.length := by simp [updAt]
    subst hes
    exact .pe _ _ _ _ _ _ off c (by rw [hlen]; exact this) (by rw [hlen]; exact h3)
   ·rw [if_neg hes]; exact .froz (.any _)
  ·rw [if_neg htt] at this ⊢
   exact .pe _ _ _ _ _ _ _ _ this h3
 | pb i o => obtain ⟨b, hb, rfl⟩ := h.pb_inv; exact .pb _ _ _ hb
 | ag cs => simp [AV.leafy] at hx
 | tup cs => simp [AV.leafy] at hx
 | any => exact .froz (.any _)
 | nil => rw [h.nil_inv]; exact .froz .nil
 | ub => obtain ⟨b, rfl⟩ := h.ub_inv; exact .froz (.ub b)
 | sc u => rw [h.sc_inv]; exact .froz (.sc _)
 | fn g caps => cases h with | froz h => exact .froz (hF h)
 | mp t' P k e' D => exact h.mpMono (fun _ hb => hb) (fun b' es cl _ hm => heap_setRow_ne (fun h => by subst h; rw [hh] at hm; cases hm))
 | cl g caps => exact h.clMono (fun _ h => h) (fun b' hb' => heap_setRow_ne (fun h => by subst h; unfold Stable at hb'; rw [hb] at hb'; cases hb')) (fun _ _ h => h)
 | tl t' es' xs i' =>
  obtain ⟨b', off, off', c, h2, h3, h4, _, rfl⟩ := h.tl_inv
  have := hsl h2
  simp only [storeLeaf] at this ⊢
  by_cases htt : t' = t
  ·rw [if_pos htt] at this ⊢
   by_cases hes : es' = es
   ·rw [if_pos hes] at this ⊢
    have hlen : (updAt xs i o ys).length = xs.length := by simp [updAt]
    subst hes
    have := VRel.tl t es' (updAt xs i o ys) i' b' off off' c (by rw [hlen]; exact this) (by rw [hlen]; exact h3) h4
    rw [hlen] at this; exact this
   ·rw [if_neg hes]; exact .froz (.any _)
  ·rw [if_neg htt] at this ⊢
   exact .tl _ _ _ _ _ _ _ _ this h3 h4
 | fp cs o => cases h with | froz h => exact .froz (hF h)
end
def mapLen : DataW Unit -> Nat
 | .map es => es.length
 | _ => 0
def boolAt (D : DataW Unit) (l : Lit) : Bool := match D.atKey l (.lit (.bool false)) with
 | .lit (.bool b) => b
 | _ => false
def intAt (q : IntKind) (D : DataW Unit) (l : Lit) : Int := match D.atKey l (.lit (.int q 0)) with
 | .lit (.int _ a) => a
 | _ => 0
section
variable {P : Program}
theorem ownsMap_len {k : TypeId} {R : Value -> Option (DataW Unit × List MemPlace)} {w : World} {b n : Nat} {D : DataW Unit} (h : w.ownsMap P k R b n D) :
  w.ownsMap P k R b (mapLen D) D /\ ∃ es cl, w.heap[b]? = some (.map es cl) /\ es.size = mapLen D := by
 obtain ⟨es, cl, h1, h2, h3, rfl⟩ := h
 have e : es.size = mapLen (.map ((es.toList.map (Go.WideElems.rg P k R)).foldr DataW.insert [])) := by simp only [mapLen]; rw [length_sorted]; simp
 exact ⟨⟨es, cl, h1, h2, by omega, rfl⟩, es, cl, h1, e⟩
def keyKind : Option TypeDesc -> Bool
 | some .string => true
 | some .bool => true
 | some (.int _) => true
 | _ => false
theorem keyKind_keyed {k : TypeId} (h : keyKind (P.underlying k) = true) : Go.Maps.Keyed P k := by
 unfold keyKind at h
 split at h
 ·exact Go.Maps.string_keyed (by assumption)
 ·exact Go.Maps.bool_keyed (by assumption)
 ·exact Go.Maps.int_keyed (by assumption)
 ·cases h
def evMakeMap (P : Program) (d : Nat) (T : TypeId) (K : AV -> Prop) : Prop :=
 match P.underlying T with
 | some (.map k e) => K (.mp (64 * (d + 1)) P k e (.map []))
 | _ => False
theorem evMakeMap_sound {d : Nat} {T : TypeId} {K : AV -> Prop} (h : evMakeMap P d T K) : ∃ r, K r /\ ∀ (G : Nat -> Status) (w : World), Good G w -> Fresh d G -> Does P d G w (Instr.makeMap T none) r := by
 unfold evMakeMap at h
 split at h
 ·refine ⟨_, h, fun G w hg hf => ?_⟩
  refine ⟨_, _, updG G w.heap.size (.tag (64 * (d + 1))), run_makeMap T w, ?_, .alloc _ _, hg.upd _ _ (Nat.le_refl _) (by simp) (by simp) (fun t ht b hb => ?_) (fun i h => by cases h), .upd hf.own⟩
  ·exact .mp _ P _ _ _ _ 0 (by omega) (by simp [updG]) (World.ownsMap_made w P _ _)
  ·cases ht
   have := hf.2 b _ hb
   have := hf.1
   unfold root at *; omega
 ·exact h.elim
def evLookup (P : Program) (T : TypeId) (x ix : AV) (K : AV -> Prop) : Prop :=
 match x, ix with
 | .mp _ P' k e D, .sc kv => P' = P /\ P.underlying T = some (.map k e) /\ keyKind (P.underlying k) = true /\ ∃ kl, keyOf P k kv = some kl /\
   ∃ q, tinfo P e = some q /\ match P.underlying e with
   | some .bool => q.2.2 = some (.bool false) /\ K (.sc (.bool (boolAt D kl)))
   | some (.int i) => q.2.2 = some (.int i 0) /\ K (.sc (.int i (intAt i D kl)))
   | _ => False
 | _, _ => False
theorem run_zero {e : TypeId} {q : Nat × Nat × Option Value} {z : Value} (hq : tinfo P e = some q) (hz : q.2.2 = some z) (w : World) : (zeroValue e).run P w = .ok z w := by
 obtain ⟨sz, by_, z'⟩ := q
 simp only at hz; subst hz
 obtain ⟨i, hi, _, _, h⟩ := tinfo_some hq
 simp [zeroValue, typeInfo, hi, h]
theorem evLookup_sound {T : TypeId} {x ix : AV} {K : AV -> Prop} (h : evLookup P T x ix K) : ∃ r, K r /\ ∀ (d : Nat) (G : Nat -> Status) (w : World) (v u : Value), Good G w -> VRel G w x v -> VRel G w ix u -> Does P d G w (Instr.lookup T v u false) r := by
 unfold evLookup at h
 split at h
 ·rename_i t P' k e D kv
  obtain ⟨rfl, hT, hk, kl, hkl, q, hq, h⟩ := h
  have hK := keyKind_keyed hk
  split at h
  ·rename_i he
   obtain ⟨hz, hk⟩ := h
   refine ⟨_, hk, fun d G w v u hg hv hu => ?_⟩
   obtain rfl := hu.sc_inv
   cases hv with
   | froz h => cases h
   | mp _ _ _ _ _ b n h1 h2 h3 =>
    obtain ⟨v, ps, hrun, hR⟩ := h3.lookup hK hT (run_zero hq hz w) (plainElem_bool he false) hkl
    refine .pure hg hrun ?_
    have : v = .bool (boolAt D kl) := by
     unfold plainElem at hR
     rw [he] at hR
     cases v <;> simp at hR
     rename_i x
     have e1 := hR.1
     unfold boolAt
     rw [<- e1]
    rw [this]; exact .froz (.sc _)
  ·rename_i i he
   obtain ⟨hz, hk⟩ := h
   refine ⟨_, hk, fun d G w v u hg hv hu => ?_⟩
   obtain rfl := hu.sc_inv
   cases hv with
   | froz h => cases h
   | mp _ _ _ _ _ b n h1 h2 h3 =>
    obtain ⟨c, hrun, hat, _⟩ := h3.lookup_int hK hT he (run_zero hq hz w) hkl
    refine .pure hg hrun ?_
    have : c = intAt i D kl := by unfold intAt; rw [hat]
    rw [this]; exact .froz (.sc _)
  ·exact h.elim
 ·exact h.elim
def isMap : Option TypeDesc -> Bool
 | some (.map _ _) => true
 | _ => false
theorem len_map {T : TypeId} {t : Nat} {P' : Program} {k e : TypeId} {D : DataW Unit} (hT : isMap (P.underlying T) = true) {ty : TypeId} {d : Nat} {G : Nat -> Status} {w : World} {v : Value} (hg : Good G w) (hv : VRel G w (.mp t P' k e D) v) :
  Does P d G w (Builtin.len_ #[T] ty #[v]) (.sc (.int .i64 (mapLen D))) := by
 cases hT2 : P.underlying T with
 | none => rw [hT2] at hT; cases hT
 | some dd =>
 cases dd <;> rw [hT2] at hT <;> first | (cases hT; done) | skip
 ·cases hv with
  | froz h => cases h
  | mp _ _ _ _ _ b n h1 h2 h3 =>
   obtain ⟨_, es, cl, g1, g2⟩ := ownsMap_len h3
   refine .pure (v := .int .i64 (mapLen D)) hg ?_ (.froz (.sc _))
   simp [Builtin.len_, run_underlying hT2, Go.MapKept.run_getObj_map g1, goInt, g2]
def evLenM (P : Program) (T : TypeId) (x : AV) (K : AV -> Prop) : Prop :=
 match x with
 | .mp _ _ _ _ D => isMap (P.underlying T) = true /\ K (.sc (.int .i64 (mapLen D)))
 | x => evLen P T x K
theorem evLenM_sound {T : TypeId} {x : AV} {K : AV -> Prop} (h : evLenM P T x K) :
  ∃ r, K r /\ ∀ (ty : TypeId) (d : Nat) (G : Nat -> Status) (w : World) (v : Value), Good G w -> VRel G w x v -> Does P d G w (Builtin.len_ #[T] ty #[v]) r := by
 unfold evLenM at h
 split at h
 ·exact ⟨_, h.2, fun ty d G w v hg hv => len_map h.1 hg hv⟩
 ·exact evLen_sound h
def putMap (t : Nat) (P : Program) (k e : TypeId) (D' : DataW Unit) : AV -> AV
 | .mp t' P' k' e' D => if t' = t then .mp t P k e D' else .mp t' P' k' e' D
 | x => killLeaf t x
end
def ofLit (v : Value) : AV :=
 match v with
 | .agg cs => if (cs.toList.all fun u => u.oneCell') = true then .ag (cs.toList.map leafConst) else .any
 | v => leafConst v
theorem ofLit_rel {G : Nat -> Status} {w : World} (v : Value) : VRel G w (ofLit v) v := by
 have hleaf : ∀ u : Value, FRel (Stable G) w (leafConst u) u := fun u => by
  unfold leafConst; split
  ·exact .nil
  ·exact .sc _
 unfold ofLit
 split
 ·rename_i cs
  split
  ·rename_i h
   refine .froz (.ag _ cs (by simp) (fun u hu => List.all_eq_true.1 h u hu) fun j x u hx hu => ?_)
   simp only [List.getElem?_map, hu, Option.map_some, Option.some.injEq] at hx
   rw [<- hx]; exact hleaf u
  ·exact .froz (.any _)
 ·exact .froz (hleaf _)
section
variable {P : Program}
def typed (_P : Program) (_d : Nat) (_T : TypeId) (x : AV) : AV := x
theorem typed_rel {G : Nat -> Status} {w : World} {d : Nat} {T : TypeId} {x : AV} {v : Value} (h : VRel G w x v) : VRel G w (typed P d T x) v := h
def isFn : AV -> Bool
 | .fn _ _ => true
 | _ => false
def capOk : AV -> Bool
 | .pb _ _ => true
 | x => fzLeaf x
theorem VRel.cap {G : Nat -> Status} {w : World} {x : AV} {v : Value} (h : VRel G w x v) (hx : capOk x = true) : CapRel G w x v := by
 cases x with
 | pb i o => obtain ⟨b, hb, rfl⟩ := h.pb_inv; exact .inl ⟨i, o, b, rfl, hb, rfl⟩
 | _ => exact .inr (h.fzLeaf hx)
def evOp (P : Program) (d : Nat) (ρ : Operand -> AV) (bx : List (List AV)) (T : TypeId) (op : Op) (K : AV -> Prop) : Prop :=
 match op with
 | .move x => K (typed P d T (ρ x))
 | .assign x => K (typed P d T (ρ x))
 | .pick c a b => match ρ c with
  | .sc (.bool t) => (t = true -> K (ρ a)) /\ (t = false -> K (ρ b))
  | _ => False
 | .load T a => evLoad P bx T (ρ a) K
 | .nilCheck x => (isPtr (ρ x) = true \/ isFn (ρ x) = true) /\ K (ρ x)
 | .binOp op T x y _ => evBinOp P op T (ρ x) (ρ y) K
 | .unOp op _ x => evUn op (ρ x) K
 | .convert s t x => evConv P s t (ρ x) K
 | .slice T x lo hi mx => evSlice P T (ρ x) (lo.map ρ) (hi.map ρ) (mx.map ρ) K
 | .fieldAddr T x f => evFieldAddr P T (ρ x) f K
 | .field T x f => evField P T (ρ x) f K
 | .indexAddr T x i => evIndexAddr P T (ρ x) (ρ i) K
 | .index T x i => evIndex P T (ρ x) (ρ i) K
 | .extract x i => evExtract (ρ x) i K
 | .build T ps => evBuild P T (ps.toList.map fun p => (p.1, ρ p.2)) K
 | .buildSlice T n ps => evBuildSlice P d T n (ps.toList.map fun p => (p.1, ρ p.2)) K
 | .makeSlice T l c => evMake P d T (ρ l) (ρ c) K
 | .makeFunc (.func f) first caps => first.toList = [] /\ if (caps.toList.all fun x => fzLeaf (ρ x)) = true then K (.fn f (caps.toList.map ρ)) else (caps.toList.all fun x => capOk (ρ x)) = true /\ K (.cl f (caps.toList.map ρ))
 | .call { callee := .builtin .len, args, argTypes } => match args.toList, argTypes.toList with
  | [x], [T] => evLenM P T (ρ x) K
  | _, _ => False
 | .call { callee := .builtin .cap, args, argTypes } => match args.toList, argTypes.toList with
  | [x], [T] => evCap P T (ρ x) K
  | _, _ => False
 | .call { callee := .builtin .max, args, argTypes := _ } => match args.toList with
  | [x, y] => evMax (ρ x) (ρ y) K
  | _ => False
 | .call { callee := .builtin .min, args, argTypes := _ } => match args.toList with
  | [x, y] => evMin (ρ x) (ρ y) K
  | _ => False
 | .call { callee := .builtin .append, args, argTypes } => match args.toList, argTypes.toList with
  | [x, y], [T, T'] => evAppendX P d T T' (ρ x) (ρ y) K
  | _, _ => False
 | .makeMap T none => evMakeMap P d T K
 | .alloc T => evAllocE P d T K
 | .lookup T x ix false => evLookup P T (ρ x) (ρ ix) K
 | _ => False
def needsFresh : Op -> Bool
 | .buildSlice .. => true
 | .makeSlice .. => true
 | .makeMap .. => true
 | .alloc _ => true
 | .call { callee := .builtin .append, .. } => true
 | _ => false
def Yields1 (P : Program) (d : Nat) (G : Nat -> Status) (w : World) (s : Sem Next) (r : AV) : Prop :=
 ∃ v w' G', s.run P w = .ok (.value v) w' /\ VRel G' w' r v /\ Ext G w G' w' /\ Good G' w' /\ NewTags d G G'
theorem Does.yields {d : Nat} {G : Nat -> Status} {w : World} {s : Sem Value} {r : AV} (h : Does P d G w s r) : Yields1 P d G w (do Pure.pure (Next.value (<- s)) : Sem Next) r := by
 obtain ⟨v, w', G', h1, h2⟩ := h
 exact ⟨v, w', G', by simp [h1], h2⟩
theorem arr_eq {α : Type} {a : Array α} {l : List α} (h : a.toList = l) : a = l.toArray := by rw [<- h]
theorem PW.parts {G : Nat -> Status} {w : World} {ρ : Operand -> AV} {ρ' : Operand -> Value} (ps : Array (Nat × Operand)) (h : ∀ p ∈ ps.toList, VRel G w (ρ p.2) (ρ' p.2)) :
  PW (fun (p : Nat × AV) (q : Nat × Value) => p.1 = q.1 /\ VRel G w p.2 q.2) (ps.toList.map fun p => (p.1, ρ p.2)) (ps.map fun p => (p.1, ρ' p.2)).toList := by
 rw [Array.toList_map]
 refine ⟨by simp, fun j x y hx hy => ?_⟩
 simp only [List.getElem?_map] at hx hy
 cases hj : ps.toList[j]? with
 | none => simp [hj] at hx
 | some p => simp [hj] at hx hy; subst hx; subst hy; exact ⟨rfl, h p (List.mem_of_getElem? hj)⟩
theorem ORel.map {G : Nat -> Status} {w : World} {ρ : Operand -> AV} {ρ' : Operand -> Value} (x : Option Operand) (h : ∀ y, x = some y -> VRel G w (ρ y) (ρ' y)) : ORel G w (x.map ρ) (x.map ρ') := by
 cases x with
 | none => trivial
 | some x => exact h x rfl
theorem evOp_sound {d : Nat} {ρ : Operand -> AV} {bx : List (List AV)} {T : TypeId} {op : Op} {K : AV -> Prop} (h : evOp P d ρ bx T op K) :
  ∃ r, K r /\ ∀ (o : Oper) (gh : Gh) (G : Nat -> Status) (w : World) (ρ' : Operand -> Value), o.op = op -> Good G w -> (needsFresh op = true -> Fresh d G) -> BRel gh G w bx ->
   (∀ x ∈ op.operands, VRel G w (ρ x) (ρ' x)) -> Yields1 P d G w (execOp ρ' o) r := by
 unfold evOp at h
 split at h
 case h_1 x => exact ⟨_, h, fun o gh G w ρ' ho hg hf hb hr => ⟨_, w, G, by simp [execOp, ho], typed_rel (hr x (by simp [Op.operands])), .refl G w, hg, .refl d G⟩⟩
 case h_2 x => exact ⟨_, h, fun o gh G w ρ' ho hg hf hb hr => ⟨_, w, G, by simp [execOp, ho], typed_rel (hr x (by simp [Op.operands])), .refl G w, hg, .refl d G⟩⟩
 case h_3 c a b =>
  split at h
  ·rename_i t hc
   refine ⟨if t then ρ a else ρ b, by cases t; exact h.2 rfl; exact h.1 rfl, fun o gh G w ρ' ho hg hf hb hr => ?_⟩
   have h1 := hr c (by simp [Op.operands])
   rw [hc] at h1
   refine ⟨if t then ρ' a else ρ' b, w, G, by simp [execOp, ho, h1.sc_inv, asBool], ?_, .refl G w, hg, .refl d G⟩
   cases t
   ·exact hr b (by simp [Op.operands])
   ·exact hr a (by simp [Op.operands])
  ·exact h.elim
 case h_4 T' a =>
  obtain ⟨r, hK, hr⟩ := evLoad_sound h
  exact ⟨r, hK, fun o gh G w ρ' ho hg hf hb hv => by have := (hr d gh G w (ρ' a) hg hb (hv a (by simp [Op.operands]))).yields; simpa [execOp, ho] using this⟩
 case h_5 x =>
  obtain ⟨hp, hK⟩ := h
  refine ⟨_, hK, fun o gh G w ρ' ho hg hf hb hr => ?_⟩
  have h1 := hr x (by simp [Op.operands])
  rcases hp with hp | hp
  ·obtain ⟨b, o', e, _⟩ := h1.ptr_inv hp
   exact ⟨ρ' x, w, G, by simp [execOp, ho, e], h1, .refl G w, hg, .refl d G⟩
  ·cases hx : ρ x <;> simp only [hx, isFn, Bool.false_eq_true] at hp
   rw [hx] at h1
   obtain ⟨vs, e, _⟩ := h1.fn_inv
   exact ⟨ρ' x, w, G, by simp [execOp, ho, e], h1, .refl G w, hg, .refl d G⟩
 case h_6 op T' x y _ =>
  obtain ⟨r, hK, hr⟩ := evBinOp_sound x y h
  exact ⟨r, hK, fun o gh G w ρ' ho hg hf hb hv => by have := (hr d G w (ρ' x) (ρ' y) hg (hv x (by simp [Op.operands])) (hv y (by simp [Op.operands]))).yields; simpa [execOp, ho] using this⟩
 case h_7 op _ x =>
  obtain ⟨r, hK, hr⟩ := evUn_sound (P := P) h
  exact ⟨r, hK, fun o gh G w ρ' ho hg hf hb hv => by have := (hr d G w (ρ' x) hg (hv x (by simp [Op.operands]))).yields; simpa [execOp, ho] using this⟩
 case h_8 s t x =>
  obtain ⟨r, hK, hr⟩ := evConv_sound h
  exact ⟨r, hK, fun o gh G w ρ' ho hg hf hb hv => by have := (hr d G w (ρ' x) hg (hv x (by simp [Op.operands]))).yields; simpa [execOp, ho] using this⟩
 case h_9 T' x lo hi mx =>
  obtain ⟨r, hK, hr⟩ := evSlice_sound h
  refine ⟨r, hK, fun o gh G w ρ' ho hg hf hb hv => ?_⟩
  have := (hr d G w (ρ' x) (lo.map ρ') (hi.map ρ') (mx.map ρ') hg (hv x (by simp [Op.operands])) (.map lo fun y hy => hv y (by simp [Op.operands, hy])) (.map hi fun y hy => hv y (by simp [Op.operands, hy])) (.map mx fun y hy => hv y (by simp [Op.operands, hy]))).yields
  simpa [execOp, ho] using this
 case h_10 T' x f =>
  obtain ⟨r, hK, hr⟩ := evFieldAddr_sound h
  exact ⟨r, hK, fun o gh G w ρ' ho hg hf hb hv => by have := (hr d G w (ρ' x) hg (hv x (by simp [Op.operands]))).yields; simpa [execOp, ho] using this⟩
 case h_11 T' x f =>
  obtain ⟨r, hK, hr⟩ := evField_sound h
  exact ⟨r, hK, fun o gh G w ρ' ho hg hf hb hv => by have := (hr d G w (ρ' x) hg (hv x (by simp [Op.operands]))).yields; simpa [execOp, ho] using this⟩
 case h_12 T' x i =>
  obtain ⟨r, hK, hr⟩ := evIndexAddr_sound h
  exact ⟨r, hK, fun o gh G w ρ' ho hg hf hb hv => by have := (hr d G w (ρ' x) (ρ' i) hg (hv x (by simp [Op.operands])) (hv i (by simp [Op.operands]))).yields; simpa [execOp, ho] using this⟩
 case h_13 T' x i =>
  obtain ⟨r, hK, hr⟩ := evIndex_sound h
  exact ⟨r, hK, fun o gh G w ρ' ho hg hf hb hv => by have := (hr d G w (ρ' x) (ρ' i) hg (hv x (by simp [Op.operands])) (hv i (by simp [Op.operands]))).yields; simpa [execOp, ho] using this⟩
 case h_14 x i =>
  obtain ⟨r, hK, hr⟩ := evExtract_sound (P := P) h
  exact ⟨r, hK, fun o gh G w ρ' ho hg hf hb hv => by have := (hr d G w (ρ' x) hg (hv x (by simp [Op.operands]))).yields; simpa [execOp, ho] using this⟩
 case h_15 T' ps =>
  obtain ⟨r, hK, hr⟩ := evBuild_sound h
  exact ⟨r, hK, fun o gh G w ρ' ho hg hf hb hv => by have := (hr d G w _ hg (PW.parts (ρ' := ρ') ps fun p hp => hv p.2 (by simp only [Op.operands]; exact Array.mem_toList_iff.1 (by simpa using ⟨p.1, by simpa using hp⟩)))).yields; simpa [execOp, ho] using this⟩
 case h_16 T' n ps =>
  obtain ⟨r, hK, hr⟩ := evBuildSlice_sound h
  exact ⟨r, hK, fun o gh G w ρ' ho hg hf hb hv => by have := (hr G w _ hg (hf rfl) (PW.parts (ρ' := ρ') ps fun p hp => hv p.2 (by simp only [Op.operands]; exact Array.mem_toList_iff.1 (by simpa using ⟨p.1, by simpa using hp⟩)))).yields; simpa [execOp, ho] using this⟩
 case h_17 T' l c =>
  obtain ⟨r, hK, hr⟩ := evMake_sound h
  exact ⟨r, hK, fun o gh G w ρ' ho hg hf hb hv => by have := (hr G w (ρ' l) (ρ' c) hg (hf rfl) (hv l (by simp [Op.operands])) (hv c (by simp [Op.operands]))).yields; simpa [execOp, ho] using this⟩
 case h_18 f first caps =>
  obtain ⟨h1, h⟩ := h
  split at h
  case isFalse =>
   obtain ⟨h2, hK⟩ := h
   refine ⟨_, hK, fun o gh G w ρ' ho hg hf hb hv => ?_⟩
   have h1 := arr_eq h1
   subst h1
   refine ⟨.func (.func f) #[] (caps.map ρ'), w, G, ?_, .cl f _ _ ⟨by simp, fun j x u hx hu => ?_⟩, .refl G w, hg, .refl d G⟩
   ·simp [execOp, ho, Instr.makeFunc]
   ·rw [Array.toList_map] at hu
    simp only [List.getElem?_map] at hx hu
    cases hj : caps.toList[j]? with
    | none => simp [hj] at hx
    | some c =>
     simp [hj] at hx hu; subst hx; subst hu
     have hc : c ∈ caps.toList := List.mem_of_getElem? hj
     exact (hv c (by simp [Op.operands]; simpa using hc)).cap (List.all_eq_true.1 h2 c hc)
  rename_i h2
  have hK := h
  refine ⟨_, hK, fun o gh G w ρ' ho hg hf hb hv => ?_⟩
  have h1 := arr_eq h1
  subst h1
  refine ⟨.func (.func f) #[] (caps.map ρ'), w, G, ?_, .froz (.fn f _ _ (by simp) fun j x u hx hu => ?_), .refl G w, hg, .refl d G⟩
  ·simp [execOp, ho, Instr.makeFunc]
  ·rw [Array.toList_map] at hu
   simp only [List.getElem?_map] at hx hu
   cases hj : caps.toList[j]? with
   | none => simp [hj] at hx
   | some c =>
    simp [hj] at hx hu; subst hx; subst hu
    have hc : c ∈ caps.toList := List.mem_of_getElem? hj
    exact (hv c (by simp [Op.operands]; simpa using hc)).fzLeaf (List.all_eq_true.1 h2 c hc)
 case h_19 args As =>
  split at h
  ·rename_i x T' h1 h2
   have h1 := arr_eq h1; have h2 := arr_eq h2; subst h1; subst h2
   obtain ⟨r, hK, hr⟩ := evLenM_sound h
   exact ⟨r, hK, fun o gh G w ρ' ho hg hf hb hv => by have := (hr o.type d G w (ρ' x) hg (hv x (by simp [Op.operands, Call.operands]))).yields; simpa [execOp, ho, resolve, invoke, builtin] using this⟩
  ·exact h.elim
 case h_20 args As =>
  split at h
  ·rename_i x T' h1 h2
   have h1 := arr_eq h1; have h2 := arr_eq h2; subst h1; subst h2
   obtain ⟨r, hK, hr⟩ := evCap_sound h
   exact ⟨r, hK, fun o gh G w ρ' ho hg hf hb hv => by have := (hr o.type d G w (ρ' x) hg (hv x (by simp [Op.operands, Call.operands]))).yields; simpa [execOp, ho, resolve, invoke, builtin] using this⟩
  ·exact h.elim
 case h_21 args As =>
  split at h
  ·rename_i x y h1
   have h1 := arr_eq h1; subst h1
   obtain ⟨r, hK, hr⟩ := evMax_sound (P := P) h
   exact ⟨r, hK, fun o gh G w ρ' ho hg hf hb hv => by have := (hr As o.type d G w (ρ' x) (ρ' y) hg (hv x (by simp [Op.operands, Call.operands])) (hv y (by simp [Op.operands, Call.operands]))).yields; simpa [execOp, ho, resolve, invoke, builtin] using this⟩
  ·exact h.elim
 case h_22 args As =>
  split at h
  ·rename_i x y h1
   have h1 := arr_eq h1; subst h1
   obtain ⟨r, hK, hr⟩ := evMin_sound (P := P) h
   exact ⟨r, hK, fun o gh G w ρ' ho hg hf hb hv => by have := (hr As o.type d G w (ρ' x) (ρ' y) hg (hv x (by simp [Op.operands, Call.operands])) (hv y (by simp [Op.operands, Call.operands]))).yields; simpa [execOp, ho, resolve, invoke, builtin] using this⟩
  ·exact h.elim
 case h_23 args As =>
  split at h
  ·rename_i x y T' T'' h1 h2
   have h1 := arr_eq h1; have h2 := arr_eq h2; subst h1; subst h2
   obtain ⟨r, hK, hr⟩ := evAppendX_sound h
   exact ⟨r, hK, fun o gh G w ρ' ho hg hf hb hv => by have := (hr o.type G w (ρ' x) (ρ' y) hg (hf rfl) (hv x (by simp [Op.operands, Call.operands])) (hv y (by simp [Op.operands, Call.operands]))).yields; simpa [execOp, ho, resolve, invoke, builtin] using this⟩
  ·exact h.elim
 case h_24 T' =>
  obtain ⟨r, hK, hr⟩ := evMakeMap_sound h
  exact ⟨r, hK, fun o gh G w ρ' ho hg hf hb hv => by have := (hr G w hg (hf rfl)).yields; simpa [execOp, ho] using this⟩
 case h_25 T' =>
  obtain ⟨r, h1, h2⟩ := evAllocE_sound h
  exact ⟨r, h1, fun o gh G w ρ' ho hg hf hb hr => by simp only [execOp, ho]; exact (h2 G w hg (hf rfl)).yields⟩
 case h_26 T' x ix =>
  obtain ⟨r, hK, hr⟩ := evLookup_sound h
  exact ⟨r, hK, fun o gh G w ρ' ho hg hf hb hv => by have := (hr d G w (ρ' x) (ρ' ix) hg (hv x (by simp [Op.operands])) (hv ix (by simp [Op.operands]))).yields; simpa [execOp, ho] using this⟩
 case h_27 => exact h.elim
end
mutual
def AV.allLeaf (q : AV -> Bool) : AV -> Bool
 | .ag cs => allLeafs q cs
 | .tup cs => allLeafs q cs
 | .any => q .any
 | .nil => q .nil
 | .ub => q .ub
 | .sc v => q (.sc v)
 | .sl t es xs => q (.sl t es xs)
 | .pb i o => q (.pb i o)
 | .pe t es xs i o => q (.pe t es xs i o)
 | .fn g caps => q (.fn g caps)
 | .fp cs o => q (.fp cs o)
 | .so t xs => q (.so t xs)
 | .po t xs i => q (.po t xs i)
 | .mp t P k e D => q (.mp t P k e D)
 | .cl g caps => q (.cl g caps)
 | .tl t es xs i => q (.tl t es xs i)
def allLeafs (q : AV -> Bool) : List AV -> Bool
 | [] => true
 | x :: r => AV.allLeaf q x && allLeafs q r
end
theorem allLeafs_mem {q : AV -> Bool} : ∀ {cs : List AV}, allLeafs q cs = true -> ∀ x ∈ cs, x.allLeaf q = true
 | [], _, x, h => by simp at h
 | y :: r, h, x, hx => by
  simp only [allLeafs, Bool.and_eq_true] at h
  rcases List.mem_cons.1 hx with rfl | hx
  ·exact h.1
  ·exact allLeafs_mem h.2 x hx
theorem FRel.mapTopQ {f : AV -> AV} {q : AV -> Bool} {S : Nat -> Prop} {w w' : World} {G' : Nat -> Status} (hleaf : ∀ x v, x.leafy = true -> q x = true -> FRel S w x v -> VRel G' w' (f x) v)
  {x : AV} {v : Value} (h : FRel S w x v) : x.allLeaf q = true -> VRel G' w' (x.mapTop f) v := by
 induction h with
 | ag cs vs h1 h0 _ ih =>
  intro hq
  simp only [AV.allLeaf] at hq
  simp only [AV.mapTop, mapTops_eq]
  refine .ag _ _ (by simpa using h1) h0 fun j x u hx hu => ?_
  simp only [List.getElem?_map] at hx
  cases hc : cs[j]? with
  | none => simp [hc] at hx
  | some c => simp [hc] at hx; subst hx; exact ih j c u hc hu (allLeafs_mem hq c (List.mem_of_getElem? hc))
 | tup cs vs h1 _ ih =>
  intro hq
  simp only [AV.allLeaf] at hq
  simp only [AV.mapTop, mapTops_eq]
  refine .tup _ _ (by simpa using h1) fun j x u hx hu => ?_
  simp only [List.getElem?_map] at hx
  cases hc : cs[j]? with
  | none => simp [hc] at hx
  | some c => simp [hc] at hx; subst hx; exact ih j c u hc hu (allLeafs_mem hq c (List.mem_of_getElem? hc))
 | any v => exact fun hq => hleaf _ _ rfl hq (.any v)
 | nil => exact fun hq => hleaf _ _ rfl hq .nil
 | ub b => exact fun hq => hleaf _ _ rfl hq (.ub b)
 | sc v => exact fun hq => hleaf _ _ rfl hq (.sc v)
 | slNil t es a c h1 h2 h3 => exact fun hq => hleaf _ _ rfl hq (.slNil t es a c h1 h2 h3)
 | sl t es xs b off c vals h1 h2 h3 hc h4 h5 h0 h6 h7 => exact fun hq => hleaf _ _ rfl hq (.sl t es xs b off c vals h1 h2 h3 hc h4 h5 h0 h6 h7)
 | pe t es xs i o b off c h1 h2 => exact fun hq => hleaf _ _ rfl hq (.pe t es xs i o b off c h1 h2)
 | fn g caps vs h1 h2 => exact fun hq => hleaf _ _ rfl hq (.fn g caps vs h1 h2)
 | fp cs o b vals h1 h2 h0 h3 h4 => exact fun hq => hleaf _ _ rfl hq (.fp cs o b vals h1 h2 h0 h3 h4)
theorem VRel.mapTopQ {f : AV -> AV} {q : AV -> Bool} {w w' : World} {G G' : Nat -> Status} (hleaf : ∀ x v, x.leafy = true -> q x = true -> VRel G w x v -> VRel G' w' (f x) v)
  {x : AV} {v : Value} (h : VRel G w x v) : x.allLeaf q = true -> VRel G' w' (x.mapTop f) v := by
 induction h with
 | froz h => exact h.mapTopQ fun x v hx hq h => hleaf x v hx hq (.froz h)
 | own t es xs v e vals h1 h2 h3 h4 h0 h5 => exact fun hq => hleaf _ _ rfl hq (.own t es xs v e vals h1 h2 h3 h4 h0 h5)
 | ag cs vs h1 h0 _ ih =>
  intro hq
  simp only [AV.allLeaf] at hq
  simp only [AV.mapTop, mapTops_eq]
  refine .ag _ _ (by simpa using h1) h0 fun j x u hx hu => ?_
  simp only [List.getElem?_map] at hx
  cases hc : cs[j]? with
  | none => simp [hc] at hx
  | some c => simp [hc] at hx; subst hx; exact ih j c u hc hu (allLeafs_mem hq c (List.mem_of_getElem? hc))
 | tup cs vs h1 _ ih =>
  intro hq
  simp only [AV.allLeaf] at hq
  simp only [AV.mapTop, mapTops_eq]
  refine .tup _ _ (by simpa using h1) fun j x u hx hu => ?_
  simp only [List.getElem?_map] at hx
  cases hc : cs[j]? with
  | none => simp [hc] at hx
  | some c => simp [hc] at hx; subst hx; exact ih j c u hc hu (allLeafs_mem hq c (List.mem_of_getElem? hc))
 | pb i o b h => exact fun hq => hleaf _ _ rfl hq (.pb i o b h)
 | pe t es xs i o b off c h1 h2 => exact fun hq => hleaf _ _ rfl hq (.pe t es xs i o b off c h1 h2)
 | so t xs v e vals h1 h2 h3 h4 h0 h5 => exact fun hq => hleaf _ _ rfl hq (.so t xs v e vals h1 h2 h3 h4 h0 h5)
 | po t xs i b off c h1 h2 => exact fun hq => hleaf _ _ rfl hq (.po t xs i b off c h1 h2)
 | mp t P k e D b n h1 h2 h3 => exact fun hq => hleaf _ _ rfl hq (.mp t P k e D b n h1 h2 h3)
 | cl f caps vs h => exact fun hq => hleaf _ _ rfl hq (.cl f caps vs h)
 | tl t es xs i b off off' c h1 h2 h3 => exact fun hq => hleaf _ _ rfl hq (.tl t es xs i b off off' c h1 h2 h3)
theorem VRel.keepQ {q : AV -> Bool} {w w' : World} {G G' : Nat -> Status} (hleaf : ∀ x v, x.leafy = true -> q x = true -> VRel G w x v -> VRel G' w' x v)
  {x : AV} {v : Value} (h : VRel G w x v) (hq : x.allLeaf q = true) : VRel G' w' x v := by
 have hid : ∀ v, VRel G' w' (x.mapTop id) v -> VRel G' w' x v := by
  suffices x.mapTop id = x by rw [this]; exact fun _ h => h
  have key : ∀ x : AV, x.mapTop id = x := by
   intro x
   induction x using AV.rec (motive_2 := fun cs => mapTops id cs = cs) with
   | nil => rfl
   | cons x r h1 h2 => simp only [mapTops, h1, h2]
   | ag cs ih => simp only [AV.mapTop, ih]
   | tup cs ih => simp only [AV.mapTop, ih]
   | _ => rfl
  exact key x
 exact hid v (h.mapTopQ (f := id) hleaf hq)
structure St where
 n : Nat
 tmps : List (Nat × AV)
 boxes : List (List AV)
def lookT : List (Nat × AV) -> Nat -> AV
 | [], _ => .any
 | (k, v) :: r, s => if k = s then v else lookT r s
def putT : List (Nat × AV) -> Nat -> AV -> List (Nat × AV)
 | [], s, x => [(s, x)]
 | (k, v) :: r, s, x => if k = s then (s, x) :: r else (k, v) :: putT r s x
theorem lookT_put : ∀ (l : List (Nat × AV)) (d : Nat) (x : AV) (s : Nat), lookT (putT l d x) s = if d = s then x else lookT l s
 | [], d, x, s => by simp [putT, lookT]
 | (k, v) :: r, d, x, s => by
  simp only [putT]
  by_cases hk : k = d
  ·subst hk; simp only [if_true, lookT]; by_cases hs : k = s <;> simp [hs]
  ·rw [if_neg hk]
   simp only [lookT, lookT_put r d x s]
   by_cases hs : k = s
   ·subst hs; simp [Ne.symm hk]
   ·simp [hs]
def mapT (f : AV -> AV) : List (Nat × AV) -> List (Nat × AV)
 | [] => []
 | (k, v) :: r => (k, v.mapTop f) :: mapT f r
theorem lookT_map {f : AV -> AV} (hf : f .any = .any) : ∀ (l : List (Nat × AV)) (s : Nat), lookT (mapT f l) s = (lookT l s).mapTop f
 | [], s => by simp [mapT, lookT, AV.mapTop, hf]
 | (k, v) :: r, s => by
  simp only [mapT, lookT]
  by_cases hk : k = s
  ·simp [hk]
  ·simp [hk, lookT_map hf r s]
def St.get (σ : St) (s : Nat) : AV := lookT σ.tmps s
def St.put (σ : St) (d : Option Nat) (x : AV) : St :=
 match d with
 | none => σ
 | some d => { σ with tmps := putT σ.tmps d x }
def mapB (f : AV -> AV) : List (List AV) -> List (List AV)
 | [] => []
 | cs :: r => mapTops f cs :: mapB f r
def St.map (σ : St) (f : AV -> AV) : St := { σ with tmps := mapT f σ.tmps, boxes := mapB f σ.boxes }
theorem mapB_eq (f : AV -> AV) : ∀ l : List (List AV), mapB f l = l.map (mapTops f)
 | [] => rfl
 | cs :: r => by simp [mapB, mapB_eq f r]
def St.ev (σ : St) : Operand -> AV
 | .tmp t => σ.get t
 | .const v => ofLit v
 | .global _ => .any
 | .func f => .fn f []
structure Orig where
 st : Nat -> Status
 gh : Gh
instance : CoeFun Orig fun _ => Nat -> Status := ⟨Orig.st⟩
structure SRel (G0 : Orig) (w0 : World) (σ : St) (G : Nat -> Status) (a : Act) (w : World) : Prop where
 good : Good G w
 slots : ∀ s, VRel G w (σ.get s) (a.tmps.getD s undef)
 boxes : BRel G0.gh G w σ.boxes
 blt : ∀ b i, G b = .box i -> i < σ.boxes.length
 size : a.tmps.size = σ.n
 defs : a.defers = []
 os : w.os = w0.os
 tape : w.tape = w0.tape
 output : w.output = w0.output
 hsize : w0.heap.size <= w.heap.size
 stat : ∀ b, b < w0.heap.size -> (∀ t, G0 b ≠ .tag t) -> G b = G0 b
 keep : ∀ b, b < w0.heap.size -> (∀ i, G0 b ≠ .box i) -> (∀ t, G0 b ≠ .tag t) -> w.heap[b]? = w0.heap[b]?
theorem SRel.ev {G0 w0 σ G a w} (h : SRel G0 w0 σ G a w) (x : Operand) : VRel G w (σ.ev x) (a.eval x) := by
 cases x with
 | tmp t => exact h.slots t
 | const v => exact ofLit_rel v
 | global g => exact .froz (.any _)
 | func f => exact .froz (.fn f [] #[] rfl (by simp))
theorem put_getD {a : Act} {d : Option Nat} {v : Value} {s : Nat} : (a.put d v).tmps.getD s undef = if d = some s /\ s < a.tmps.size then v else a.tmps.getD s undef := by
 cases d with
 | none => simp [Act.put]
 | some d =>
  simp only [Act.put, Option.some.injEq]
  by_cases hds : d = s
  ·subst hds
   by_cases hlt : d < a.tmps.size
   ·simp [Array.getD_eq_getD_getElem?, hlt]
   ·simp [Array.getD_eq_getD_getElem?, hlt]
  ·simp [Array.getD_eq_getD_getElem?, hds]
theorem put_size {a : Act} {d : Option Nat} {v : Value} : (a.put d v).tmps.size = a.tmps.size := by cases d <;> simp [Act.put]
theorem put_defers {a : Act} {d : Option Nat} {v : Value} : (a.put d v).defers = a.defers := by cases d <;> simp [Act.put]
def dstOk (n : Nat) (d : Option Nat) : Bool :=
 match d with
 | none => true
 | some d => decide (d < n)
theorem slots_put {G : Nat -> Status} {w : World} {σ : St} {a : Act} {d : Option Nat} {x : AV} {v : Value} (h : ∀ s, VRel G w (σ.get s) (a.tmps.getD s undef)) (hs : a.tmps.size = σ.n) (hd : dstOk σ.n d = true) (hx : VRel G w x v) :
  ∀ s, VRel G w ((σ.put d x).get s) ((a.put d v).tmps.getD s undef) := by
 intro s
 rw [put_getD]
 cases d with
 | none => simpa [St.put] using h s
 | some d =>
  simp only [St.put, St.get, lookT_put, Option.some.injEq]
  simp only [dstOk, decide_eq_true_eq] at hd
  by_cases hds : d = s
  ·subst hds; rw [if_pos rfl, if_pos ⟨rfl, by omega⟩]; exact hx
  ·rw [if_neg hds, if_neg (fun h => hds h.1)]; exact h s
theorem put_boxes {σ : St} {d : Option Nat} {x : AV} : (σ.put d x).boxes = σ.boxes := by cases d <;> rfl
theorem put_n {σ : St} {d : Option Nat} {x : AV} : (σ.put d x).n = σ.n := by cases d <;> rfl
theorem SRel.add {G0 w0 σ G a w G' w'} (h : SRel G0 w0 σ G a w) (hE : Ext G w G' w') (hG : Good G' w') (hb : ∀ b i, G' b = .box i -> G b = .box i) {d : Option Nat} {x : AV} {v : Value} (hd : dstOk σ.n d = true) (hx : VRel G' w' x v) :
  SRel G0 w0 (σ.put d x) G' (a.put d v) w' where
 good := hG
 slots := slots_put (fun s => (h.slots s).ext h.good hE) h.size hd hx
 boxes := by rw [put_boxes]; exact h.boxes.ext h.good hE fun b i hb' _ => hb b i hb'
 blt := fun b i hb' => by rw [put_boxes]; exact h.blt b i (hb b i hb')
 size := by rw [put_size, put_n]; exact h.size
 defs := by rw [put_defers]; exact h.defs
 os := hE.os.trans h.os
 tape := hE.tape.trans h.tape
 output := hE.output.trans h.output
 hsize := Nat.le_trans h.hsize hE.size
 stat := fun b hb ht => (hE.stat b (Nat.lt_of_lt_of_le hb h.hsize)).trans (h.stat b hb ht)
 keep := fun b hb hn ht => (hE.keep b (Nat.lt_of_lt_of_le hb h.hsize)).trans (h.keep b hb hn ht)
def freeLeaf (d : Nat) : AV -> Bool
 | .sl t _ _ => decide (root t / 64 ≠ d + 1)
 | .pe t _ _ _ _ => decide (root t / 64 ≠ d + 1)
 | .so t _ => decide (root t / 64 ≠ d + 1)
 | .po t _ _ => decide (root t / 64 ≠ d + 1)
 | .mp t _ _ _ _ => decide (root t / 64 ≠ d + 1)
 | .tl t _ _ _ => decide (root t / 64 ≠ d + 1)
 | _ => true
def freeT (d : Nat) : List (Nat × AV) -> Bool
 | [] => true
 | (_, v) :: r => v.allLeaf (freeLeaf d) && freeT d r
def freeB (d : Nat) : List (List AV) -> Bool
 | [] => true
 | cs :: r => allLeafs (freeLeaf d) cs && freeB d r
def St.free (σ : St) (d : Nat) : Bool := decide (d < 16383) && (freeT d σ.tmps && freeB d σ.boxes)
def killR (d : Nat) (G : Nat -> Status) (b : Nat) : Status :=
 match G b with
 | .tag t => if root t / 64 = d + 1 then .junk else .tag t
 | s => s
theorem killR_stable {d : Nat} {G : Nat -> Status} {b : Nat} : Stable (killR d G) b ↔ Stable G b := by
 unfold Stable killR
 cases h : G b <;> simp
 split <;> simp
theorem VRel.killR {d : Nat} {G : Nat -> Status} {w : World} {x : AV} {v : Value} (h : VRel G w x v) (hq : x.allLeaf (freeLeaf d) = true) : VRel (AM.killR d G) w x v := by
 have hsl : ∀ {t es xs v}, root t / 64 ≠ d + 1 -> VRel G w (.sl t es xs) v -> VRel (AM.killR d G) w (.sl t es xs) v := by
  intro t es xs v ht h
  cases h with
  | froz h => exact .froz (h.mono (fun b => killR_stable.2) (fun _ _ => rfl))
  | own _ _ _ _ e vals h1 h2 h3 h4 h0 h5 =>
   exact .own t es xs v e vals h1 h2 (fun b hb => by unfold AM.killR; rw [h3 b hb]; simp [ht]) h4 h0 (h5.mono fun x y _ hr => hr.mono (fun b => killR_stable.2) (fun _ _ => rfl))
 have hso : ∀ {t xs v}, root t / 64 ≠ d + 1 -> VRel G w (.so t xs) v -> VRel (AM.killR d G) w (.so t xs) v := by
  intro t xs v ht h
  have := h.so_map (f := id) (G' := AM.killR d G) (w' := w) h.so_two (fun x u hx hr => ⟨hx, by
   cases hr with
   | froz hr => exact .froz (hr.mono (fun b => killR_stable.2) (fun _ _ => rfl))
   | own t' es ys _ e vals h1 hrt h2 h3 h4 h0 h5 =>
    exact .own t' es ys _ e vals h1 hrt h2 (fun b hb => by unfold AM.killR; rw [h3 b hb]; simp [hrt, ht]) h4 h0 (h5.mono fun x y _ hr => hr.mono (fun b => killR_stable.2) (fun _ _ => rfl))⟩)
   (fun b hb => ⟨by unfold AM.killR; rw [hb]; simp [ht], rfl⟩)
  simpa using this
 refine h.keepQ (fun x v hx hq h => ?_) hq
 cases x with
 | so t xs => simp only [freeLeaf, decide_eq_true_eq] at hq; exact hso hq h
 | po t xs i =>
  simp only [freeLeaf, decide_eq_true_eq] at hq
  obtain ⟨b, off, c, h1, h2, rfl⟩ := h.po_inv
  exact (hso hq h1).po_of rfl h2
 | sl t es xs => simp only [freeLeaf, decide_eq_true_eq] at hq; exact hsl hq h
 | pe t es xs i o =>
  simp only [freeLeaf, decide_eq_true_eq] at hq
  obtain ⟨b, off, c, h1, h2, rfl⟩ := h.pe_inv
  exact .pe _ _ _ _ _ _ _ _ (hsl hq h1) h2
 | pb i o => obtain ⟨b, hb, rfl⟩ := h.pb_inv; exact .pb _ _ _ (by simp [AM.killR, hb])
 | ag cs => simp [AV.leafy] at hx
 | tup cs => simp [AV.leafy] at hx
 | any => exact .froz (.any _)
 | nil => rw [h.nil_inv]; exact .froz .nil
 | ub => obtain ⟨b, rfl⟩ := h.ub_inv; exact .froz (.ub b)
 | sc u => rw [h.sc_inv]; exact .froz (.sc _)
 | fn g caps => cases h with | froz h => exact .froz (h.mono (fun b => killR_stable.2) (fun _ _ => rfl))
 | mp t P k e D =>
  simp only [freeLeaf, decide_eq_true_eq] at hq
  exact h.mpMono (fun b hb => by simp [AM.killR, hb, hq]) (fun _ _ _ _ _ => rfl)
 | cl g caps => exact h.clMono (fun b => killR_stable.2) (fun _ _ => rfl) (fun b i hb => by simp [AM.killR, hb])
 | tl t es xs i =>
  simp only [freeLeaf, decide_eq_true_eq] at hq
  obtain ⟨b, off, off', c, h1, h2, h3, _, rfl⟩ := h.tl_inv
  exact .tl _ _ _ _ _ _ _ _ (hsl hq h1) h2 h3
 | fp cs o => cases h with | froz h => exact .froz (h.mono (fun b => killR_stable.2) (fun _ _ => rfl))
theorem killR_tag {d : Nat} {G : Nat -> Status} {b t : Nat} (h : killR d G b = .tag t) : G b = .tag t /\ root t / 64 ≠ d + 1 := by
 unfold killR at h
 split at h
 ·rename_i t' ht
  split at h
  ·cases h
  ·rename_i hn; cases h; exact ⟨ht, hn⟩
 ·rename_i hn; exact absurd h (hn t)
theorem killR_box {d : Nat} {G : Nat -> Status} {b i : Nat} : killR d G b = .box i ↔ G b = .box i := by
 unfold killR
 cases h : G b <;> simp
 split <;> simp
theorem freeT_look {d : Nat} : ∀ {l : List (Nat × AV)}, freeT d l = true -> ∀ s, (lookT l s).allLeaf (freeLeaf d) = true
 | [], _, s => by simp [lookT, AV.allLeaf, freeLeaf]
 | (k, v) :: r, h, s => by
  simp only [freeT, Bool.and_eq_true] at h
  simp only [lookT]
  split
  ·exact h.1
  ·exact freeT_look h.2 s
theorem freeB_mem {d : Nat} : ∀ {l : List (List AV)}, freeB d l = true -> ∀ (i : Nat) cs, l[i]? = some cs -> ∀ x ∈ cs, x.allLeaf (freeLeaf d) = true
 | [], _, i, cs, h, _, _ => by simp at h
 | y :: r, h, i, cs, hi, x, hx => by
  simp only [freeB, Bool.and_eq_true] at h
  cases i with
  | zero => simp at hi; subst hi; exact allLeafs_mem h.1 x hx
  | succ i => exact freeB_mem h.2 i cs (by simpa using hi) x hx
theorem Good.killR {d : Nat} {G : Nat -> Status} {w : World} (h : Good G w) : Good (AM.killR d G) w :=
 ⟨fun b hb => h.lt b fun h' => hb (by simp [AM.killR, h']), fun b b' t h1 h2 => h.tags b b' t (killR_tag h1).1 (killR_tag h2).1, fun b b' i h1 h2 => h.boxes b b' i (killR_box.1 h1) (killR_box.1 h2)⟩
theorem SRel.fresh {G0 w0 σ G a w} (h : SRel G0 w0 σ G a w) {d : Nat} (hf : σ.free d = true) (_h0 : True) : SRel G0 w0 σ (killR d G) a w /\ Fresh d (killR d G) := by
 simp only [St.free, Bool.and_eq_true, decide_eq_true_eq] at hf
 obtain ⟨hdl, hf⟩ := hf
 refine ⟨{ h with good := h.good.killR, slots := fun s => (h.slots s).killR (freeT_look hf.1 s), boxes := ⟨h.boxes.low, fun i cs hi => ?_⟩, blt := fun b i hb => h.blt b i (killR_box.1 hb), stat := fun b hb hnt => ?_ }, hdl, fun b t hb => (killR_tag hb).2⟩
 ·refine (h.boxes.cell i cs hi).turn rfl (fun j x y v h1 h2 hr => ?_) (fun b hb => ⟨killR_box.2 hb, rfl⟩) fun h0 b hb => h0 b (killR_box.1 hb)
  rw [h1] at h2; cases h2
  exact hr.killR (freeB_mem hf.2 i cs hi x (List.mem_of_getElem? h1))
 ·have := h.stat b hb hnt
  unfold AM.killR
  split
  ·rename_i t ht; rw [this] at ht; exact absurd ht (hnt t)
  ·exact this
section
variable {P : Program}
def Callable (P : Program) (f : FuncId) : Prop := ∃ fn, P.funcs[f]? = some fn /\ (fn.name == "runtime.NumGoroutine") = false /\ fn.body.isNone = false
def Con (P : Program) (f : FuncId) (args : List AV) (bx : List (List AV)) (post : AV -> List (List AV) -> Prop) : Prop :=
 Callable P f /\ ∀ (G : Nat -> Status) (w : World) (vs : Array Value), Good G w -> (∀ b t, G b ≠ .tag t) -> (∀ b i, G b = .box i -> i < bx.length) -> BRel noGh G w bx -> PW (VRel G w) args vs.toList ->
  Calls P f vs w (fun e w' => ∃ v r bx' G', e = .returned v /\ post r bx' /\ VRel G' w' r v /\ Good G' w' /\ BRel noGh G' w' bx' /\ (∀ b i, G' b = .box i -> i < bx'.length) /\
   w'.os = w.os /\ w'.tape = w.tape /\ w'.output = w.output /\ w.heap.size <= w'.heap.size /\ (∀ b, b < w.heap.size -> G' b = G b) /\ (∀ b, b < w.heap.size -> (∀ i, G b ≠ .box i) -> w'.heap[b]? = w.heap[b]?))
theorem Con.mono {f : FuncId} {args : List AV} {bx : List (List AV)} {post post' : AV -> List (List AV) -> Prop} (h : Con P f args bx post) (hp : ∀ r bx, post r bx -> post' r bx) : Con P f args bx post' :=
 ⟨h.1, fun G w vs h1 h2 h3 h4 h5 => (h.2 G w vs h1 h2 h3 h4 h5).mono fun _ _ ⟨v, r, bx', G', he, hq, rest⟩ => ⟨v, r, bx', G', he, hp _ _ hq, rest⟩⟩
def viewRow : AV -> AV
 | .sl t es xs => if 2 <= t then .sl 0 es xs else .sl t es xs
 | x => x
def viewLeaf : AV -> AV
 | .so _ xs => .sl 0 1 (xs.map viewRow)
 | .po _ xs i => .pe 0 1 (xs.map viewRow) i 0
 | .sl t es xs => if 2 <= t then .sl 0 es xs else .sl t es xs
 | .pe t es xs i o => if 2 <= t then .pe 0 es xs i o else .pe t es xs i o
 | .pb _ _ => .any
 | .mp _ _ _ _ _ => .any
 | .cl _ _ => .any
 | .tl _ _ _ _ => .any
 | x => x
def AV.view (x : AV) : AV := x.mapTop viewLeaf
def tagsIn (ts : List Nat) : AV -> Bool
 | .sl t _ _ => decide (t < 2) || ts.contains (root t)
 | .pe t _ _ _ _ => decide (t < 2) || ts.contains (root t)
 | .so t _ => ts.contains (root t)
 | .po t _ _ => ts.contains (root t)
 | _ => true
mutual
def AV.tags : AV -> List Nat
 | .ag cs => tagss cs
 | .tup cs => tagss cs
 | .sl t _ _ => if 2 <= t then [root t] else []
 | .pe t _ _ _ _ => if 2 <= t then [root t] else []
 | .so t _ => [root t]
 | .po t _ _ => [root t]
 | _ => []
def tagss : List AV -> List Nat
 | [] => []
 | x :: r => AV.tags x ++ tagss r
end
mutual
theorem tags_in (ts : List Nat) : ∀ x : AV, (∀ t ∈ x.tags, t ∈ ts) -> x.allLeaf (tagsIn ts) = true
 | .ag cs, h => by simp only [AV.allLeaf]; exact tagss_in ts cs (by simpa [AV.tags] using h)
 | .tup cs, h => by simp only [AV.allLeaf]; exact tagss_in ts cs (by simpa [AV.tags] using h)
 | .sl t es xs, h => by
  simp only [AV.allLeaf, tagsIn, Bool.or_eq_true, decide_eq_true_eq, List.contains_iff_mem]
  by_cases ht : t < 2
  ·exact .inl ht
  ·exact .inr (h (root t) (by simp [AV.tags, show 2 <= t by omega]))
 | .pe t es xs i o, h => by
  simp only [AV.allLeaf, tagsIn, Bool.or_eq_true, decide_eq_true_eq, List.contains_iff_mem]
  by_cases ht : t < 2
  ·exact .inl ht
  ·exact .inr (h (root t) (by simp [AV.tags, show 2 <= t by omega]))
 | .any, _ => rfl
 | .nil, _ => rfl
 | .ub, _ => rfl
 | .sc _, _ => rfl
 | .pb _ _, _ => rfl
 | .fn _ _, _ => rfl
 | .fp _ _, _ => rfl
 | .mp _ _ _ _ _, _ => rfl
 | .cl _ _, _ => rfl
 | .tl _ _ _ _, _ => rfl
 | .so t xs, h => by
  simp only [AV.allLeaf, tagsIn, List.contains_iff_mem]
  exact h (root t) (by simp [AV.tags])
 | .po t xs i, h => by
  simp only [AV.allLeaf, tagsIn, List.contains_iff_mem]
  exact h (root t) (by simp [AV.tags])
theorem tagss_in (ts : List Nat) : ∀ cs : List AV, (∀ t ∈ tagss cs, t ∈ ts) -> allLeafs (tagsIn ts) cs = true
 | [], _ => rfl
 | x :: r, h => by
  simp only [tagss, List.mem_append] at h
  simp only [allLeafs, Bool.and_eq_true]
  exact ⟨tags_in ts x fun t ht => h t (.inl ht), tagss_in ts r fun t ht => h t (.inr ht)⟩
end
def viewG (ts : List Nat) (G : Nat -> Status) (b : Nat) : Status :=
 match G b with
 | .stable => .stable
 | .tag t => if ts.contains (root t) then .stable else .junk
 | _ => .junk
theorem viewG_stable {ts : List Nat} {G : Nat -> Status} {b : Nat} (h : Stable G b) : Stable (viewG ts G) b := by
 unfold Stable at *; simp [viewG, h]
theorem VRel.view {ts : List Nat} {G : Nat -> Status} {w : World} {x : AV} {v : Value} (h : VRel G w x v) (hq : x.allLeaf (tagsIn ts) = true) : VRel (viewG ts G) w x.view v := by
 have hsl : ∀ {t es xs v}, (decide (t < 2) || ts.contains (root t)) = true -> VRel G w (.sl t es xs) v -> FRel (Stable (viewG ts G)) w (if 2 <= t then .sl 0 es xs else .sl t es xs) v := by
  intro t es xs v ht h
  cases h with
  | froz h =>
   have : t < 2 := by cases h <;> assumption
   rw [if_neg (by omega)]
   exact h.mono (fun b => viewG_stable) (fun _ _ => rfl)
  | own _ _ _ _ e vals h1 h2 h3 h4 h0 h5 =>
   rw [if_pos h1]
   have ht' : ts.contains (root t) = true := by
    simp only [Bool.or_eq_true, decide_eq_true_eq] at ht
    rcases ht with ht | ht
    ·omega
    ·exact ht
   exact own_froz (_G := G) (_t := t) h2 (fun b hb => by unfold Stable viewG; rw [h3 b hb]; simp only [ht', if_true]) h4 h0 (h5.mono fun x y _ hr => hr.mono (fun b => viewG_stable) (fun _ _ => rfl))
 have hso : ∀ {t xs v}, ts.contains (root t) = true -> VRel G w (.so t xs) v -> FRel (Stable (viewG ts G)) w (.sl 0 1 (xs.map viewRow)) v := by
  intro t xs v ht h
  refine h.so_froz (fun x u hx hr => ?_) (fun b hb => by unfold Stable viewG; rw [hb]; simp only [ht, if_true])
  cases hr with
  | froz hr =>
   have hr' := hr.mono (S' := Stable (viewG ts G)) (w' := w) (fun b => viewG_stable) (fun _ _ => rfl)
   cases x <;> first | exact ⟨hx, hr'⟩ | skip
   rename_i t' es ys
   have : t' < 2 := by cases hr <;> assumption
   simp only [viewRow]; rw [if_neg (by omega)]; exact ⟨hx, hr'⟩
  | own t' es ys _ e vals h1 hrt h2 h3 h4 h0 h5 =>
   simp only [viewRow]; rw [if_pos h1]
   exact ⟨rfl, own_froz (_G := G) (_t := t') h2 (fun b hb => by unfold Stable viewG; rw [h3 b hb]; simp only [hrt, ht, if_true]) h4 h0 (h5.mono fun x y _ hr => hr.mono (fun b => viewG_stable) (fun _ _ => rfl))⟩
 refine h.mapTopQ (fun x v hx hq h => ?_) hq
 cases x with
 | so t xs => simp only [tagsIn] at hq; exact .froz (hso hq h)
 | po t xs i =>
  simp only [tagsIn] at hq
  obtain ⟨b, off, c, h1, h2, rfl⟩ := h.po_inv
  exact .froz ((hso hq h1).pe_of (by simp) h2)
 | sl t es xs => simp only [tagsIn] at hq; have := hsl hq h; simp only [viewLeaf]; exact .froz this
 | pe t es xs i o =>
  simp only [tagsIn] at hq
  obtain ⟨b, off, c, h1, h2, rfl⟩ := h.pe_inv
  have := hsl hq h1
  simp only [viewLeaf]
  split at this
  ·rename_i ht; rw [if_pos ht]; exact .froz (.pe _ _ _ _ _ _ _ _ this h2)
  ·rename_i ht; rw [if_neg ht]; exact .froz (.pe _ _ _ _ _ _ _ _ this h2)
 | pb i o => exact .froz (.any _)
 | ag cs => simp [AV.leafy] at hx
 | tup cs => simp [AV.leafy] at hx
 | any => exact .froz (.any _)
 | nil => rw [h.nil_inv]; exact .froz .nil
 | ub => obtain ⟨b, rfl⟩ := h.ub_inv; exact .froz (.ub b)
 | sc u => rw [h.sc_inv]; exact .froz (.sc _)
 | fn g caps => cases h with | froz h => exact .froz (h.mono (fun b => viewG_stable) (fun _ _ => rfl))
 | mp t P k e D => exact .froz (.any _)
 | cl g caps => exact .froz (.any _)
 | tl t es xs i => exact .froz (.any _)
 | fp cs o => cases h with | froz h => exact .froz (h.mono (fun b => viewG_stable) (fun _ _ => rfl))
theorem Good.view {ts : List Nat} {G : Nat -> Status} {w : World} (h : Good G w) : Good (viewG ts G) w /\ (∀ b t, viewG ts G b ≠ .tag t) /\ (∀ b i, viewG ts G b ≠ .box i) := by
 have h1 : ∀ b t, viewG ts G b ≠ .tag t := fun b t hb => by unfold viewG at hb; split at hb <;> first | (cases hb; done) | (split at hb <;> cases hb)
 have h2 : ∀ b t, viewG ts G b ≠ .box t := fun b t hb => by unfold viewG at hb; split at hb <;> first | (cases hb; done) | (split at hb <;> cases hb)
 exact ⟨⟨fun b hb => h.lt b fun h' => hb (by simp [viewG, h']), fun b b' t hb => absurd hb (h1 b t), fun b b' i hb => absurd hb (h2 b i)⟩, h1, h2⟩
def memless : AV -> Bool
 | .any => true
 | .nil => true
 | .ub => true
 | .sc _ => true
 | .ag cs => cs.all fun | .any => true | .nil => true | .ub => true | .sc _ => true | _ => false
 | _ => false
def flatRow : AV -> Bool
 | .sl t _ xs => decide (2 <= t) && xs.all memless
 | x => memless x
def flatLeaf : AV -> Bool
 | .so _ xs => xs.all flatRow
 | .sl t _ xs => decide (2 <= t) && xs.all memless
 | x => memless x
def lt64 : AV -> Bool
 | .sl t _ _ => decide (root t < 64)
 | .so t _ => decide (root t < 64)
 | .po _ _ _ => false
 | .pb _ _ => false
 | .pe _ _ _ _ _ => false
 | .mp _ _ _ _ _ => false
 | .cl _ _ => false
 | .tl _ _ _ _ => false
 | _ => true
def backG (d n : Nat) (G G' : Nat -> Status) (b : Nat) : Status :=
 if b < n then G b else
  match G' b with
  | .stable => .stable
  | .tag t => if root t < 64 then .tag (t + 64 * (d + 1)) else .junk
  | _ => .junk
theorem memless_cells {x : AV} (h : memless x = true) : ∀ y ∈ x.cells, memless y = true := by
 cases x <;> simp only [memless, Bool.false_eq_true] at h <;> intro y hy <;> simp only [AV.cells] at hy
 case ag cs =>
  have := List.all_eq_true.1 h y hy
  cases y <;> first | rfl | simp at this
 all_goals (simp only [List.mem_singleton] at hy; subst hy; rfl)
theorem FRel.memless {S S' : Nat -> Prop} {w w' : World} {x : AV} {v : Value} (h : FRel S w x v) (hm : AM.memless x = true) : FRel S' w' x v := by
 cases h with
 | any v => exact .any v
 | nil => exact .nil
 | ub b => exact .ub b
 | sc v => exact .sc v
 | ag cs vs h1 h0 h2 =>
  refine .ag cs vs h1 h0 fun j x u hx hu => ?_
  have := h2 j x u hx hu
  simp only [AM.memless] at hm
  have hx' := List.all_eq_true.1 hm x (List.mem_of_getElem? hx)
  cases this <;> first | exact .any _ | exact .nil | exact .ub _ | exact .sc _ | (simp at hx')
 | _ => simp [AM.memless] at hm
mutual
theorem allLeaf_and (p q : AV -> Bool) : ∀ x : AV, x.allLeaf p = true -> x.allLeaf q = true -> x.allLeaf (fun y => p y && q y) = true
 | .ag cs, ha, hb => by simp only [AV.allLeaf] at *; exact allLeafs_and p q cs ha hb
 | .tup cs, ha, hb => by simp only [AV.allLeaf] at *; exact allLeafs_and p q cs ha hb
 | .sl t es xs, ha, hb => by simp only [AV.allLeaf] at *; simp [ha, hb]
 | .pe t es xs i o, ha, hb => by simp only [AV.allLeaf] at *; simp [ha, hb]
 | .any, ha, hb => by simp only [AV.allLeaf] at *; simp [ha, hb]
 | .nil, ha, hb => by simp only [AV.allLeaf] at *; simp [ha, hb]
 | .ub, ha, hb => by simp only [AV.allLeaf] at *; simp [ha, hb]
 | .sc _, ha, hb => by simp only [AV.allLeaf] at *; simp [ha, hb]
 | .pb _ _, ha, hb => by simp only [AV.allLeaf] at *; simp [ha, hb]
 | .fn _ _, ha, hb => by simp only [AV.allLeaf] at *; simp [ha, hb]
 | .fp _ _, ha, hb => by simp only [AV.allLeaf] at *; simp [ha, hb]
 | .mp _ _ _ _ _, ha, hb => by simp only [AV.allLeaf] at *; simp [ha, hb]
 | .cl _ _, ha, hb => by simp only [AV.allLeaf] at *; simp [ha, hb]
 | .tl _ _ _ _, ha, hb => by simp only [AV.allLeaf] at *; simp [ha, hb]
 | .so _ _, ha, hb => by simp only [AV.allLeaf] at *; simp [ha, hb]
 | .po _ _ _, ha, hb => by simp only [AV.allLeaf] at *; simp [ha, hb]
theorem allLeafs_and (p q : AV -> Bool) : ∀ cs : List AV, allLeafs p cs = true -> allLeafs q cs = true -> allLeafs (fun y => p y && q y) cs = true
 | [], _, _ => rfl
 | x :: r, ha, hb => by
  simp only [allLeafs, Bool.and_eq_true] at ha hb ⊢
  exact ⟨allLeaf_and p q x ha.1 hb.1, allLeafs_and p q r ha.2 hb.2⟩
end
theorem VRel.back {d : Nat} {G Gc G' : Nat -> Status} {w w' : World} {x : AV} {v : Value} (h : VRel G' w' x v) (hlt : x.allLeaf lt64 = true)
  (hdl : d < 16383) (hGc : ∀ b, b < w.heap.size -> G' b = Gc b) (hnt : ∀ b t, Gc b ≠ .tag t)
  (hS : (∀ b, b < w.heap.size -> Stable Gc b -> Stable G b) \/ x.allLeaf flatLeaf = true) : VRel (backG d w.heap.size G G') w' (x.shift (64 * (d + 1))) v := by
 have hnew : ∀ b, ¬ b < w.heap.size -> Stable G' b -> Stable (backG d w.heap.size G G') b := fun b hb h => by unfold Stable at *; simp [backG, hb, h]
 have hstab : (∀ b, b < w.heap.size -> Stable Gc b -> Stable G b) -> ∀ b, Stable G' b -> Stable (backG d w.heap.size G G') b := by
  intro hS b hb
  by_cases hlt : b < w.heap.size
  ·have : Stable Gc b := by unfold Stable at *; rw [<- hGc b hlt]; exact hb
   have := hS b hlt this
   unfold Stable at *; simp [backG, hlt, this]
  ·exact hnew b hlt hb
 have hF : ∀ {x v}, x.leafy = true -> ((∀ b, b < w.heap.size -> Stable Gc b -> Stable G b) \/ flatLeaf x = true) -> FRel (Stable G') w' x v -> FRel (Stable (backG d w.heap.size G G')) w' x v := by
  intro x v hx hS h
  rcases hS with hS | hS
  ·exact h.mono (hstab hS) (fun _ _ => rfl)
  ·cases x with
   | sl t es xs =>
    simp only [flatLeaf, Bool.and_eq_true, decide_eq_true_eq] at hS
    have : t < 2 := by cases h <;> assumption
    omega
   | so t xs => cases h
   | _ => exact h.memless (by simpa [flatLeaf] using hS)
 have core : ∀ q : AV -> Bool, (∀ x, q x = true -> lt64 x = true /\ ((∀ b, b < w.heap.size -> Stable Gc b -> Stable G b) \/ flatLeaf x = true)) -> x.allLeaf q = true -> VRel (backG d w.heap.size G G') w' (x.shift (64 * (d + 1))) v := by
  intro q hqq hq
  refine h.mapTopQ (fun x v hx hq h => ?_) hq
  obtain ⟨h1, hS⟩ := hqq x hq
  cases x with
  | sl t es xs =>
   simp only [shiftLeaf, shiftTag]
   cases h with
   | froz h =>
    have : t < 2 := by cases h <;> assumption
    rw [if_pos this]
    exact .froz (hF hx hS h)
   | own _ _ _ _ e vals g1 g2 g3 g4 g0 g5 =>
    rw [if_neg (by omega)]
    simp only [lt64, decide_eq_true_eq] at h1
    refine .own _ es xs v e vals (by omega) g2 (fun b hb => ?_) g4 g0 (g5.mono fun x y hx hr => ?_)
    ·have hgb := g3 b hb
     have : ¬ b < w.heap.size := fun hlt => by rw [hGc b hlt] at hgb; exact hnt b t hgb
     simp [backG, this, hgb, h1]
    ·rcases hS with hS | hS
     ·exact hr.mono (hstab hS) (fun _ _ => rfl)
     ·simp only [flatLeaf, Bool.and_eq_true, decide_eq_true_eq] at hS
      obtain ⟨y, hy, hxy⟩ := List.mem_flatMap.1 hx
      exact hr.memless (memless_cells (List.all_eq_true.1 hS.2 y hy) x hxy)
  | so t xs =>
   simp only [lt64, decide_eq_true_eq] at h1
   simp only [shiftLeaf, shiftTag]
   have ht := h.so_two
   rw [if_neg (by omega)]
   have hnb : ∀ b t, G' b = .tag t -> ¬ b < w.heap.size := fun b t hgb hlt => by rw [hGc b hlt] at hgb; exact hnt b t hgb
   have hroot : root (t + 64 * (d + 1)) = root t + 64 * (d + 1) := by unfold root at *; omega
   cases h with
   | froz h => cases h
   | so _ _ _ e vals g1 g2 g3 g4 g0 g5 =>
   refine .so _ _ v e vals (by omega) (by rw [List.length_map]; exact g2) (fun b hb => ?_) (fun y hy => ?_) g0 ⟨by simpa using g5.1, fun j y u hy hu => ?_⟩
   ·have hgb := g3 b hb
    simp [backG, hnb b t hgb, hgb, h1]
   ·obtain ⟨x, hx, rfl⟩ := List.mem_map.1 hy
    have := g4 x hx
    cases x <;> first | rfl | (simp [AV.rowLike] at this)
   ·rw [List.getElem?_map] at hy
    cases hx : xs[j]? with
    | none => simp [hx] at hy
    | some x =>
     simp [hx] at hy; subst hy
     have hxm := List.mem_of_getElem? hx
     have hr := g5.2 j x u hx hu
     have hS' : (∀ b, b < w.heap.size -> Stable Gc b -> Stable G b) \/ flatRow x = true := by
      rcases hS with hS | hS
      ·exact .inl hS
      ·simp only [flatLeaf] at hS; exact .inr (List.all_eq_true.1 hS x hxm)
     cases hr with
     | froz hr =>
      have hx2 : flatRow x = true -> flatLeaf x = true := fun hf => by
       have := g4 x hxm
       cases x <;> first | exact hf | (simp [AV.rowLike] at this)
      have hl : x.leafy = true := by
       have := g4 x hxm
       cases x <;> first | rfl | (simp [AV.rowLike] at this)
      have hr' := hF hl (hS'.imp id hx2) hr
      cases x <;> first | exact .froz hr' | skip
      rename_i t' es ys
      have : t' < 2 := by cases hr <;> assumption
      simp only [shiftRow, shiftTag]; rw [if_pos (by omega)]; exact .froz hr'
     | own t' es ys _ e' vals' k1 krt k2 k3 k4 k0 k5 =>
      simp only [shiftRow, shiftTag]; rw [if_neg (by omega)]
      refine .own _ es ys u e' vals' (by omega) (by unfold root at *; omega) k2 (fun b hb => ?_) k4 k0 (k5.mono fun z y hz hr => ?_)
      ·have hgb := k3 b hb
       have hr64 : root t' < 64 := by omega
       simp [backG, hnb b t' hgb, hgb, hr64]
      ·rcases hS' with hS' | hS'
       ·exact hr.mono (hstab hS') (fun _ _ => rfl)
       ·simp only [flatRow, Bool.and_eq_true, decide_eq_true_eq] at hS'
        obtain ⟨y', hy', hxy⟩ := List.mem_flatMap.1 hz
        exact hr.memless (memless_cells (List.all_eq_true.1 hS'.2 y' hy') z hxy)
  | po t xs i => simp [lt64] at h1
  | pe t es xs i o => simp [lt64] at h1
  | pb i o => simp [lt64] at h1
  | ag cs => simp [AV.leafy] at hx
  | tup cs => simp [AV.leafy] at hx
  | any => exact .froz (.any _)
  | nil => rw [h.nil_inv]; exact .froz .nil
  | ub => obtain ⟨b, rfl⟩ := h.ub_inv; exact .froz (.ub b)
  | sc u => rw [h.sc_inv]; exact .froz (.sc _)
  | fn g caps => cases h with | froz h => exact .froz (hF hx hS h)
  | mp t P k e D => simp [lt64] at h1
  | cl g caps => simp [lt64] at h1
  | tl t es xs i => simp [lt64] at h1
  | fp cs o => cases h with | froz h => exact .froz (hF hx hS h)
 rcases hS with hS | hS
 ·exact core lt64 (fun x h => ⟨h, .inl hS⟩) hlt
 ·exact core _ (fun x h => by simp only [Bool.and_eq_true] at h; exact ⟨h.1, .inr h.2⟩) (allLeaf_and lt64 flatLeaf x hlt hS)
inductive CallPost (ts : List Nat) (d : Nat) (σ : St) (K : St -> Prop) (r : AV) : Prop
 | free : ts = [] -> K (σ.put (some d) (r.shift (64 * (d + 1)))) -> CallPost ts d σ K r
 | flat : r.allLeaf flatLeaf = true -> K (σ.put (some d) (r.shift (64 * (d + 1)))) -> CallPost ts d σ K r
 | freeze : K ((σ.map (freezeLeaf fun t => ts.contains t)).put (some d) (r.shift (64 * (d + 1)))) -> CallPost ts d σ K r
def CallK (P : Program) (f : FuncId) (args : List AV) (d : Nat) (σ : St) (K : St -> Prop) : Prop :=
 σ.free d = true /\ d < σ.n /\ Con P f (args.map AV.view) [] fun r _ => r.allLeaf lt64 = true /\ CallPost (tagss args) d σ K r
theorem tagss_mem : ∀ {args : List AV} {x : AV}, x ∈ args -> ∀ t ∈ x.tags, t ∈ tagss args
 | y :: r, x, h, t, ht => by
  simp only [tagss, List.mem_append]
  rcases List.mem_cons.1 h with rfl | h
  ·exact .inl ht
  ·exact .inr (tagss_mem h t ht)
theorem SRel.freeze {G0 w0 σ G a w} (h : SRel G0 w0 σ G a w) (_h0 : True) (p : Nat -> Bool) : SRel G0 w0 (σ.map (freezeLeaf p)) (freezeG p G) a w :=
 { h with
  good := h.good.freeze
  slots := fun s => by
   have : (σ.map (freezeLeaf p)).get s = (σ.get s).freeze p := lookT_map rfl σ.tmps s
   rw [this]; exact (h.slots s).freeze
  boxes := ⟨fun i vs hv => by have := h.boxes.low i vs hv; simpa [St.map, mapB_eq] using this, fun i cs hi => by
   simp only [St.map, mapB_eq, List.getElem?_map] at hi
   cases hc : σ.boxes[i]? with
   | none => simp [hc] at hi
   | some cs' =>
    simp [hc] at hi; subst hi
    rw [mapTops_eq]
    refine (h.boxes.cell i cs' hc).map (fun x v hr => hr.freeze) (fun b hb => ⟨by simp [freezeG, hb], rfl⟩) fun h0 b hb => h0 b ?_
    unfold freezeG at hb; split at hb
    ·split at hb <;> cases hb
    ·exact hb⟩
  blt := fun b i hb => by
   have : G b = .box i := by
    unfold freezeG at hb; split at hb
    ·split at hb <;> cases hb
    ·exact hb
   have := h.blt b i this
   simpa [St.map, mapB_eq] using this
  size := h.size
  stat := fun b hb hnt => by
   have := h.stat b hb hnt
   unfold freezeG; split
   ·rename_i t ht; rw [this] at ht; exact absurd ht (hnt t)
   ·exact this }
theorem SRel.back {G0 w0 σ G a w G' w'} {d : Nat} (h : SRel G0 w0 σ G a w) (hf : Fresh d G) (hd : d < σ.n) {r : AV} {v : Value} (hr : VRel (backG d w.heap.size G G') w' r v)
  (hG : Good G' w') (e1 : w'.os = w.os) (e2 : w'.tape = w.tape) (e3 : w'.output = w.output) (e4 : w.heap.size <= w'.heap.size) (e6 : ∀ b, b < w.heap.size -> w'.heap[b]? = w.heap[b]?) :
  SRel G0 w0 (σ.put (some d) r) (backG d w.heap.size G G') (a.put (some d) v) w' := by
 have hE : Ext G w (backG d w.heap.size G G') w' := ⟨e1, e2, e3, e4, fun b hb => by simp [backG, hb], e6⟩
 have htag : ∀ b t, backG d w.heap.size G G' b = .tag t -> (b < w.heap.size /\ G b = .tag t) \/ (¬ b < w.heap.size /\ root t / 64 = d + 1 /\ G' b = .tag (t - 64 * (d + 1))) := by
  intro b t hb
  unfold backG at hb
  split at hb
  ·exact .inl ⟨by assumption, hb⟩
  ·rename_i hn
   split at hb <;> try (cases hb; done)
   rename_i t' ht'
   split at hb
   ·cases hb; exact .inr ⟨hn, by have := hf.1; unfold root at *; omega, by rw [ht']; congr 1; omega⟩
   ·cases hb
 have hbox : ∀ b i, backG d w.heap.size G G' b = .box i -> G b = .box i := by
  intro b i hb
  unfold backG at hb
  split at hb
  ·exact hb
  ·split at hb <;> first | (cases hb; done) | (split at hb <;> cases hb)
 have hgood : Good (backG d w.heap.size G G') w' := by
  refine ⟨fun b hb => ?_, fun b b' t h1 h2 => ?_, fun b b' i h1 h2 => h.good.boxes b b' i (hbox b i h1) (hbox b' i h2)⟩
  ·unfold backG at hb
   split at hb
   ·omega
   ·exact hG.lt b fun h' => hb (by simp [h'])
  ·rcases htag b t h1 with ⟨_, h1⟩ | ⟨_, h1, g1⟩ <;> rcases htag b' t h2 with ⟨_, h2⟩ | ⟨_, h2, g2⟩
   ·exact h.good.tags b b' t h1 h2
   ·exact absurd h2 (hf.2 b t h1)
   ·exact absurd h1 (hf.2 b' t h2)
   ·exact hG.tags b b' _ g1 g2
 exact h.add hE hgood hbox (by simpa [dstOk] using hd) hr
theorem CallK.sound {f : FuncId} {args : List AV} {d : Nat} {σ : St} {K : St -> Prop} {G0 w0 G a w} (hk : CallK P f args d σ K) (h : SRel G0 w0 σ G a w) (h0 : True) {vs : Array Value}
  (hv : ∀ G, SRel G0 w0 σ G a w -> PW (VRel G w) args vs.toList) :
  Callable P f /\ Calls P f vs w fun e w' => ∃ v σ' G', e = .returned v /\ K σ' /\ SRel G0 w0 σ' G' (a.put (some d) v) w' := by
 obtain ⟨hfree, hd, hcall, hcon⟩ := hk
 refine ⟨hcall, ?_⟩
 obtain ⟨hs, hfr⟩ := h.fresh hfree h0
 have hgv := hs.good.view (ts := tagss args)
 have hva : PW (VRel (viewG (tagss args) (killR d G)) w) (args.map AV.view) vs.toList := by
  have hv := hv _ hs
  refine ⟨by simpa using hv.1, fun j x u hx hu => ?_⟩
  rw [List.getElem?_map] at hx
  cases hj : args[j]? with
  | none => simp [hj] at hx
  | some y =>
   simp [hj] at hx; subst hx
   exact (hv.2 j y u hj hu).view (tags_in _ y (tagss_mem (List.mem_of_getElem? hj)))
 refine (hcon _ w vs hgv.1 hgv.2.1 (fun b i hb => absurd hb (hgv.2.2 b i)) ⟨fun i vs hv => by simp [noGh] at hv, fun i cs hi => by simp at hi⟩ hva).mono ?_
 rintro e w' ⟨v, r, bx', G', rfl, ⟨hlt, hpost⟩, hr, hG', _, _, e1, e2, e3, e4, e5, e6⟩
 have e6' : ∀ b, b < w.heap.size -> w'.heap[b]? = w.heap[b]? := fun b hb => e6 b hb (fun i => hgv.2.2 b i)
 cases hpost with
 | free ht hK =>
  have := hr.back (d := d) (G := killR d G) (Gc := viewG (tagss args) (killR d G)) (w := w) hlt hfr.1 e5 hgv.2.1 (.inl fun b _ hb => by
   unfold Stable viewG at *
   split at hb
   ·assumption
   ·rw [ht] at hb; simp at hb
   ·cases hb)
  exact ⟨v, _, _, rfl, hK, hs.back hfr hd this hG' e1 e2 e3 e4 e6'⟩
 | flat hf hK =>
  have := hr.back (d := d) (G := killR d G) (Gc := viewG (tagss args) (killR d G)) (w := w) hlt hfr.1 e5 hgv.2.1 (.inr hf)
  exact ⟨v, _, _, rfl, hK, hs.back hfr hd this hG' e1 e2 e3 e4 e6'⟩
 | freeze hK =>
  have hs' := hs.freeze h0 (fun t => (tagss args).contains t)
  have hfr' : Fresh d (freezeG (fun t => (tagss args).contains t) (killR d G)) := by
   refine ⟨hfr.1, fun b t hb => ?_⟩
   unfold freezeG at hb
   split at hb
   ·rename_i t' ht'; split at hb
    ·cases hb
    ·cases hb; exact hfr.2 b _ ht'
   ·exact hfr.2 b t hb
  have := hr.back (d := d) (G := freezeG (fun t => (tagss args).contains t) (killR d G)) (Gc := viewG (tagss args) (killR d G)) (w := w) hlt hfr.1 e5 hgv.2.1 (.inl fun b _ hb => by
   unfold Stable viewG at hb
   unfold Stable freezeG
   split at hb
   ·rename_i h; rw [h]
   ·rename_i t h; rw [h]; split at hb
    ·rename_i hc; simp only [hc, if_true]
    ·cases hb
   ·cases hb)
  exact ⟨v, _, _, rfl, hK, hs'.back hfr' (by simpa [St.map] using hd) this hG' e1 e2 e3 e4 e6'⟩
end
end Go.AM
