/-
  The abstract machine: the operations that make memory, and those that write to it.
-/
import Derived.Test.YthmjnbmooedfjaaAmD
namespace Go.AM
open Go.RowKit

/-! ### a new block -/
def updG (G : Nat → Status) (n : Nat) (s : Status) (b : Nat) : Status := if b = n then s else G b

theorem Ext.alloc {G : Nat → Status} {w : World} (o : Obj) (s : Status) : Ext G w (updG G w.heap.size s) (w.alloc o) :=
  ⟨rfl, rfl, rfl, by simp, fun b hb => by simp [updG, Nat.ne_of_lt hb], fun b hb => heap_alloc_old w o hb⟩

theorem Good.upd {G : Nat → Status} {w w' : World} (hg : Good G w) (n : Nat) (s : Status) (hn : w.heap.size ≤ n) (hn' : n < w'.heap.size) (hsz : w.heap.size ≤ w'.heap.size)
    (ht : ∀ t, s = .tag t → ∀ b, G b ≠ .tag t) (hb : ∀ i, s = .box i → ∀ b, G b ≠ .box i) : Good (updG G n s) w' := by
  have hj : G n = .junk := Classical.byContradiction fun h => by have := hg.lt n h; omega
  refine ⟨fun b h => ?_, fun b b' t h1 h2 => ?_, fun b b' i h1 h2 => ?_⟩
  · by_cases e : b = n
    · omega
    · simp only [updG, e, if_false] at h; have := hg.lt b h; omega
  · simp only [updG] at h1 h2
    split at h1 <;> split at h2
    · omega
    · exact absurd h2 (ht t h1 _)
    · exact absurd h1 (ht t h2 _)
    · exact hg.tags b b' t h1 h2
  · simp only [updG] at h1 h2
    split at h1 <;> split at h2
    · omega
    · exact absurd h2 (hb i h1 _)
    · exact absurd h1 (hb i h2 _)
    · exact hg.boxes b b' i h1 h2

/-- no tag of slot d -/
def Fresh (d : Nat) (G : Nat → Status) : Prop := d < 16383 ∧ ∀ b t, G b = .tag t → root t / 64 ≠ d + 1
theorem Fresh.own {d : Nat} {G : Nat → Status} (h : Fresh d G) : root (64 * (d + 1)) / 64 = d + 1 := by have := h.1; unfold root; omega
theorem Fresh.ne {d b : Nat} {G : Nat → Status} (h : Fresh d G) (hb : G b = .tag (64 * (d + 1))) : False := h.2 b _ hb h.own

theorem NewTags.upd {d : Nat} {G : Nat → Status} {n t : Nat} (h : root t / 64 = d + 1) : NewTags d G (updG G n (.tag t)) := by
  refine ⟨fun b t' hb => ?_, fun b i hb => ?_⟩ <;> simp only [updG] at hb <;> split at hb
  · cases hb; exact .inr h
  · exact .inl hb
  · cases hb
  · exact hb

/-! ### slices written out -/
theorem fold_set (off : Nat) : ∀ (ys : List Value) (j0 : Nat) (pre mid post : List Value), mid.length = ys.length → pre.length = off + j0 →
    (ys.zipIdx j0).foldl (fun (cs : Array Value) (p : Value × Nat) => cs.setIfInBounds (off + p.2) p.1) (pre ++ mid ++ post).toArray = (pre ++ ys ++ post).toArray
  | [], j0, pre, mid, post, h, _ => by
    have : mid = [] := List.eq_nil_of_length_eq_zero (by simpa using h)
    subst this; simp
  | y :: ys, j0, pre, mid, post, h, hp => by
    cases mid with
    | nil => simp at h
    | cons m mid =>
      simp only [List.zipIdx_cons, List.foldl_cons]
      have e1 : (pre ++ m :: mid ++ post).toArray.setIfInBounds (off + j0) y = ((pre ++ [y]) ++ mid ++ post).toArray := by
        apply Array.toList_inj.1
        simp only [Array.toList_setIfInBounds, List.append_assoc, List.cons_append, List.nil_append]
        rw [← hp, List.set_append_right _ _ (Nat.le_refl _)]
        simp
      rw [e1, fold_set off ys (j0 + 1) (pre ++ [y]) mid post (by simpa using h) (by simp; omega)]
      simp

theorem fill_rows (size : Nat) : ∀ (ps : List (Nat × Value)) (k : Nat) (pre tail : List Value), pre.length = k * size → tail.length = ps.length * size →
    (∀ j p, ps[j]? = some p → p.1 = k + j ∧ p.2.cells.size = size) →
    Instr.fill (fun i => some (i * size, size)) (pre ++ tail).toArray ps = some (pre ++ ps.flatMap fun p => p.2.cells.toList).toArray
  | [], k, pre, tail, h1, h2, _ => by
    have : tail = [] := List.eq_nil_of_length_eq_zero (by simpa using h2)
    subst this; simp [Instr.fill]
  | (i, v) :: ps, k, pre, tail, h1, h2, h3 => by
    obtain ⟨hi, hv⟩ := h3 0 (i, v) rfl
    simp only [Nat.add_zero] at hi hv
    subst hi
    have hlen : size ≤ tail.length := by rw [h2]; simp [Nat.succ_mul]
    simp only [Instr.fill, hv, ne_eq, not_true_eq_false, false_or]
    rw [if_neg (by simp; omega)]
    have hsplit : tail = tail.take size ++ tail.drop size := (List.take_append_drop _ _).symm
    have hz : v.cells.zipIdx = (v.cells.toList.zipIdx).toArray := by apply Array.toList_inj.1; rw [Array.toList_zipIdx]
    have hf : v.cells.zipIdx.foldl (fun (cs : Array Value) (x : Value × Nat) => cs.setIfInBounds (i * size + x.2) x.1) (pre ++ tail).toArray = (pre ++ v.cells.toList ++ tail.drop size).toArray := by
      rw [hz, List.foldl_toArray']
      · rw [hsplit, ← List.append_assoc]
        have := fold_set (i * size) v.cells.toList 0 pre (tail.take size) (tail.drop size) (by simp [hv]; omega) (by simpa using h1)
        simpa using this
      · simp
    rw [show (Array.foldl (fun cs x => match x with | (c, j) => cs.setIfInBounds (i * size + j) c) (pre ++ tail).toArray v.cells.zipIdx) = _ from hf]
    rw [fill_rows size ps (i + 1) (pre ++ v.cells.toList) (tail.drop size) (by simp [hv, h1, Nat.succ_mul]) (by rw [List.length_drop, h2]; simp [Nat.succ_mul]) (fun j p hj => by
      have := h3 (j + 1) p (by simpa using hj); exact ⟨by omega, this.2⟩)]
    simp

theorem PW.flatMap {α β γ δ : Type} {R : γ → δ → Prop} {f : α → List γ} {g : β → List δ} : ∀ {xs : List α} {ys : List β}, PW (fun x y => PW R (f x) (g y)) xs ys → PW R (xs.flatMap f) (ys.flatMap g)
  | [], ys, h => by rw [h.nil_inv]; exact .nil R
  | x :: xs, ys, h => by
    obtain ⟨y, ys', rfl, h1, h2⟩ := h.cons_inv
    simp only [List.flatMap_cons]
    exact h1.append h2.flatMap

section ops
variable {P : Program}

/-- the indices are 0, 1, .. -/
def idxOk : Nat → List (Nat × AV) → Bool
  | _, [] => true
  | k, (i, _) :: r => decide (i = k) && idxOk (k + 1) r

theorem idxOk_spec : ∀ (ps : List (Nat × AV)) (k : Nat), idxOk k ps = true → ∀ (j : Nat) p, ps[j]? = some p → p.1 = k + j
  | [], _, _, j, p, h => by simp at h
  | (i, x) :: r, k, hk, j, p, h => by
    simp only [idxOk, Bool.and_eq_true, decide_eq_true_eq] at hk
    cases j with
    | zero => simp at h; subst h; simpa using hk.1
    | succ j => have := idxOk_spec r (k + 1) hk.2 j p (by simpa using h); omega

def partOk (es : Nat) (x : AV) : Bool := decide (x.cells.length = es) && x.fz && x.one

def evBuildSlice (P : Program) (d : Nat) (T : TypeId) (len : Nat) (ps : List (Nat × AV)) (K : AV → Prop) : Prop :=
  match P.underlying T with
  | some (.slice E) => ∃ q, tinfo P E = some q ∧ 0 < q.1 ∧ q.2.2.isSome = true ∧ len * q.1 ≤ 16777216 ∧ ps.length = len ∧ idxOk 0 ps = true ∧ (ps.all fun p => partOk q.1 p.2) = true ∧ K (.sl (64 * (d + 1)) q.1 (ps.map (·.2)))
  | _ => False

theorem evBuildSlice_sound {d : Nat} {T : TypeId} {len : Nat} {ps : List (Nat × AV)} {K : AV → Prop} (h : evBuildSlice P d T len ps K) :
    ∃ r, K r ∧ ∀ (G : Nat → Status) (w : World) (vs : Array (Nat × Value)), Good G w → Fresh d G → PW (fun p q => p.1 = q.1 ∧ VRel G w p.2 q.2) ps vs.toList → Does P d G w (Instr.buildSlice T len vs) r := by
  unfold evBuildSlice at h
  split at h
  · rename_i E hT
    obtain ⟨⟨sz, by_, z⟩, hq, h0, hz, hlen, hpl, hidx, hall, hK⟩ := h
    refine ⟨_, hK, fun G w vs hg hf hv => ?_⟩
    cases z with
    | none => simp at hz
    | some z =>
    simp only at h0 hlen hall ⊢
    obtain ⟨i, hi, hsz, hby, hzz⟩ := tinfo_some hq
    have hall' : ∀ p ∈ ps, p.2.cells.length = sz ∧ p.2.fz = true ∧ p.2.one = true := by
      intro p hp
      have := List.all_eq_true.1 hall p hp
      simp only [partOk, Bool.and_eq_true, decide_eq_true_eq] at this
      exact ⟨this.1.1, this.1.2, this.2⟩
    have hpart : ∀ (j : Nat) p q, ps[j]? = some p → vs.toList[j]? = some q → PW (FRel (Stable G) w) p.2.cells q.2.cells.toList ∧ One q.2.cells.toList := by
      intro j p q hp hq'
      obtain ⟨_, h2, h3⟩ := hall' p (List.mem_of_getElem? hp)
      exact ((hv.2 j p q hp hq').2.fz h2).cells h3
    have hrows := fill_rows sz vs.toList 0 [] ((Array.range (len * sz)).map (fun x => (if len * sz = 0 then (#[] : Array Value) else z.cells)[x % (if len * sz = 0 then (#[] : Array Value) else z.cells).size]!)).toList (by simp) (by simp [← hv.1, hpl])
      (fun j q hj => by
        have hjl : j < ps.length := by rw [hv.1]; exact (List.getElem?_eq_some_iff.1 hj).1
        have hp := List.getElem?_eq_getElem hjl
        have h1 := hv.2 j _ q hp hj
        have h2 := idxOk_spec ps 0 hidx j _ hp
        have h3 := (hpart j _ q hp hj).1.1
        have h4 := (hall' _ (List.mem_of_getElem? hp)).1
        exact ⟨by rw [← h1.1]; exact h2, by simpa [h4] using h3.symm⟩)
    simp only [List.nil_append] at hrows
    have hcells : PW (FRel (Stable G) w) (flat (ps.map (·.2))) (vs.toList.flatMap fun p => p.2.cells.toList) := by
      have : flat (ps.map (·.2)) = ps.flatMap fun p => p.2.cells := by simp [flat, List.flatMap_map]
      rw [this]
      exact PW.flatMap ⟨hv.1, fun j p q hp hq' => (hpart j p q hp hq').1⟩
    have hw : ∀ x ∈ ps.map (·.2), x.cells.length = sz := by
      intro x hx; obtain ⟨p, hp, rfl⟩ := List.mem_map.1 hx; exact (hall' p hp).1
    have hcl : (vs.toList.flatMap fun p => p.2.cells.toList).length = len * sz := by rw [← hcells.1, flat_length hw]; simp [hpl]
    have hone : One (vs.toList.flatMap fun p => p.2.cells.toList) := by
      intro u hu
      obtain ⟨q, hq', hu'⟩ := List.mem_flatMap.1 hu
      obtain ⟨j, hj⟩ := List.getElem?_of_mem hq'
      have hjl : j < ps.length := by rw [hv.1]; exact (List.getElem?_eq_some_iff.1 hj).1
      exact (hpart j _ q (List.getElem?_eq_getElem hjl) hj).2 u hu'
    have hrun : (Instr.buildSlice T len vs).run P w = .ok (.slice (some ⟨w.heap.size, 0, none⟩) len len) (w.alloc (.cells (vs.toList.flatMap fun p => p.2.cells.toList).toArray E)) := by
      have e1 : ¬ (16777216 < len * sz) := by omega
      have hrows' : Instr.fill (fun i => some (i * sz, sz)) ((Array.range (len * sz)).map (fun x => (if len * sz = 0 then (#[] : Array Value) else z.cells)[x % (if len * sz = 0 then (#[] : Array Value) else z.cells).size]!)) vs.toList = some (vs.toList.flatMap fun p => p.2.cells.toList).toArray := by
        simpa only [Array.toArray_toList] using hrows
      by_cases hl0 : len * sz = 0
      · simp [hl0] at hrows'
        simp [Instr.buildSlice, run_underlying hT, run_sizeOf hq, e1, hl0, hrows', newRow]
      · simp [hl0] at hrows'
        simp [Instr.buildSlice, run_underlying hT, run_sizeOf hq, e1, hl0, hrows', newRow, zeroValue, typeInfo, hi, hzz]
    have hle : len ≤ maxLen := by
      have : len ≤ len * sz := Nat.le_mul_of_pos_right _ h0
      simp only [maxLen]; omega
    refine ⟨_, _, updG G w.heap.size (.tag (64 * (d + 1))), hrun, ?_, .alloc _ _, hg.upd _ _ (Nat.le_refl _) (by simp) (by simp) (fun t ht b hb => ?_) (fun i h => by cases h), .upd hf.own⟩
    · have hgo := World.ownsRow_lit (base := 0) (e := E) (size := sz) w (vs.toList.flatMap fun p => p.2.cells.toList).toArray len (Nat.zero_le _) hle (by simpa using hcl)
      have : VRel (updG G w.heap.size (.tag (64 * (d + 1)))) (w.alloc (.cells (vs.toList.flatMap fun p => p.2.cells.toList).toArray E)) (.sl (64 * (d + 1)) sz (ps.map (·.2))) (.slice (some ⟨w.heap.size, 0, none⟩) len len) := by
        refine .own _ sz _ _ E (vs.toList.flatMap fun p => p.2.cells.toList) (by omega) (by simpa [hpl] using hgo) (fun b hb => ?_) hw hone (hcells.mono fun x y _ hr => hr.mono (fun b hb => ?_) (fun b hb => ?_))
        · simp only [Value.ownBlock, Option.some.injEq] at hb; simp [updG, ← hb]
        · have := hg.lt b (by unfold Stable at hb; rw [hb]; simp)
          unfold Stable at *; simp [updG, Nat.ne_of_lt this, hb]
        · exact heap_alloc_old w _ (hg.lt b (by unfold Stable at hb; rw [hb]; simp))
      exact this
    · cases ht; exact hf.ne hb
  · exact h.elim

end ops
end Go.AM
