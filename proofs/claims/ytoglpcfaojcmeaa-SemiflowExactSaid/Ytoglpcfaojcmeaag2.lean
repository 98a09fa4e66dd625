/- AmE AmF AmG -/
import Derived.Test.Ytoglpcfaojcmeaag1
import Derived.Laws.StructEq
namespace Go.AM
open Go.RowKit
def updG (G : Nat → Status) (n : Nat) (s : Status) (b : Nat) : Status := if b = n then s else G b
theorem Ext.alloc {G : Nat → Status} {w : World} (o : Obj) (s : Status) : Ext G w (updG G w.heap.size s) (w.alloc o) :=
 ⟨rfl, rfl, rfl, by simp, fun b hb => by simp [updG, Nat.ne_of_lt hb], fun b hb => heap_alloc_old w o hb⟩
theorem Good.upd {G : Nat → Status} {w w' : World} (hg : Good G w) (n : Nat) (s : Status) (hn : w.heap.size ≤ n) (hn' : n < w'.heap.size) (_hsz : w.heap.size ≤ w'.heap.size)
  (ht : ∀ t, s = .tag t → ∀ b, G b ≠ .tag t) (hb : ∀ i, s = .box i → ∀ b, G b ≠ .box i) : Good (updG G n s) w' := by
 have hj : G n = .junk := Classical.byContradiction fun h => by have := hg.lt n h; omega
 refine ⟨fun b h => ?_, fun b b' t h1 h2 => ?_, fun b b' i h1 h2 => ?_⟩
 ·by_cases e : b = n
  ·omega
  ·simp only [updG, e, if_false] at h; have := hg.lt b h; omega
 ·simp only [updG] at h1 h2
  split at h1 <;> split at h2
  ·omega
  ·exact absurd h2 (ht t h1 _)
  ·exact absurd h1 (ht t h2 _)
  ·exact hg.tags b b' t h1 h2
 ·simp only [updG] at h1 h2
  split at h1 <;> split at h2
  ·omega
  ·exact absurd h2 (hb i h1 _)
  ·exact absurd h1 (hb i h2 _)
  ·exact hg.boxes b b' i h1 h2
def Fresh (d : Nat) (G : Nat → Status) : Prop := d < 16383 ∧ ∀ b t, G b = .tag t → root t / 64 ≠ d + 1
theorem Fresh.own {d : Nat} {G : Nat → Status} (h : Fresh d G) : root (64 * (d + 1)) / 64 = d + 1 := by have := h.1; unfold root; omega
theorem Fresh.ne {d b : Nat} {G : Nat → Status} (h : Fresh d G) (hb : G b = .tag (64 * (d + 1))) : False := h.2 b _ hb h.own
theorem NewTags.upd {d : Nat} {G : Nat → Status} {n t : Nat} (h : root t / 64 = d + 1) : NewTags d G (updG G n (.tag t)) := by
 refine ⟨fun b t' hb => ?_, fun b i hb => ?_⟩ <;> simp only [updG] at hb <;> split at hb
 ·cases hb; exact .inr h
 ·exact .inl hb
 ·cases hb
 ·exact hb
theorem fold_set (off : Nat) : ∀ (ys : List Value) (j0 : Nat) (pre mid post : List Value), mid.length = ys.length → pre.length = off + j0 →
  (ys.zipIdx j0).foldl (fun (cs : Array Value) (p : Value × Nat) => cs.setIfInBounds (off + p.2) p.1) (pre ++ mid ++ post).toArray = (pre ++ ys ++ post).toArray
 | [], j0, pre, mid, post, h, _ => by
  have : mid = [] := List.eq_nil_of_length_eq_zero (by simpa using h)
  subst this; simp
 | y :: ys, j0, pre, mid, post, h, hp => by
  cases mid with
  | nil => simp at h
  | cons m mid =>
   simp only [List.zipIdx_cons, List.foldl_cons]
   have e1 : (pre ++ m :: mid ++ post).toArray.setIfInBounds (off + j0) y = ((pre ++ [y]) ++ mid ++ post).toArray := by
    apply Array.toList_inj.1
    simp only [Array.toList_setIfInBounds, List.append_assoc, List.cons_append, List.nil_append]
    rw [← hp, List.set_append_right _ _ (Nat.le_refl _)]
    simp
   rw [e1, fold_set off ys (j0 + 1) (pre ++ [y]) mid post (by simpa using h) (by simp; omega)]
   simp
theorem fill_rows (size : Nat) : ∀ (ps : List (Nat × Value)) (k : Nat) (pre tail : List Value), pre.length = k * size → tail.length = ps.length * size →
  (∀ j p, ps[j]? = some p → p.1 = k + j ∧ p.2.cells.size = size) →
  Instr.fill (fun i => some (i * size, size)) (pre ++ tail).toArray ps = some (pre ++ ps.flatMap fun p => p.2.cells.toList).toArray
 | [], k, pre, tail, h1, h2, _ => by
  have : tail = [] := List.eq_nil_of_length_eq_zero (by simpa using h2)
  subst this; simp [Instr.fill]
 | (i, v) :: ps, k, pre, tail, h1, h2, h3 => by
  obtain ⟨hi, hv⟩ := h3 0 (i, v) rfl
  simp only [Nat.add_zero] at hi hv
  subst hi
  have hlen : size ≤ tail.length := by rw [h2]; simp [Nat.succ_mul]
  simp only [Instr.fill, hv, ne_eq, not_true_eq_false]
  rw [if_neg (by simp; omega)]
  have hsplit : tail = tail.take size ++ tail.drop size := (List.take_append_drop _ _).symm
  have hz : v.cells.zipIdx = (v.cells.toList.zipIdx).toArray := by apply Array.toList_inj.1; rw [Array.toList_zipIdx]
  have hf : v.cells.zipIdx.foldl (fun (cs : Array Value) (x : Value × Nat) => cs.setIfInBounds (i * size + x.2) x.1) (pre ++ tail).toArray = (pre ++ v.cells.toList ++ tail.drop size).toArray := by
   rw [hz, List.foldl_toArray']
   ·rw [hsplit, ← List.append_assoc]
    have := fold_set (i * size) v.cells.toList 0 pre (tail.take size) (tail.drop size) (by simp [hv]; omega) (by simpa using h1)
    simpa using this
   ·simp
  rw [show (Array.foldl (fun cs x => match x with | (c, j) => cs.setIfInBounds (i * size + j) c) (pre ++ tail).toArray v.cells.zipIdx) = _ from hf]
  rw [fill_rows size ps (i + 1) (pre ++ v.cells.toList) (tail.drop size) (by simp [hv, h1, Nat.succ_mul]) (by rw [List.length_drop, h2]; simp [Nat.succ_mul]) (fun j p hj => by
   have := h3 (j + 1) p (by simpa using hj); exact ⟨by omega, this.2⟩)]
  simp
theorem PW.flatMap {α β γ δ : Type} {R : γ → δ → Prop} {f : α → List γ} {g : β → List δ} : ∀ {xs : List α} {ys : List β}, PW (fun x y => PW R (f x) (g y)) xs ys → PW R (xs.flatMap f) (ys.flatMap g)
 | [], ys, h => by rw [h.nil_inv]; exact .nil R
 | x :: xs, ys, h => by
  obtain ⟨y, ys', rfl, h1, h2⟩ := h.cons_inv
  simp only [List.flatMap_cons]
  exact h1.append h2.flatMap
section ops
variable {P : Program}
def idxOk : Nat → List (Nat × AV) → Bool
 | _, [] => true
 | k, (i, _) :: r => decide (i = k) && idxOk (k + 1) r
theorem idxOk_spec : ∀ (ps : List (Nat × AV)) (k : Nat), idxOk k ps = true → ∀ (j : Nat) p, ps[j]? = some p → p.1 = k + j
 | [], _, _, j, p, h => by simp at h
 | (i, x) :: r, k, hk, j, p, h => by
  simp only [idxOk, Bool.and_eq_true, decide_eq_true_eq] at hk
  cases j with
  | zero => simp at h; subst h; simpa using hk.1
  | succ j => have := idxOk_spec r (k + 1) hk.2 j p (by simpa using h); omega
def partOk (es : Nat) (x : AV) : Bool := decide (x.cells.length = es) && x.fz && x.one
def evBuildSlice (P : Program) (d : Nat) (T : TypeId) (len : Nat) (ps : List (Nat × AV)) (K : AV → Prop) : Prop :=
 match P.underlying T with
 | some (.slice E) => ∃ q, tinfo P E = some q ∧ 0 < q.1 ∧ q.2.2.isSome = true ∧ len * q.1 ≤ 16777216 ∧ ps.length = len ∧ idxOk 0 ps = true ∧ (ps.all fun p => partOk q.1 p.2) = true ∧ K (.sl (64 * (d + 1)) q.1 (ps.map (·.2)))
 | _ => False
theorem evBuildSlice_sound {d : Nat} {T : TypeId} {len : Nat} {ps : List (Nat × AV)} {K : AV → Prop} (h : evBuildSlice P d T len ps K) :
  ∃ r, K r ∧ ∀ (G : Nat → Status) (w : World) (vs : Array (Nat × Value)), Good G w → Fresh d G → PW (fun p q => p.1 = q.1 ∧ VRel G w p.2 q.2) ps vs.toList → Does P d G w (Instr.buildSlice T len vs) r := by
 unfold evBuildSlice at h
 split at h
 ·rename_i E hT
  obtain ⟨⟨sz, by_, z⟩, hq, h0, hz, hlen, hpl, hidx, hall, hK⟩ := h
  refine ⟨_, hK, fun G w vs hg hf hv => ?_⟩
  cases z with
  | none => simp at hz
  | some z =>
  simp only at h0 hlen hall ⊢
  obtain ⟨i, hi, hsz, hby, hzz⟩ := tinfo_some hq
  have hall' : ∀ p ∈ ps, p.2.cells.length = sz ∧ p.2.fz = true ∧ p.2.one = true := by
   intro p hp
   have := List.all_eq_true.1 hall p hp
   simp only [partOk, Bool.and_eq_true, decide_eq_true_eq] at this
   exact ⟨this.1.1, this.1.2, this.2⟩
  have hpart : ∀ (j : Nat) p q, ps[j]? = some p → vs.toList[j]? = some q → PW (FRel (Stable G) w) p.2.cells q.2.cells.toList ∧ One q.2.cells.toList := by
   intro j p q hp hq'
   obtain ⟨_, h2, h3⟩ := hall' p (List.mem_of_getElem? hp)
   exact ((hv.2 j p q hp hq').2.fz h2).cells h3
  have hrows := fill_rows sz vs.toList 0 [] ((Array.range (len * sz)).map (fun x => (if len * sz = 0 then (#[] : Array Value) else z.cells)[x % (if len * sz = 0 then (#[] : Array Value) else z.cells).size]!)).toList (by simp) (by simp [← hv.1, hpl])
   (fun j q hj => by
    have hjl : j < ps.length := by rw [hv.1]; exact (List.getElem?_eq_some_iff.1 hj).1
    have hp := List.getElem?_eq_getElem hjl
    have h1 := hv.2 j _ q hp hj
    have h2 := idxOk_spec ps 0 hidx j _ hp
    have h3 := (hpart j _ q hp hj).1.1
    have h4 := (hall' _ (List.mem_of_getElem? hp)).1
    exact ⟨by rw [← h1.1]; exact h2, by simpa [h4] using h3.symm⟩)
  simp only [List.nil_append] at hrows
  have hcells : PW (FRel (Stable G) w) (flat (ps.map (·.2))) (vs.toList.flatMap fun p => p.2.cells.toList) := by
   have : flat (ps.map (·.2)) = ps.flatMap fun p => p.2.cells := by simp [flat, List.flatMap_map]
   rw [this]
   exact PW.flatMap ⟨hv.1, fun j p q hp hq' => (hpart j p q hp hq').1⟩
  have hw : ∀ x ∈ ps.map (·.2), x.cells.length = sz := by
   intro x hx; obtain ⟨p, hp, rfl⟩ := List.mem_map.1 hx; exact (hall' p hp).1
  have hcl : (vs.toList.flatMap fun p => p.2.cells.toList).length = len * sz := by rw [← hcells.1, flat_length hw]; simp [hpl]
  have hone : One (vs.toList.flatMap fun p => p.2.cells.toList) := by
   intro u hu
   obtain ⟨q, hq', hu'⟩ := List.mem_flatMap.1 hu
   obtain ⟨j, hj⟩ := List.getElem?_of_mem hq'
   have hjl : j < ps.length := by rw [hv.1]; exact (List.getElem?_eq_some_iff.1 hj).1
   exact (hpart j _ q (List.getElem?_eq_getElem hjl) hj).2 u hu'
  have hrun : (Instr.buildSlice T len vs).run P w = .ok (.slice (some ⟨w.heap.size, 0, none⟩) len len) (w.alloc (.cells (vs.toList.flatMap fun p => p.2.cells.toList).toArray E)) := by
   have e1 : ¬ (16777216 < len * sz) := by omega
   have hrows' : Instr.fill (fun i => some (i * sz, sz)) ((Array.range (len * sz)).map (fun x => (if len * sz = 0 then (#[] : Array Value) else z.cells)[x % (if len * sz = 0 then (#[] : Array Value) else z.cells).size]!)) vs.toList = some (vs.toList.flatMap fun p => p.2.cells.toList).toArray := by
    simpa only [Array.toArray_toList] using hrows
   by_cases hl0 : len * sz = 0
   ·simp [hl0] at hrows'
    simp [Instr.buildSlice, run_underlying hT, run_sizeOf hq, hl0, hrows', newRow]
   ·simp [hl0] at hrows'
    simp [Instr.buildSlice, run_underlying hT, run_sizeOf hq, e1, hl0, hrows', newRow, zeroValue, typeInfo, hi, hzz]
  have hle : len ≤ maxLen := by
   have : len ≤ len * sz := Nat.le_mul_of_pos_right _ h0
   simp only [maxLen]; omega
  refine ⟨_, _, updG G w.heap.size (.tag (64 * (d + 1))), hrun, ?_, .alloc _ _, hg.upd _ _ (Nat.le_refl _) (by simp) (by simp) (fun t ht b hb => ?_) (fun i h => by cases h), .upd hf.own⟩
  ·have hgo := World.ownsRow_lit (base := 0) (e := E) (size := sz) w (vs.toList.flatMap fun p => p.2.cells.toList).toArray len (Nat.zero_le _) hle (by simpa using hcl)
   have : VRel (updG G w.heap.size (.tag (64 * (d + 1)))) (w.alloc (.cells (vs.toList.flatMap fun p => p.2.cells.toList).toArray E)) (.sl (64 * (d + 1)) sz (ps.map (·.2))) (.slice (some ⟨w.heap.size, 0, none⟩) len len) := by
    refine .own _ sz _ _ E (vs.toList.flatMap fun p => p.2.cells.toList) (by omega) (by simpa [hpl] using hgo) (fun b hb => ?_) hw hone (hcells.mono fun x y _ hr => hr.mono (fun b hb => ?_) (fun b hb => ?_))
    ·simp only [Value.ownBlock, Option.some.injEq] at hb; simp [updG, ← hb]
    ·have := hg.lt b (by unfold Stable at hb; rw [hb]; simp)
     unfold Stable at *; simp [updG, Nat.ne_of_lt this, hb]
    ·exact heap_alloc_old w _ (hg.lt b (by unfold Stable at hb; rw [hb]; simp))
   exact this
  ·cases ht; exact hf.ne hb
 ·exact h.elim
end ops
section ops
variable {P : Program}
def evLen (P : Program) (T : TypeId) (x : AV) (K : AV → Prop) : Prop :=
 match P.underlying T, x with
 | some (.slice _), .sl _ _ xs => K (.sc (.int .i64 xs.length))
 | some (.slice _), .nil => K (.sc (.int .i64 0))
 | some .string, .sc (.string s) => K (.sc (.int .i64 s.size))
 | some (.array n _), .ag _ => K (.sc (.int .i64 n))
 | some (.slice _), .so _ xs => K (.sc (.int .i64 xs.length))
 | some (.slice _), .tl _ _ xs i => K (.sc (.int .i64 (xs.length - i : Nat)))
 | _, _ => False
theorem evLen_sound {T : TypeId} {x : AV} {K : AV → Prop} (h : evLen P T x K) :
  ∃ r, K r ∧ ∀ (ty : TypeId) (d : Nat) (G : Nat → Status) (w : World) (v : Value), Good G w → VRel G w x v → Does P d G w (Builtin.len_ #[T] ty #[v]) r := by
 unfold evLen at h
 split at h
 ·rename_i hT
  refine ⟨_, h, fun ty d G w v hg hv => ?_⟩
  obtain ⟨ao, c, rfl, _⟩ := hv.sl_inv
  exact .pure hg (by simp [Builtin.len_, run_underlying hT, goInt]) (.froz (.sc _))
 ·rename_i hT
  refine ⟨_, h, fun ty d G w v hg hv => ?_⟩
  obtain rfl := hv.nil_inv
  exact .pure hg (by simp [Builtin.len_, run_underlying hT, goInt]) (.froz (.sc _))
 ·rename_i hT
  refine ⟨_, h, fun ty d G w v hg hv => ?_⟩
  obtain rfl := hv.sc_inv
  exact .pure hg (by simp [Builtin.len_, run_underlying hT, goInt]) (.froz (.sc _))
 ·rename_i hT
  refine ⟨_, h, fun ty d G w v hg hv => ?_⟩
  exact .pure hg (by simp [Builtin.len_, run_underlying hT, goInt]) (.froz (.sc _))
 ·rename_i hT
  refine ⟨_, h, fun ty d G w v hg hv => ?_⟩
  obtain ⟨ao, c, rfl, _⟩ := hv.so_inv
  exact .pure hg (by simp [Builtin.len_, run_underlying hT, goInt]) (.froz (.sc _))
 ·rename_i hT
  refine ⟨_, h, fun ty d G w v hg hv => ?_⟩
  obtain ⟨b, off, off', c, _, _, _, _, rfl⟩ := hv.tl_inv
  exact .pure hg (by simp [Builtin.len_, run_underlying hT, goInt]) (.froz (.sc _))
 ·exact h.elim
def evMax (x y : AV) (K : AV → Prop) : Prop :=
 match x, y with
 | .sc (.int k a), .sc (.int _ b) => K (.sc (.int k (max a b)))
 | _, _ => False
def evMin (x y : AV) (K : AV → Prop) : Prop :=
 match x, y with
 | .sc (.int k a), .sc (.int _ b) => K (.sc (.int k (min a b)))
 | _, _ => False
theorem evMax_sound {x y : AV} {K : AV → Prop} (h : evMax x y K) :
  ∃ r, K r ∧ ∀ (As : Array TypeId) (ty : TypeId) (d : Nat) (G : Nat → Status) (w : World) (v u : Value), Good G w → VRel G w x v → VRel G w y u → Does P d G w (Builtin.max_ As ty #[v, u]) r := by
 unfold evMax at h
 split at h
 ·refine ⟨_, h, fun As ty d G w v u hg hv hu => ?_⟩
  obtain rfl := hv.sc_inv; obtain rfl := hu.sc_inv
  rename_i k a _ b
  refine .pure hg (v := .int k (max a b)) ?_ (.froz (.sc _))
  have : (if a < b then b else a) = max a b := by omega
  simp [Builtin.max_, Builtin.max2, this]
 ·exact h.elim
theorem evMin_sound {x y : AV} {K : AV → Prop} (h : evMin x y K) :
  ∃ r, K r ∧ ∀ (As : Array TypeId) (ty : TypeId) (d : Nat) (G : Nat → Status) (w : World) (v u : Value), Good G w → VRel G w x v → VRel G w y u → Does P d G w (Builtin.min_ As ty #[v, u]) r := by
 unfold evMin at h
 split at h
 ·refine ⟨_, h, fun As ty d G w v u hg hv hu => ?_⟩
  obtain rfl := hv.sc_inv; obtain rfl := hu.sc_inv
  rename_i k a _ b
  refine .pure hg (v := .int k (min a b)) ?_ (.froz (.sc _))
  have : (if b < a then b else a) = min a b := by omega
  simp [Builtin.min_, Builtin.min2, this]
 ·exact h.elim
def evCap (P : Program) (T : TypeId) (x : AV) (K : AV → Prop) : Prop :=
 match P.underlying T, x with
 | some (.slice _), .sl t _ xs => t = 1 ∧ K (.sc (.int .i64 xs.length))
 | some (.slice _), .nil => K (.sc (.int .i64 0))
 | _, _ => False
theorem evCap_sound {T : TypeId} {x : AV} {K : AV → Prop} (h : evCap P T x K) :
  ∃ r, K r ∧ ∀ (ty : TypeId) (d : Nat) (G : Nat → Status) (w : World) (v : Value), Good G w → VRel G w x v → Does P d G w (Builtin.cap_ #[T] ty #[v]) r := by
 unfold evCap at h
 split at h
 ·rename_i hT
  obtain ⟨ht, hK⟩ := h
  refine ⟨_, hK, fun ty d G w v hg hv => ?_⟩
  obtain ⟨ao, c, rfl, hc, _⟩ := hv.sl_inv
  have := hc ht; subst this
  exact .pure hg (by simp [Builtin.cap_, run_underlying hT, goInt]) (.froz (.sc _))
 ·rename_i hT
  refine ⟨_, h, fun ty d G w v hg hv => ?_⟩
  obtain rfl := hv.nil_inv
  exact .pure hg (by simp [Builtin.cap_, run_underlying hT, goInt]) (.froz (.sc _))
 ·exact h.elim
def flatL (P : Program) : List Field → Option (List (Nat × Bool))
 | [] => some []
 | f :: fs => if f.name = "_" then none else if aggT P f.type = some false then match P.underlying f.type with
  | some (.int _) => (flatL P fs).map fun l => (f.offset, true) :: l
  | some .bool => (flatL P fs).map fun l => (f.offset, false) :: l
  | _ => none
  else none
def flatF (P : Program) (T : TypeId) : Option (List (Nat × Bool)) :=
 match P.underlying T with
 | some (.struct fs) => if (P.stoodInHeld T || P.eqGuardType P.depth T) = true then none else flatL P fs.toList
 | _ => none
def eqCK (xs ys : List AV) : List (Nat × Bool) → (Bool → Prop) → Prop
 | [], K => K true
 | (o, true) :: r, K => match xs[o]?, ys[o]? with
  | some (.sc (.int k a)), some (.sc (.int k' b)) => k = k' ∧ eqCK xs ys r fun c => K ((a == b) && c)
  | _, _ => False
 | (o, false) :: r, K => match xs[o]?, ys[o]? with
  | some (.sc (.bool a)), some (.sc (.bool b)) => eqCK xs ys r fun c => K ((a == b) && c)
  | _, _ => False
theorem part_cell {G : Nat → Status} {w : World} {T : TypeId} {xs : List AV} {vs : Array Value} {o : Nat} {c : Value} (ha : aggT P T = some false) (h : PW (VRel G w) xs vs.toList) (hx : xs[o]? = some (.sc c)) : (part T vs o).run P w = .ok c w := by
 have hlt : o < vs.toList.length := by rw [← h.1]; exact (List.getElem?_eq_some_iff.1 hx).1
 have hu := List.getElem?_eq_getElem hlt
 have := (h.2 _ _ _ hx hu).sc_inv
 have e : vs[o]? = some c := by rw [← this]; simp
 simp [part, run_isAgg ha, e]
theorem eqCK_sound {xs ys : List AV} : ∀ (fs : List Field) (l : List (Nat × Bool)) (K : Bool → Prop), flatL P fs = some l → eqCK xs ys l K →
  ∃ c, K c ∧ ∀ (G : Nat → Status) (w : World) (vs us : Array Value), PW (VRel G w) xs vs.toList → PW (VRel G w) ys us.toList → (Op.eqFields 9999 vs us fs).run P w = .ok c w
 | [], l, K, hl, h => by
  simp only [flatL, Option.some.injEq] at hl
  subst hl
  exact ⟨true, h, fun G w vs us _ _ => by simp [Op.eqFields]⟩
 | f :: fs, l, K, hl, h => by
  unfold flatL at hl
  split at hl
  ·cases hl
  rename_i hname
  split at hl
  case isFalse => cases hl
  rename_i hagg
  split at hl
  ·rename_i k0 hT
   cases hr : flatL P fs with
   | none => simp [hr] at hl
   | some r =>
    simp only [hr, Option.map_some, Option.some.injEq] at hl
    subst hl
    unfold eqCK at h
    split at h
    ·rename_i k a k' b hx hy
     obtain ⟨rfl, h⟩ := h
     obtain ⟨c, hK, hc⟩ := eqCK_sound fs r _ hr h
     refine ⟨_, hK, fun G w vs us hv hu => ?_⟩
     simp only [Op.eqFields, ne_eq, hname, not_false_eq_true, if_true, Sem.run_bind, part_cell hagg hv hx, part_cell hagg hu hy, Result.andThen_ok, run_equalIn_int w 9998 f.type k k0 a b hT]
     by_cases hab : a = b
     ·subst hab; simp [hc G w vs us hv hu]
     ·simp [hab]
    ·exact h.elim
  ·rename_i hT
   cases hr : flatL P fs with
   | none => simp [hr] at hl
   | some r =>
    simp only [hr, Option.map_some, Option.some.injEq] at hl
    subst hl
    unfold eqCK at h
    split at h
    ·rename_i a b hx hy
     obtain ⟨c, hK, hc⟩ := eqCK_sound fs r _ hr h
     refine ⟨_, hK, fun G w vs us hv hu => ?_⟩
     simp only [Op.eqFields, ne_eq, hname, not_false_eq_true, if_true, Sem.run_bind, part_cell hagg hv hx, part_cell hagg hu hy, Result.andThen_ok, run_equalIn_bool' w 9998 f.type a b hT]
     by_cases hab : a = b
     ·subst hab; simp [hc G w vs us hv hu]
     ·simp [hab]
    ·exact h.elim
  ·cases hl
def evBinOp (P : Program) (op : BinOp) (T : TypeId) (x y : AV) (K : AV → Prop) : Prop :=
 match x, y with
 | .sc u, .sc v => evBin P op T u v fun r => K (.sc r)
 | .sl _ _ xs, .nil => (∃ E, P.underlying T = some (.slice E)) ∧ (xs = [] → (op = .eql ∨ op = .neq) ∧ K .ub) ∧ (xs ≠ [] → (op = .eql ∧ K (.sc (.bool false))) ∨ (op = .neq ∧ K (.sc (.bool true))))
 | .nil, .nil => (∃ E, P.underlying T = some (.slice E)) ∧ ((op = .eql ∧ K (.sc (.bool true))) ∨ (op = .neq ∧ K (.sc (.bool false))))
 | .ag xs, .ag ys => ∃ l, flatF P T = some l ∧ eqCK xs ys l fun c => (op = .eql ∧ K (.sc (.bool c))) ∨ (op = .neq ∧ K (.sc (.bool !c)))
 | .pb _ _, .sc (.pointer none) => (∃ E, P.underlying T = some (.pointer E)) ∧ op = .neq ∧ K (.sc (.bool true))
 | _, _ => False
theorem run_equal_ptr_nil {T E : TypeId} {a : Addr} (h : P.underlying T = some (.pointer E)) (w : World) : (Op.equal T (.pointer (some a)) (.pointer none)).run P w = .ok false w := by
 simp only [Op.equal, Op.maxDepth]
 show (Op.equalIn (9999 + 1) T (.pointer (some a)) (.pointer none)).run P w = _
 rw [Op.equalIn]
 simp [run_underlying h]
theorem run_equal_slice_nil {T E : TypeId} {ao : Option Addr} {n c : Nat} (h : P.underlying T = some (.slice E)) (w : World) : (Op.equal T (.slice ao n c) (.slice none 0 0)).run P w = .ok ao.isNone w := by
 simp only [Op.equal, Op.maxDepth]
 show (Op.equalIn (9999 + 1) T (.slice ao n c) (.slice none 0 0)).run P w = _
 rw [Op.equalIn]
 cases ao <;> simp [run_underlying h]
theorem evBinOp_sound {op : BinOp} {T : TypeId} {x y : AV} {K : AV → Prop} (a b : Operand) (h : evBinOp P op T x y K) :
  ∃ r, K r ∧ ∀ (d : Nat) (G : Nat → Status) (w : World) (v u : Value), Good G w → VRel G w x v → VRel G w y u → Does P d G w (do eqGuard op T a b v u; binOp op T v u : Sem Value) r := by
 unfold evBinOp at h
 split at h
 ·obtain ⟨r, hK, hr⟩ := evBin_sound a b h
  refine ⟨_, hK, fun d G w v u hg hv hu => ?_⟩
  obtain rfl := hv.sc_inv; obtain rfl := hu.sc_inv
  exact .pure hg (hr w) (.froz (.sc _))
 ·rename_i t es xs
  obtain ⟨⟨E, hT⟩, hn, hc⟩ := h
  by_cases hx : xs = []
  ·obtain ⟨hop, hK⟩ := hn hx
   refine ⟨_, hK, fun d G w v u hg hv hu => ?_⟩
   obtain ⟨ao, c, rfl, _⟩ := hv.sl_inv; obtain rfl := hu.nil_inv
   rcases hop with rfl | rfl
   ·exact .pure hg (v := .bool ao.isNone) (by simp [eqGuard, binOp, run_equal_slice_nil hT]) (.froz (.ub _))
   ·exact .pure hg (v := .bool (!ao.isNone)) (by simp [eqGuard, binOp, run_equal_slice_nil hT]) (.froz (.ub _))
  ·have hsome : ∀ {G w v}, VRel G w (.sl t es xs) v → ∃ ao c, v = .slice ao xs.length c ∧ ao.isNone = false := fun hv => by
    obtain ⟨ao, c, rfl, _, h2, _⟩ := hv.sl_inv
    refine ⟨ao, c, rfl, ?_⟩
    cases ao with
    | none => exact absurd (h2 rfl).2 hx
    | some _ => rfl
   rcases hc hx with ⟨rfl, hK⟩ | ⟨rfl, hK⟩
   ·refine ⟨_, hK, fun d G w v u hg hv hu => ?_⟩
    obtain ⟨ao, c, rfl, ha⟩ := hsome hv; obtain rfl := hu.nil_inv
    exact .pure hg (v := .bool false) (by simp [eqGuard, binOp, run_equal_slice_nil hT, ha]) (.froz (.sc _))
   ·refine ⟨_, hK, fun d G w v u hg hv hu => ?_⟩
    obtain ⟨ao, c, rfl, ha⟩ := hsome hv; obtain rfl := hu.nil_inv
    exact .pure hg (v := .bool true) (by simp [eqGuard, binOp, run_equal_slice_nil hT, ha]) (.froz (.sc _))
 ·obtain ⟨⟨E, hT⟩, ⟨rfl, hK⟩ | ⟨rfl, hK⟩⟩ := h
  ·refine ⟨_, hK, fun d G w v u hg hv hu => ?_⟩
   obtain rfl := hv.nil_inv; obtain rfl := hu.nil_inv
   exact .pure hg (v := .bool true) (by simp [eqGuard, binOp, run_equal_slice_nil hT]) (.froz (.sc _))
  ·refine ⟨_, hK, fun d G w v u hg hv hu => ?_⟩
   obtain rfl := hv.nil_inv; obtain rfl := hu.nil_inv
   exact .pure hg (v := .bool false) (by simp [eqGuard, binOp, run_equal_slice_nil hT]) (.froz (.sc _))
 ·obtain ⟨l, hl, h⟩ := h
  unfold flatF at hl
  split at hl
  case h_2 => cases hl
  rename_i fs hT
  split at hl
  ·cases hl
  rename_i hst
  simp only [Bool.or_eq_true, not_or, Bool.not_eq_true] at hst
  have hfo : P.fieldsOf T = fs := by simp [Program.fieldsOf, hT]
  obtain ⟨c, hK, hc⟩ := eqCK_sound _ _ _ hl h
  rcases hK with ⟨rfl, hK⟩ | ⟨rfl, hK⟩
  all_goals
   refine ⟨_, hK, fun d G w v u hg hv hu => ?_⟩
   obtain ⟨vs, rfl, _, hv⟩ := hv.ag_inv
   obtain ⟨us, rfl, _, hu⟩ := hu.ag_inv
   have hrun := run_equalIn_struct (P := P) w 9999 T vs us (by rw [hfo]; exact hT) hst.1
   rw [hfo, hc G w vs us hv hu] at hrun
  ·exact .pure hg (v := .bool c) (by simp only [Sem.run_bind, run_eqGuard_agg w .eql T a b vs us hst.2, Result.andThen_ok, run_eql_struct, hrun]) (.froz (.sc _))
  ·exact .pure hg (v := .bool (!c)) (by simp only [Sem.run_bind, run_eqGuard_agg w .neq T a b vs us hst.2, Result.andThen_ok, run_neq_struct, hrun]) (.froz (.sc _))
 ·obtain ⟨⟨E, hT⟩, rfl, hK⟩ := h
  refine ⟨_, hK, fun d G w v u hg hv hu => ?_⟩
  obtain ⟨b, _, rfl⟩ := hv.pb_inv; obtain rfl := hu.sc_inv
  exact .pure hg (v := .bool true) (by simp [eqGuard, binOp, run_equal_ptr_nil hT]) (.froz (.sc _))
 ·exact h.elim
theorem flat_take {es : Nat} : ∀ {xs : List AV} (n : Nat), (∀ x ∈ xs, x.cells.length = es) → flat (xs.take n) = (flat xs).take (n * es)
 | [], n, _ => by simp [flat]
 | x :: xs, 0, _ => by simp [flat]
 | x :: xs, n + 1, h => by
  have hx := h x (by simp)
  have := flat_take (xs := xs) n (fun y hy => h y (by simp [hy]))
  simp only [flat, List.take_succ_cons, List.flatMap_cons] at this ⊢
  rw [this, List.take_append, hx, show (n + 1) * es - es = n * es by rw [Nat.succ_mul]; omega, List.take_of_length_le (l := x.cells) (by rw [hx, Nat.succ_mul]; omega)]
theorem flat_drop {es : Nat} : ∀ {xs : List AV} (n : Nat), (∀ x ∈ xs, x.cells.length = es) → flat (xs.drop n) = (flat xs).drop (n * es)
 | [], n, _ => by simp [flat]
 | x :: xs, 0, _ => by simp
 | x :: xs, n + 1, h => by
  have hx := h x (by simp)
  have := flat_drop (xs := xs) n (fun y hy => h y (by simp [hy]))
  simp only [flat, List.drop_succ_cons, List.flatMap_cons] at this ⊢
  rw [this, List.drop_append, hx, show (n + 1) * es - es = n * es by rw [Nat.succ_mul]; omega, List.drop_eq_nil_of_le (as := x.cells) (by rw [hx, Nat.succ_mul]; omega), List.nil_append]
theorem FRel.part {S : Nat → Prop} {w : World} {t es : Nat} {xs : List AV} {ao : Option Addr} {n c l h m t' : Nat} (hr : FRel S w (.sl t es xs) (.slice ao n c)) (hl : l ≤ h) (hh : h ≤ xs.length) (hm : h ≤ m) (hmc : m ≤ c) (ht : t' < 2) (ht' : t' = 1 → m = h) :
  FRel S w (.sl t' es ((xs.take h).drop l)) (.slice (if m = l then ao else ao.map (·.add (l * es))) (h - l) (m - l)) := by
 have hlen : ((xs.take h).drop l).length = h - l := by rw [List.length_drop, List.length_take]; omega
 cases hr with
 | slNil _ _ a c h1 h2 h3 =>
  have : (([] : List AV).take h).drop l = [] := by simp
  rw [this]
  simp only [List.length_nil] at hh
  have : h - l = 0 := by omega
  rw [this]
  refine .slNil t' es _ _ ht (fun h1 => by have := ht' h1; omega) (fun h4 => ?_)
  have : ao = none := by
   split at h4
   ·exact h4
   ·simpa using h4
  have := h3 this; omega
 | sl _ _ _ b off c vals h1 h2 h3 hc h4 h5 h0 h6 h7 =>
  by_cases he : l = h
  ·subst he
   have : (xs.take l).drop l = [] := by simp
   rw [this, Nat.sub_self]
   refine .slNil t' es _ _ ht (fun h1 => by have := ht' h1; omega) (fun h4 => ?_)
   split at h4 <;> simp at h4
  ·have hml : m ≠ l := by omega
   rw [if_neg hml, ← hlen]
   have hwid : ∀ x ∈ (xs.take h).drop l, x.cells.length = es := fun x hx => h4 x (List.mem_of_mem_take (List.mem_of_mem_drop hx))
   have hfl : flat ((xs.take h).drop l) = ((flat xs).take (h * es)).drop (l * es) := by
    rw [flat_drop l (fun x hx => h4 x (List.mem_of_mem_take hx)), flat_take h h4]
   have hpw : PW (FRel S w) (flat ((xs.take h).drop l)) ((vals.take (h * es)).drop (l * es)) := by
    rw [hfl]; exact (PW.take ⟨h5, h7⟩ _).drop _
   simp only [Option.map_some, Addr.add_none]
   refine .sl t' es _ b (off + l * es) (m - l) _ ht h2 (fun h1 => by rw [hlen]; have := ht' h1; omega) (by rw [hlen]; omega) hwid hpw.1 (fun u hu => h0 u (List.mem_of_mem_take (List.mem_of_mem_drop hu))) (fun j u hj => ?_) hpw.2
   rw [List.getElem?_drop, List.getElem?_take] at hj
   split at hj
   ·rw [Nat.add_assoc]; exact h6 _ _ hj
   ·cases hj
def evBound (x : Option AV) (dflt : Nat) (K : Nat → Prop) : Prop :=
 match x with
 | none => K dflt
 | some (.sc (.int _ n)) => 0 ≤ n ∧ K n.toNat
 | _ => False
def evSlice (P : Program) (T : TypeId) (x : AV) (lo hi mx : Option AV) (K : AV → Prop) : Prop :=
  match P.underlying T, x with
  | some (.slice E), .sl t es xs => (∃ q, tinfo P E = some q ∧ q.1 = es) ∧ if t < 2 then
      (match mx with
       | none => evBound hi xs.length fun h => evBound lo 0 fun l => l ≤ h ∧ h ≤ xs.length ∧ K (.sl 0 es ((xs.take h).drop l))
       | some m => hi.isSome = true ∧ evBound (some m) 0 fun m => evBound hi 0 fun h => evBound lo 0 fun l => m = h ∧ l ≤ h ∧ h ≤ xs.length ∧ K (.sl 1 es ((xs.take h).drop l)))
      else mx = none ∧ if (hi.isNone && lo.isSome) = true then evBound lo 0 fun l => l < xs.length ∧ K (.tl t es xs l)
        else evBound hi xs.length fun h => evBound lo 0 fun l => l = 0 ∧ h ≤ xs.length ∧ K (.sl t es (xs.take h))
  | some (.slice E), .tl t es xs i => (∃ q, tinfo P E = some q ∧ q.1 = es) ∧ mx = none ∧ hi = none ∧ evBound lo 0 fun l => i + l ≤ xs.length ∧ K (.tl t es xs (i + l))
  | some (.slice E), .nil => mx = none ∧ (∃ q, tinfo P E = some q) ∧ evBound hi 0 fun h => evBound lo 0 fun l => l = 0 ∧ h = 0 ∧ K .nil
  | some .string, .sc (.string s) => mx = none ∧ evBound hi s.size fun h => evBound lo 0 fun l => l ≤ h ∧ h ≤ s.size ∧ K (.sc (.string (s.extract l h)))
  | _, _ => False
theorem evBound_spec {x : Option AV} {dflt : Nat} {K : Nat → Prop} (h : evBound x dflt K) : ∃ n, K n ∧ (x = none → n = dflt) ∧ ∀ a, x = some a → ∃ k, a = .sc (.int k n) := by
 unfold evBound at h
 split at h
 ·exact ⟨_, h, fun _ => rfl, (fun _ h => by cases h)⟩
 ·rename_i k n
  refine ⟨n.toNat, h.2, (fun h => by cases h), fun a ha => ?_⟩
  cases ha
  exact ⟨k, by rw [Int.toNat_of_nonneg h.1]⟩
 ·exact h.elim
def ORel (G : Nat → Status) (w : World) (x : Option AV) (v : Option Value) : Prop :=
 match x, v with
 | none, none => True
 | some x, some v => VRel G w x v
 | _, _ => False
theorem ORel.bound {G : Nat → Status} {w : World} {x : Option AV} {v : Option Value} {n dflt : Nat} (h : ORel G w x v) (h0 : x = none → n = dflt) (h1 : ∀ a, x = some a → ∃ k, a = .sc (.int k n)) :
  (x = none ∧ v = none ∧ n = dflt) ∨ (∃ k, v = some (.int k (n : Int))) := by
 cases x with
 | none => cases v with
  | none => exact .inl ⟨rfl, rfl, h0 rfl⟩
  | some v => exact h.elim
 | some x => cases v with
  | none => exact h.elim
  | some v =>
   obtain ⟨k, rfl⟩ := h1 x rfl
   have := VRel.sc_inv h
   subst this; exact .inr ⟨k, rfl⟩
theorem evSlice_sound {T : TypeId} {x : AV} {lo hi mx : Option AV} {K : AV → Prop} (h : evSlice P T x lo hi mx K) :
  ∃ r, K r ∧ ∀ (d : Nat) (G : Nat → Status) (w : World) (v : Value) (vl vh vm : Option Value), Good G w → VRel G w x v → ORel G w lo vl → ORel G w hi vh → ORel G w mx vm → Does P d G w (Instr.sliceAt T v vl vh vm) r := by
 unfold evSlice at h
 split at h
 ·rename_i E t es xs hT
  obtain ⟨⟨⟨sz, by_, z⟩, hq, rfl⟩, h⟩ := h
  split at h
  ·rename_i ht
   split at h
   ·obtain ⟨nh, h, h1, h2⟩ := evBound_spec h
    obtain ⟨nl, h, h3, h4⟩ := evBound_spec h
    obtain ⟨h5, h6, hK⟩ := h
    refine ⟨_, hK, fun d G w v vl vh vm hg hv hl hh hm => ?_⟩
    have hf := hv.fzLeaf (by simpa [fzLeaf] using ht)
    obtain ⟨ao, c, rfl, _, _, hc, _⟩ := hv.sl_inv
    have hvm : vm = none := by cases vm with | none => rfl | some _ => exact hm.elim
    subst hvm
    refine .pure hg (v := .slice (if c = nl then ao else ao.map (·.add (nl * sz))) (nh - nl) (c - nl)) ?_ (.froz (hf.part h5 h6 (by omega) (Nat.le_refl _) (by omega) (by omega)))
    rcases hl.bound h3 h4 with ⟨_, rfl, rfl⟩ | ⟨k, rfl⟩ <;> rcases hh.bound h1 h2 with ⟨_, rfl, rfl⟩ | ⟨k', rfl⟩
    ·simp [Instr.sliceAt, run_underlying hT, Instr.slice, Instr.sliceBounds, run_sizeOf hq]
    ·simp [Instr.sliceAt, run_underlying hT, Instr.slice, Instr.sliceBounds, Instr.sliceBound, asIntOf, run_sizeOf hq, show nh ≤ c by omega]
    ·simp [Instr.sliceAt, run_underlying hT, Instr.slice, Instr.sliceBounds, Instr.sliceBound, asIntOf, run_sizeOf hq, h5]
    ·simp [Instr.sliceAt, run_underlying hT, Instr.slice, Instr.sliceBounds, Instr.sliceBound, asIntOf, run_sizeOf hq, show nh ≤ c by omega, h5]
   ·rename_i m
    obtain ⟨hsome, h⟩ := h
    obtain ⟨nm, h, _, hm2⟩ := evBound_spec h
    obtain ⟨nh, h, h1, h2⟩ := evBound_spec h
    obtain ⟨nl, h, h3, h4⟩ := evBound_spec h
    obtain ⟨rfl, h5, h6, hK⟩ := h
    refine ⟨_, hK, fun d G w v vl vh vm hg hv hl hh hm => ?_⟩
    have hf := hv.fzLeaf (by simpa [fzLeaf] using ht)
    obtain ⟨ao, c, rfl, _, _, hc, _⟩ := hv.sl_inv
    refine .pure hg (v := .slice (if nm = nl then ao else ao.map (·.add (nl * sz))) (nm - nl) (nm - nl)) ?_ (.froz (hf.part h5 h6 (Nat.le_refl _) (by omega) (by omega) (fun _ => rfl)))
    rcases hm.bound (dflt := 0) (fun h => by cases h) hm2 with ⟨h, _⟩ | ⟨k'', rfl⟩
    ·cases h
    rcases hh.bound h1 h2 with ⟨h, _⟩ | ⟨k', rfl⟩
    ·rw [h] at hsome; cases hsome
    rcases hl.bound h3 h4 with ⟨_, rfl, rfl⟩ | ⟨k, rfl⟩
    ·simp [Instr.sliceAt, run_underlying hT, Instr.slice, Instr.sliceBounds, Instr.sliceBound, asIntOf, run_sizeOf hq, show nm ≤ c by omega]
    ·simp [Instr.sliceAt, run_underlying hT, Instr.slice, Instr.sliceBounds, Instr.sliceBound, asIntOf, run_sizeOf hq, show nm ≤ c by omega, h5]
  ·rename_i ht
   obtain ⟨rfl, h⟩ := h
   split at h
   ·rename_i hb
    obtain ⟨nl, h, h3, h4⟩ := evBound_spec h
    obtain ⟨hlt, hK⟩ := h
    refine ⟨_, hK, fun d G w v vl vh vm hg hv hl hh hm => ?_⟩
    simp only [Bool.and_eq_true, Option.isNone_iff_eq_none] at hb
    obtain ⟨rfl, hsome⟩ := hb
    have hvm : vm = none := by cases vm with | none => rfl | some _ => exact hm.elim
    have hvh : vh = none := by cases vh with | none => rfl | some _ => exact hh.elim
    subst hvm; subst hvh
    cases hv with
    | froz h => exfalso; cases h <;> omega
    | own _ _ _ _ e vals g1 g2 g3 g4 g0 g5 =>
     rcases g2.2 with ⟨rfl, hn⟩ | ⟨g, cap, cur, rfl, hg0, hh0, hn, hcm, hcs, htk⟩
     ·omega
     ·have hown : VRel G w (.sl t sz xs) (.slice (some ⟨g, 0, none⟩) xs.length cap) := .own t sz xs _ e vals g1 g2 g3 g4 g0 g5
      refine .pure hg (v := .slice (some ⟨g, 0 + nl * sz, none⟩) (xs.length - nl) (cap - nl)) ?_ (.tl t sz xs nl g 0 _ cap hown (by omega) (.inl rfl))
      have hadd : (Addr.mk g 0 none).add (nl * sz) = ⟨g, 0 + nl * sz, none⟩ := Addr.add_none g 0 _
      rcases hl.bound h3 h4 with ⟨rfl, _, _⟩ | ⟨k, rfl⟩
      ·cases hsome
      ·simp [Instr.sliceAt, run_underlying hT, Instr.slice, Instr.sliceBounds, Instr.sliceBound, asIntOf, run_sizeOf hq, hadd, show nl ≤ xs.length by omega, show ¬ cap = nl by omega]
   obtain ⟨nh, h, h1, h2⟩ := evBound_spec h
   obtain ⟨nl, h, h3, h4⟩ := evBound_spec h
   obtain ⟨rfl, h6, hK⟩ := h
   refine ⟨_, hK, fun d G w v vl vh vm hg hv hl hh hm => ?_⟩
   have hvm : vm = none := by cases vm with | none => rfl | some _ => exact hm.elim
   subst hvm
   have hlen : (xs.take nh).length = nh := by rw [List.length_take]; omega
   cases hv with
   | froz h => exfalso; cases h <;> omega
   | own _ _ _ _ e vals g1 g2 g3 g4 g0 g5 =>
    have hw' : ∀ x ∈ xs.take nh, x.cells.length = sz := fun x hx => g4 x (List.mem_of_mem_take hx)
    have hp' : PW (FRel (Stable G) w) (flat (xs.take nh)) (vals.take (nh * sz)) := by rw [flat_take nh g4]; exact g5.take _
    have h1' : One (vals.take (nh * sz)) := fun u hu => g0 u (List.mem_of_mem_take hu)
    have hvl : (vals.take (nh * sz)).length = nh * sz := by
     rw [← hp'.1, flat_length hw', hlen]
    rcases g2.2 with ⟨rfl, hn⟩ | ⟨g, cap, cur, rfl, hg0, hh0, hn, hcm, hcs, htk⟩
    ·have hz : nh = 0 := by omega
     subst hz
     have hown : VRel G w (.sl t sz (xs.take 0)) (.slice none 0 0) := .own t sz _ _ e [] (by omega) (World.ownsRow_nil _ _ _ _) (fun b hb => by simp [Value.ownBlock] at hb) (by simp) (fun _ h => by simp at h) (by simpa [flat] using PW.nil _)
     refine .pure hg (v := .slice none 0 0) ?_ hown
     rcases hl.bound h3 h4 with ⟨_, rfl, _⟩ | ⟨k, rfl⟩ <;> rcases hh.bound h1 h2 with ⟨_, rfl, he⟩ | ⟨k', rfl⟩ <;>
      simp [Instr.sliceAt, run_underlying hT, Instr.slice, Instr.sliceBounds, Instr.sliceBound, asIntOf, run_sizeOf hq]
    ·refine .pure hg (v := .slice (some ⟨g, 0, none⟩) nh cap) ?_ (.own t sz _ _ e (vals.take (nh * sz)) (by omega) ⟨by rw [hvl, hlen], .inr ⟨g, cap, cur, by rw [hlen], Nat.zero_le _, hh0, by rw [hlen]; omega, hcm, hcs, by rw [hlen, ← htk, List.take_take]; congr 1; exact (Nat.min_eq_left (Nat.mul_le_mul_right _ h6)).symm⟩⟩ (fun b hb => by simp only [Value.ownBlock, Option.some.injEq] at hb; subst hb; exact g3 g rfl) hw' h1' hp')
     have hadd : (Addr.mk g 0 none).add 0 = ⟨g, 0, none⟩ := Addr.add_none g 0 0
     rcases hl.bound h3 h4 with ⟨_, rfl, _⟩ | ⟨k, rfl⟩ <;> rcases hh.bound h1 h2 with ⟨_, rfl, he⟩ | ⟨k', rfl⟩
     ·simp [Instr.sliceAt, run_underlying hT, Instr.slice, Instr.sliceBounds, run_sizeOf hq, he, hadd]
     ·simp [Instr.sliceAt, run_underlying hT, Instr.slice, Instr.sliceBounds, Instr.sliceBound, asIntOf, run_sizeOf hq, hadd, show nh ≤ cap by omega]
     ·simp [Instr.sliceAt, run_underlying hT, Instr.slice, Instr.sliceBounds, Instr.sliceBound, asIntOf, run_sizeOf hq, he, hadd]
     ·simp [Instr.sliceAt, run_underlying hT, Instr.slice, Instr.sliceBounds, Instr.sliceBound, asIntOf, run_sizeOf hq, hadd, show nh ≤ cap by omega]
 ·rename_i E t es xs i hT
  obtain ⟨⟨⟨sz, by_, z⟩, hq, rfl⟩, rfl, rfl, h⟩ := h
  obtain ⟨nl, h, h3, h4⟩ := evBound_spec h
  obtain ⟨hle, hK⟩ := h
  refine ⟨_, hK, fun d G w v vl vh vm hg hv hl hh hm => ?_⟩
  have hvm : vm = none := by cases vm with | none => rfl | some _ => exact hm.elim
  have hvh : vh = none := by cases vh with | none => rfl | some _ => exact hh.elim
  subst hvm; subst hvh
  obtain ⟨b, off, off', c, hbase, h5, h6, hc, rfl⟩ := hv.tl_inv
  have h6 : off' = off + i * sz ∨ c ≤ i := h6
  have key : ∃ off2, (if c - i = nl then some (Addr.mk b off' none) else (some (Addr.mk b off' none)).map (·.add (nl * sz))) = some ⟨b, off2, none⟩ ∧ (off2 = off + (i + nl) * sz ∨ c ≤ i + nl) := by
   by_cases hcn : c - i = nl
   ·exact ⟨off', by rw [if_pos hcn], .inr (by omega)⟩
   ·refine ⟨off' + nl * sz, by rw [if_neg hcn]; simp [Addr.add_none], ?_⟩
    rcases h6 with h6 | h6
    ·exact .inl (by rw [h6, Nat.add_mul]; omega)
    ·exact .inr (by omega)
  obtain ⟨off2, k1, k2⟩ := key
  have hrel := VRel.tl t sz xs (i + nl) b off off2 c hbase hle k2
  refine .pure hg (v := .slice (some ⟨b, off2, none⟩) (xs.length - (i + nl)) (c - (i + nl))) ?_ hrel
  have e1 : xs.length - i - nl = xs.length - (i + nl) := by omega
  have e2 : c - i - nl = c - (i + nl) := by omega
  rcases hl.bound h3 h4 with ⟨_, rfl, rfl⟩ | ⟨k, rfl⟩
  ·have k1' := k1
   simp [Instr.sliceAt, run_underlying hT, Instr.slice, Instr.sliceBounds, run_sizeOf hq, ← k1]
  ·simp [Instr.sliceAt, run_underlying hT, Instr.slice, Instr.sliceBounds, Instr.sliceBound, asIntOf, run_sizeOf hq, show nl ≤ xs.length - i by omega, e1, e2, ← k1]
 ·rename_i E hT
  obtain ⟨rfl, ⟨⟨sz, by_, z⟩, hq⟩, h⟩ := h
  obtain ⟨nh, h, h1, h2⟩ := evBound_spec h
  obtain ⟨nl, h, h3, h4⟩ := evBound_spec h
  obtain ⟨rfl, rfl, hK⟩ := h
  refine ⟨_, hK, fun d G w v vl vh vm hg hv hl hh hm => ?_⟩
  obtain rfl := hv.nil_inv
  have hvm : vm = none := by cases vm with | none => rfl | some _ => exact hm.elim
  subst hvm
  refine .pure hg (v := .slice none 0 0) ?_ (.froz .nil)
  rcases hl.bound h3 h4 with ⟨_, rfl, _⟩ | ⟨k, rfl⟩ <;> rcases hh.bound h1 h2 with ⟨_, rfl, he⟩ | ⟨k', rfl⟩ <;>
   simp [Instr.sliceAt, run_underlying hT, Instr.slice, Instr.sliceBounds, Instr.sliceBound, asIntOf, run_sizeOf hq]
 ·rename_i s hT
  obtain ⟨rfl, h⟩ := h
  obtain ⟨nh, h, h1, h2⟩ := evBound_spec h
  obtain ⟨nl, h, h3, h4⟩ := evBound_spec h
  obtain ⟨h5, h6, hK⟩ := h
  refine ⟨_, hK, fun d G w v vl vh vm hg hv hl hh hm => ?_⟩
  obtain rfl := hv.sc_inv
  have hvm : vm = none := by cases vm with | none => rfl | some _ => exact hm.elim
  subst hvm
  refine .pure hg (v := .string (s.extract nl nh)) ?_ (.froz (.sc _))
  rcases hl.bound h3 h4 with ⟨_, rfl, rfl⟩ | ⟨k, rfl⟩ <;> rcases hh.bound h1 h2 with ⟨_, rfl, rfl⟩ | ⟨k', rfl⟩
  ·simp [Instr.sliceAt, run_underlying hT, Instr.slice, Instr.sliceBounds]
  ·simp [Instr.sliceAt, run_underlying hT, Instr.slice, Instr.sliceBounds, Instr.sliceBound, asIntOf, h6]
  ·simp [Instr.sliceAt, run_underlying hT, Instr.slice, Instr.sliceBounds, Instr.sliceBound, asIntOf, h5]
  ·simp [Instr.sliceAt, run_underlying hT, Instr.slice, Instr.sliceBounds, Instr.sliceBound, asIntOf, h6, h5]
 ·exact h.elim
end ops
section ops
variable {P : Program}
theorem run_append_zero {T ty E : TypeId} {sz by_ : Nat} {z : Option Value} (hT : P.underlying T = some (.slice E)) (hq : tinfo P E = some (sz, by_, z)) {ao ax : Option Addr} {n c cx : Nat} (h : n ≤ c) (w : World) :
  (Builtin.append_ #[T, T] ty #[.slice ao n c, .slice ax 0 cx]).run P w = .ok (.slice ao n c) w := by
 have hf : (Builtin.firstCells sz 0 (.slice ax 0 cx)).run P w = .ok #[] w := by
  cases ax with
  | none => simp [Builtin.firstCells]
  | some a =>
   have := run_loadCells_list (P := P) w a [] (by simp)
   simpa [Builtin.firstCells] using this
 cases ao with
 | none => simp [Builtin.append_, run_underlying hT, run_sizeOf hq, Builtin.lenOf, h, hf]
 | some a => simp [Builtin.append_, run_underlying hT, run_sizeOf hq, Builtin.lenOf, h, hf, storeCells]
theorem run_append_room' {w : World} (t ty e e' : TypeId) {sz by_ : Nat} {z : Option Value} (ht : P.underlying t = some (.slice e)) (hi : tinfo P e = some (sz, by_, z))
  (g sLen sCap : Nat) (cur : Array Value) (hg : w.heap[g]? = some (.cells cur e' (0, 0)))
  (a : Addr) (m c : Nat) (news : List Value) (hl : news.length = m * sz) (hnews : ∀ j u, news[j]? = some u → w.cell? (a.add j) = some u) (h1 : ∀ u ∈ news, u.oneCell' = true)
  (hroom : sLen + m ≤ sCap) (hfit : sLen * sz + news.length ≤ cur.size) :
  (Builtin.append_ #[t, t] ty #[.slice (some ⟨g, 0, none⟩) sLen sCap, .slice (some a) m c]).run P w =
   .ok (.slice (some ⟨g, 0, none⟩) (sLen + m) sCap) (w.setRow g (cur.toList.take (sLen * sz) ++ news ++ cur.toList.drop (sLen * sz + news.length)).toArray) := by
 have hf := run_firstCells_some (P := P) w sz m a m c news hl hnews
 have hst := run_storeCells_at P g (sLen * sz) e' news 0 cur w hg (by simpa using hfit) h1
 simp only [Nat.add_zero] at hst
 simp [Builtin.append_, run_underlying ht, run_sizeOf hi, Builtin.lenOf, hroom, hf, Addr.add_none, hst]
theorem VRel.news {G : Nat → Status} {w : World} {t es : Nat} {ys : List AV} {v : Value} (h : VRel G w (.sl t es ys) v) :
  (ys = [] ∧ ∃ ax c, v = .slice ax 0 c) ∨ (∃ a c news, v = .slice (some a) ys.length c ∧ news.length = ys.length * es ∧ (∀ j u, news[j]? = some u → w.cell? (a.add j) = some u) ∧ One news ∧ (∀ x ∈ ys, x.cells.length = es) ∧ PW (FRel (Stable G) w) (flat ys) news) := by
 obtain ⟨ao, c, rfl, _, _, _, h | ⟨b, off, vals, rfl, _, h1, h2, h3, h4⟩⟩ := h.sl_inv
 ·subst h; exact .inl ⟨rfl, ao, c, rfl⟩
 ·exact .inr ⟨_, c, vals, rfl, by rw [← h4.1, flat_length h1], fun j u hj => by rw [Addr.add_none]; exact h3 j u hj, h2, h1, h4⟩
def roomFor (n by_ : Nat) : Prop := n * by_ ≤ 140737488355328 ∧ n ≤ 9223372036854775807
def evAppendNew (P : Program) (d : Nat) (T T' : TypeId) (x y : AV) (K : AV → Prop) : Prop :=
 match P.underlying T with
 | some (.slice E) => T' = T ∧ ∃ q, tinfo P E = some q ∧ 0 < q.1 ∧ (∃ z, q.2.2 = some z ∧ z.cells.size = q.1) ∧
  match x, y with
  | .nil, .nil => K .nil
  | .sl t es xs, .nil => K (.sl t es xs)
  | .nil, .sl _ es ys => es = q.1 ∧ roomFor ys.length q.2.1 ∧ K (.sl (64 * (d + 1)) es ys)
  | .sl t es xs, .sl _ es' ys => t = 1 ∧ es = q.1 ∧ es' = q.1 ∧ ys ≠ [] ∧ roomFor (xs.length + ys.length) q.2.1 ∧ K (.sl (64 * (d + 1)) es (xs ++ ys))
  | _, _ => False
 | _ => False
theorem own_new {G : Nat → Status} {w w' : World} {d es n : Nat} {e : TypeId} {xs : List AV} {v : Value} {vals : List Value} (hg : Good G w) (hf : Fresh d G)
  (ho : w'.ownsRow w.heap.size e es v n vals) (hn : n = xs.length) (hgr : w.grownBy w' none) (hw : ∀ x ∈ xs, x.cells.length = es) (h1 : One vals) (hp : PW (FRel (Stable G) w) (flat xs) vals) :
  ∃ G', VRel G' w' (.sl (64 * (d + 1)) es xs) v ∧ Ext G w G' w' ∧ Good G' w' ∧ NewTags d G G' := by
 subst hn
 have hE : Ext G w G w' := ⟨hgr.os, hgr.tape, hgr.output, hgr.size, fun _ _ => rfl, fun b hb => hgr.block b hb (by simp)⟩
 have hbase : ∀ {B}, w'.ownsRow B e es v xs.length vals → w'.ownsRow 0 e es v xs.length vals := fun h => ⟨h.1, h.2.imp id fun ⟨g, cap, cur, a, _, r⟩ => ⟨g, cap, cur, a, Nat.zero_le _, r⟩⟩
 have hp' : PW (FRel (Stable G) w') (flat xs) vals := hp.mono fun x y _ hr => hr.mono (fun _ h => h) (fun b hb => hE.keep b (hg.lt b (by unfold Stable at hb; rw [hb]; simp)))
 rcases ho.2 with ⟨hv, hn⟩ | ⟨g, cap, cur, hv, hgb, hh, r⟩
 ·refine ⟨G, .own _ es xs v e vals (by omega) (hbase ho) (fun b hb => by subst hv; simp [Value.ownBlock] at hb) hw h1 hp', hE, ⟨fun b hb => Nat.lt_of_lt_of_le (hg.lt b hb) hgr.size, hg.tags, hg.boxes⟩, .refl d G⟩
 ·have hlt : g < w'.heap.size := by
   rcases Nat.lt_or_ge g w'.heap.size with h | h
   ·exact h
   ·simp [Array.getElem?_eq_none h] at hh
  refine ⟨updG G g (.tag (64 * (d + 1))), .own _ es xs v e vals (by omega) (hbase ho) (fun b hb => ?_) hw h1 (hp'.mono fun x y _ hr => hr.mono (fun b hb => ?_) (fun _ _ => rfl)), ?_, hg.upd _ _ hgb hlt hgr.size (fun t ht b hb => ?_) (fun i h => by cases h), .upd hf.own⟩
  ·subst hv; simp only [Value.ownBlock, Option.some.injEq] at hb; simp [updG, ← hb]
  ·have := hg.lt b (by unfold Stable at hb; rw [hb]; simp)
   unfold Stable at *; simp only [updG]; rw [if_neg (by omega)]; exact hb
  ·exact ⟨hgr.os, hgr.tape, hgr.output, hgr.size, fun b hb => by simp only [updG]; rw [if_neg (by omega)], fun b hb => hgr.block b hb (by simp)⟩
  ·cases ht; exact hf.ne hb
theorem evAppendNew_sound {d : Nat} {T T' : TypeId} {x y : AV} {K : AV → Prop} (h : evAppendNew P d T T' x y K) :
  ∃ r, K r ∧ ∀ (ty : TypeId) (G : Nat → Status) (w : World) (v u : Value), Good G w → Fresh d G → VRel G w x v → VRel G w y u → Does P d G w (Builtin.append_ #[T, T'] ty #[v, u]) r := by
 unfold evAppendNew at h
 split at h
 ·rename_i E hT
  obtain ⟨rfl, ⟨sz, by_, z⟩, hq, h0, ⟨z', hz, hzs⟩, h⟩ := h
  simp only at h0 hz hzs h
  subst hz
  obtain ⟨i, hi, hsz, hby, hzz⟩ := tinfo_some hq
  split at h
  ·refine ⟨_, h, fun ty G w v u hg hf hv hu => ?_⟩
   obtain rfl := hv.nil_inv; obtain rfl := hu.nil_inv
   exact .pure hg (run_append_zero hT hq (Nat.le_refl _) w) (.froz .nil)
  ·refine ⟨_, h, fun ty G w v u hg hf hv hu => ?_⟩
   obtain ⟨ao, c, hve, _, _, hc, _⟩ := hv.sl_inv; obtain rfl := hu.nil_inv
   subst hve
   exact .pure hg (run_append_zero hT hq hc w) hv
  ·rename_i t es ys
   obtain ⟨he1, hb, hK⟩ := h
   have he1 := he1.symm; subst he1
   refine ⟨_, hK, fun ty G w v u hg hf hv hu => ?_⟩
   obtain rfl := hv.nil_inv
   rcases hu.news with ⟨rfl, ax, c, rfl⟩ | ⟨a, c, news, rfl, h1, h2, h3, h4, h5⟩
   ·exact .pure hg (run_append_zero hT hq (Nat.le_refl _) w) (.own _ _ _ _ E [] (by omega) (World.ownsRow_nil _ _ _ _) (fun b hb => by simp [Value.ownBlock] at hb) (by simp) (fun _ h => by simp at h) (.nil _))
   ·obtain ⟨v', w', hrun, ho, hgr, _⟩ := run_append_own (P := P) w w.heap.size T' ty E i z' sz by_ hT hi hzz hsz hby hzs h0 (.slice none 0 0) 0 [] (World.ownsRow_nil w _ E sz) a ys.length c news h1 h2 h3 (by simp only [maxLen, Nat.zero_add]; exact hb.2) (by simpa using hb.1) (Nat.le_refl _)
    simp only [Nat.zero_add, List.nil_append] at ho
    obtain ⟨G', r1, r2, r3, r4⟩ := own_new (d := d) hg hf ho rfl hgr h4 h3 h5
    exact ⟨v', w', G', hrun, r1, r2, r3, r4⟩
  ·rename_i t es xs t' es' ys
   obtain ⟨rfl, he1, he2, hne, hb, hK⟩ := h
   have he1 := he1.symm; have he2 := he2.symm; subst he1; subst he2
   refine ⟨_, hK, fun ty G w v u hg hf hv hu => ?_⟩
   have hpos : 0 < ys.length := by cases ys with | nil => exact absurd rfl hne | cons _ _ => simp
   rcases hu.news with ⟨rfl, _⟩ | ⟨a, c, news, rfl, h1, h2, h3, h4, h5⟩
   ·exact absurd rfl hne
   ·obtain ⟨ao, c0, rfl, hfull, hnone, hc, hx⟩ := hv.sl_inv
    have hfull := hfull rfl
    subst hfull
    have key : ∃ v' w' olds, (Builtin.append_ #[T', T'] ty #[.slice ao xs.length xs.length, .slice (some a) ys.length c]).run P w = .ok v' w' ∧ w'.ownsRow w.heap.size E sz v' (xs.length + ys.length) (olds ++ news) ∧ w.grownBy w' none ∧ One olds ∧ (∀ x ∈ xs, x.cells.length = sz) ∧ PW (FRel (Stable G) w) (flat xs) olds := by
     rcases hx with rfl | ⟨b, off, vals, rfl, _, g1, g2, g3, g4⟩
     ·cases ao with
      | none =>
       obtain ⟨v', w', hrun, ho, hgr, _⟩ := run_append_own (P := P) w w.heap.size T' ty E i z' sz by_ hT hi hzz hsz hby hzs h0 (.slice none 0 0) 0 [] (World.ownsRow_nil w _ E sz) a ys.length c news h1 h2 h3 (by simp only [maxLen, Nat.zero_add]; have := hb.2; simpa using this) (by simpa using hb.1) (Nat.le_refl _)
       exact ⟨v', w', [], by simpa using hrun, by simpa using ho, hgr, fun _ h => by simp at h, by simp, .nil _⟩
      | some b =>
       obtain ⟨v', w', hrun, ho, hgr⟩ := run_append_arg_grows (P := P) w T' ty E i z' sz by_ hT hi hzz hsz hby hzs h0 b 0 0 [] (by simp) (by simp) a ys.length c news h1 h2 (by omega) (by simp only [maxLen, Nat.zero_add]; have := hb.2; simpa using this) (by simpa using hb.1)
       exact ⟨v', w', [], by simpa using hrun, by simpa using ho, hgr, fun _ h => by simp at h, by simp, .nil _⟩
     ·obtain ⟨v', w', hrun, ho, hgr⟩ := run_append_arg_grows (P := P) w T' ty E i z' sz by_ hT hi hzz hsz hby hzs h0 ⟨b, off, none⟩ xs.length xs.length vals (by rw [← g4.1, flat_length g1]) (fun j u hj => by rw [Addr.add_none]; exact g3 j u hj) a ys.length c news h1 h2 (by omega) (by simp only [maxLen]; exact hb.2) hb.1
      exact ⟨v', w', vals, hrun, ho, hgr, g2, g1, g4⟩
    obtain ⟨v', w', olds, hrun, ho, hgr, k1, k2, k3⟩ := key
    have hfa : flat (xs ++ ys) = flat xs ++ flat ys := by simp [flat]
    obtain ⟨G', r1, r2, r3, r4⟩ := own_new (d := d) (xs := xs ++ ys) hg hf ho (by simp) hgr (fun x hx => by exact (List.mem_append.1 hx).elim (k2 x) (h4 x)) (fun u hu => by exact (List.mem_append.1 hu).elim (k1 u) (h3 u)) (by rw [hfa]; exact k3.append h5)
    exact ⟨v', w', G', hrun, r1, r2, r3, r4⟩
  ·exact h.elim
 ·exact h.elim
def evAppendOwn (P : Program) (T T' : TypeId) (x y : AV) (K : Nat → AV → Prop) : Prop :=
 match P.underlying T with
 | some (.slice E) => T' = T ∧ ∃ q, tinfo P E = some q ∧ 0 < q.1 ∧ (∃ z, q.2.2 = some z ∧ z.cells.size = q.1) ∧
  match x, y with
  | .sl t es xs, .sl t' es' ys => 2 ≤ t ∧ t' ≠ t ∧ es = q.1 ∧ es' = q.1 ∧ roomFor (xs.length + ys.length) q.2.1 ∧ K t (.sl t es (xs ++ ys))
  | _, _ => False
 | _ => False
structure ExtBut (t : Nat) (G : Nat → Status) (w : World) (G' : Nat → Status) (w' : World) : Prop where
 os : w'.os = w.os
 tape : w'.tape = w.tape
 output : w'.output = w.output
 size : w.heap.size ≤ w'.heap.size
 stat : ∀ b, b < w.heap.size → G b ≠ .tag t → G' b = G b
 keep : ∀ b, b < w.heap.size → G b ≠ .tag t → w'.heap[b]? = w.heap[b]?
 old : ∀ b, G b = .tag t → G' b = .tag t ∨ G' b = .junk
 new : ∀ b, w.heap.size ≤ b → G' b = .tag t ∨ G' b = .junk
theorem VRel.but {t : Nat} {G G' : Nat → Status} {w w' : World} {x : AV} {v : Value} (h : VRel G w x v) (hg : Good G w) (he : ExtBut t G w G' w') : VRel G' w' (x.kill t) v := by
 refine (h.kill (t0 := t)).mono (fun b hb => ?_) (fun b hb _ => ?_)
 ·unfold killG at hb ⊢
  split at hb
  ·exact absurd rfl hb
  ·rename_i hn; rw [if_neg hn]; exact he.stat b (hg.lt b hb) hn
 ·unfold killG at hb
  split at hb
  ·exact absurd rfl hb
  ·rename_i hn; exact he.keep b (hg.lt b hb) hn
theorem own_grows {t sz : Nat} {G : Nat → Status} {w w' : World} {E : TypeId} {xs ys : List AV} {olds news : List Value} {v' : Value} (hg : Good G w) (ht2 : 2 ≤ t) (o3 : ∀ x ∈ xs, x.cells.length = sz) (h3 : One news) (h4 : ∀ x ∈ ys, x.cells.length = sz)
  (h5 : PW (FRel (Stable G) w) (flat ys) news) (ho : w'.ownsRow w.heap.size E sz v' (xs.length + ys.length) (olds ++ news)) (hgr : w.grownBy w' none) (k1 : One olds) (k3 : PW (FRel (Stable G) w) (flat xs) olds) :
  ∃ G', VRel G' w' (.sl t sz (xs ++ ys)) v' ∧ ExtBut t G w G' w' ∧ Good G' w' := by
 have hfa : flat (xs ++ ys) = flat xs ++ flat ys := by simp [flat]
 have hEk : ∀ b, b < w.heap.size → w'.heap[b]? = w.heap[b]? := fun b hb => hgr.block b hb (by simp)
 have hp' : PW (FRel (Stable (killG t G)) w') (flat (xs ++ ys)) (olds ++ news) := by
  rw [hfa]
  exact (k3.append h5).mono fun x y _ hr => hr.mono (fun b hb => killG_stable.2 hb) (fun b hb => hEk b (hg.lt b (by unfold Stable at hb; rw [hb]; simp)))
 have hw : ∀ x ∈ xs ++ ys, x.cells.length = sz := fun x hx => by exact (List.mem_append.1 hx).elim (o3 x) (h4 x)
 have h1' : One (olds ++ news) := fun u hu => by exact (List.mem_append.1 hu).elim (k1 u) (h3 u)
 have hlen : xs.length + ys.length = (xs ++ ys).length := by simp
 rw [hlen] at ho
 have hgk : Good (killG t G) w := ⟨fun b hb => hg.lt b fun h => hb (by simp [killG, h]), fun b b' t' e1 e2 => by
   unfold killG at e1 e2; split at e1 <;> first | (cases e1; done) | (split at e2 <;> first | (cases e2; done) | exact hg.tags b b' t' e1 e2), fun b b' t' e1 e2 => by
   unfold killG at e1 e2; split at e1 <;> first | (cases e1; done) | (split at e2 <;> first | (cases e2; done) | exact hg.boxes b b' t' e1 e2)⟩
 have hno : ∀ b, killG t G b ≠ .tag t := fun b h => by unfold killG at h; split at h <;> first | (cases h; done) | exact absurd h (by assumption)
 have hjunk : ∀ b, w.heap.size ≤ b → killG t G b = .junk := fun b hb => Classical.byContradiction fun h => by have := hgk.lt b h; omega
 have hbase : w'.ownsRow 0 E sz v' (xs ++ ys).length (olds ++ news) := ⟨ho.1, ho.2.imp id fun ⟨g, cap, cur, a, _, r⟩ => ⟨g, cap, cur, a, Nat.zero_le _, r⟩⟩
 rcases ho.2 with ⟨hv, hn⟩ | ⟨g, cap, cur, hv, hgb, hh, r⟩
 ·refine ⟨killG t G, .own t sz _ v' E _ ht2 hbase (fun b hb => by subst hv; simp [Value.ownBlock] at hb) hw h1' hp', ⟨hgr.os, hgr.tape, hgr.output, hgr.size, fun b hb hn => by simp [killG, hn], fun b hb _ => hEk b hb, fun b hb => .inr (by simp [killG, hb]), fun b hb => .inr (hjunk b hb)⟩, ⟨fun b hb => Nat.lt_of_lt_of_le (hgk.lt b hb) hgr.size, hgk.tags, hgk.boxes⟩⟩
 ·have hlt : g < w'.heap.size := by
   rcases Nat.lt_or_ge g w'.heap.size with h | h
   ·exact h
   ·simp [Array.getElem?_eq_none h] at hh
  refine ⟨updG (killG t G) g (.tag t), .own t sz _ v' E _ ht2 hbase (fun b hb => ?_) hw h1' (hp'.mono fun x y _ hr => hr.mono (fun b hb => ?_) (fun _ _ => rfl)), ?_, hgk.upd _ _ hgb hlt hgr.size (fun t' ht' b hb => ?_) (fun i h => by cases h)⟩
  ·subst hv; simp only [Value.ownBlock, Option.some.injEq] at hb; simp [updG, ← hb]
  ·have := hgk.lt b (by unfold Stable at hb; rw [hb]; simp)
   unfold Stable at *; simp only [updG]; rw [if_neg (by omega)]; exact hb
  ·refine ⟨hgr.os, hgr.tape, hgr.output, hgr.size, fun b hb hn => by simp only [updG]; rw [if_neg (by omega)]; simp [killG, hn], fun b hb _ => hEk b hb, fun b hb => .inr ?_, fun b hb => ?_⟩
   ·simp only [updG]; rw [if_neg (by have := hg.lt b (by rw [hb]; simp); omega)]; simp [killG, hb]
   ·simp only [updG]; split
    ·exact .inl rfl
    ·exact .inr (hjunk b hb)
  ·cases ht'; exact hno b hb
theorem evAppendOwn_sound {T T' : TypeId} {x y : AV} {K : Nat → AV → Prop} (h : evAppendOwn P T T' x y K) :
  ∃ t r, K t r ∧ 2 ≤ t ∧ ∀ (ty : TypeId) (G : Nat → Status) (w : World) (v u : Value), Good G w → VRel G w x v → VRel G w y u →
   ∃ v' w' G', (Builtin.append_ #[T, T'] ty #[v, u]).run P w = .ok v' w' ∧ VRel G' w' r v' ∧ ExtBut t G w G' w' ∧ Good G' w' := by
 unfold evAppendOwn at h
 split at h
 ·rename_i E hT
  obtain ⟨rfl, ⟨sz, by_, z⟩, hq, h0, ⟨z', hz, hzs⟩, h⟩ := h
  simp only at h0 hz hzs h
  subst hz
  obtain ⟨i, hi, hsz, hby, hzz⟩ := tinfo_some hq
  split at h
  ·rename_i t es xs t' es' ys
   obtain ⟨ht2, htt, he1, he2, hb, hK⟩ := h
   have he1 := he1.symm; have he2 := he2.symm; subst he1; subst he2
   refine ⟨_, _, hK, ht2, fun ty G w v u hg hv hu => ?_⟩
   have hfa : flat (xs ++ ys) = flat xs ++ flat ys := by simp [flat]
   cases hv with
   | froz hv => exfalso; cases hv <;> omega
   | own _ _ _ _ e' vals _ o1 o2 o3 o4 o5 =>
   have idle : ∀ ax c, u = .slice ax 0 c → ys = [] → ∃ v' w' G', (Builtin.append_ #[T', T'] ty #[v, u]).run P w = .ok v' w' ∧ VRel G' w' (.sl t sz (xs ++ ys)) v' ∧ ExtBut t G w G' w' ∧ Good G' w' := by
    rintro ax c rfl rfl
    have hv : VRel G w (.sl t sz xs) v := .own t sz xs v e' vals ht2 o1 o2 o3 o4 o5
    obtain ⟨ao, c0, hve, _, _, hc, _⟩ := hv.sl_inv
    refine ⟨v, w, G, by rw [hve]; exact run_append_zero hT hq hc w, by rw [List.append_nil]; exact hv, ⟨rfl, rfl, rfl, Nat.le_refl _, fun _ _ _ => rfl, fun _ _ _ => rfl, fun b hb => .inl hb, fun b hb => .inr ?_⟩, hg⟩
    exact Classical.byContradiction fun h => by have := hg.lt b h; omega
   rcases hu.news with ⟨hy, ax, c, hue⟩ | ⟨a, c, news, rfl, h1, h2, h3, h4, h5⟩
   ·exact idle ax c hue hy
   -- the three ways
   have grows : ∀ (olds : List Value) (v' : Value) (w' : World), w'.ownsRow w.heap.size E sz v' (xs.length + ys.length) (olds ++ news) → w.grownBy w' none → One olds → PW (FRel (Stable G) w) (flat xs) olds →
     ∃ G', VRel G' w' (.sl t sz (xs ++ ys)) v' ∧ ExtBut t G w G' w' ∧ Good G' w' := fun olds v' w' ho hgr k1 k3 => own_grows hg ht2 o3 h3 h4 h5 ho hgr k1 k3
   rcases o1.2 with ⟨hv, hn⟩ | ⟨g, cap, cur, hv, hgb, hh, hnc, hcm, hcs, hct⟩
   ·subst hv
    obtain rfl := List.eq_nil_of_length_eq_zero hn
    obtain ⟨v', w', hrun, ho, hgr, _⟩ := run_append_own (P := P) w w.heap.size T' ty E i z' sz by_ hT hi hzz hsz hby hzs h0 (.slice none 0 0) 0 [] (World.ownsRow_nil w _ E sz) a ys.length c news h1 h2 h3 (by simp only [maxLen, Nat.zero_add]; have := hb.2; simpa using this) (by simpa using hb.1) (Nat.le_refl _)
    obtain ⟨G', r1, r2, r3⟩ := grows [] v' w' (by simpa using ho) hgr (fun _ h => by simp at h) (.nil _)
    exact ⟨v', w', G', hrun, r1, r2, r3⟩
   ·subst hv
    have hGg : G g = .tag t := o2 g rfl
    have hvl : vals.length = xs.length * sz := o1.1
    by_cases hroom : xs.length + ys.length ≤ cap
    ·-- within the capacity
     have hfit : xs.length * sz + news.length ≤ cur.size := by rw [h1, hcs, ← Nat.add_mul]; exact Nat.mul_le_mul_right _ hroom
     have hrun := run_append_room' (P := P) (w := w) T' ty E e' hT hq g xs.length cap cur hh a ys.length c news h1 h2 h3 hroom hfit
     refine ⟨_, _, G, hrun, ?_, ?_, ?_⟩
     ·have hset := setRow_heap w g cur (cur.toList.take (xs.length * sz) ++ news ++ cur.toList.drop (xs.length * sz + news.length)).toArray e' (0, 0) hh
      have hlen : (xs ++ ys).length = xs.length + ys.length := by simp
      have hp' : PW (FRel (Stable G) (w.setRow g (cur.toList.take (xs.length * sz) ++ news ++ cur.toList.drop (xs.length * sz + news.length)).toArray)) (flat (xs ++ ys)) (vals ++ news) := by
       rw [hfa]
       refine (o5.append h5).mono fun x y _ hr => hr.mono (fun _ h => h) (fun b hb => ?_)
       have hne : b ≠ g := fun h => by subst h; unfold Stable at hb; rw [hGg] at hb; cases hb
       simp [World.setRow, Array.getElem?_modify, Ne.symm hne]
      have hrow : (w.setRow g (cur.toList.take (xs.length * sz) ++ news ++ cur.toList.drop (xs.length * sz + news.length)).toArray).ownsRow 0 e' sz (.slice (some ⟨g, 0, none⟩) (xs.length + ys.length) cap) (xs ++ ys).length (vals ++ news) := by
       rw [hlen]
       refine ⟨by rw [List.length_append, hvl, h1, ← Nat.add_mul], .inr ⟨g, cap, _, rfl, Nat.zero_le _, hset, hroom, hcm, ?_, ?_⟩⟩
       ·simp only [List.size_toArray, List.length_append, List.length_take, List.length_drop, Array.length_toList]
        omega
       ·have h6 : cur.toList.take (xs.length * sz) = vals := hct
        rw [h6]
        simp only [List.append_assoc]
        have h7 : (xs.length + ys.length) * sz = (vals ++ news).length := by rw [List.length_append, hvl, h1, ← Nat.add_mul]
        rw [← List.append_assoc, List.take_left' h7.symm]
      exact .own t sz (xs ++ ys) _ e' (vals ++ news) ht2 hrow (fun b hb => by simp only [Value.ownBlock, Option.some.injEq] at hb; rw [← hb]; exact hGg)
       (fun x hx => by exact (List.mem_append.1 hx).elim (o3 x) (h4 x)) (fun u hu => by exact (List.mem_append.1 hu).elim (o4 u) (h3 u)) hp'
     ·refine ⟨rfl, rfl, rfl, by simp [World.setRow], fun _ _ _ => rfl, fun b hb hn => ?_, fun b hb => .inl hb, fun b hb => .inr ?_⟩
      ·have hne : b ≠ g := fun h => by subst h; exact hn hGg
       simp [World.setRow, Array.getElem?_modify, Ne.symm hne]
      ·exact Classical.byContradiction fun h => by have := hg.lt b h; omega
     ·exact ⟨fun b hb => by simpa [World.setRow] using hg.lt b hb, hg.tags, hg.boxes⟩
    ·have hcell : ∀ j u, vals[j]? = some u → w.cell? (Addr.add ⟨g, 0, none⟩ j) = some u := by
      intro j u hj
      have : cur.toList[j]? = some u := by
       rw [← hct, List.getElem?_take] at hj
       split at hj
       ·exact hj
       ·cases hj
      rw [Addr.add_none]
      simp only [World.cell?, hh, Nat.zero_add]
      simpa using this
     obtain ⟨v', w', hrun, ho, hgr⟩ := run_append_arg_grows (P := P) w T' ty E i z' sz by_ hT hi hzz hsz hby hzs h0 ⟨g, 0, none⟩ xs.length cap vals hvl hcell a ys.length c news h1 h2 (by omega) (by simp only [maxLen]; exact hb.2) hb.1
     obtain ⟨G', r1, r2, r3⟩ := grows vals v' w' ho hgr o4 o5
     exact ⟨v', w', G', hrun, r1, r2, r3⟩
  ·exact h.elim
 ·exact h.elim
def evAppendTl (P : Program) (T T' : TypeId) (x y : AV) (K : Nat → AV → AV → Prop) : Prop :=
 match P.underlying T with
 | some (.slice E) => T' = T ∧ ∃ q, tinfo P E = some q ∧ 0 < q.1 ∧ (∃ z, q.2.2 = some z ∧ z.cells.size = q.1) ∧
  match x, y with
  | .tl t es xs i, .sl t' es' ys => 2 ≤ t ∧ t' ≠ t ∧ es = q.1 ∧ es' = q.1 ∧ 0 < ys.length ∧ roomFor (xs.length + ys.length) q.2.1 ∧ K t (.tl t es (xs ++ ys) i) (.tl t es (xs.drop i ++ ys) 0)
  | _, _ => False
 | _ => False
theorem evAppendTl_sound {T T' : TypeId} {x y : AV} {K : Nat → AV → AV → Prop} (h : evAppendTl P T T' x y K) :
  ∃ t r1 r2, K t r1 r2 ∧ 2 ≤ t ∧ ∀ (ty : TypeId) (G : Nat → Status) (w : World) (v u : Value), Good G w → VRel G w x v → VRel G w y u →
   ∃ v' w' G', (Builtin.append_ #[T, T'] ty #[v, u]).run P w = .ok v' w' ∧ (VRel G' w' r1 v' ∨ VRel G' w' r2 v') ∧ ExtBut t G w G' w' ∧ Good G' w' := by
 unfold evAppendTl at h
 split at h
 ·rename_i E hT
  obtain ⟨rfl, ⟨sz, by_, z⟩, hq, h0, ⟨z', hz, hzs⟩, h⟩ := h
  simp only at h0 hz hzs h
  subst hz
  obtain ⟨ti, hi, hsz, hby, hzz⟩ := tinfo_some hq
  split at h
  ·rename_i t es xs i t' es' ys
   obtain ⟨ht2, htt, he1, he2, hyl, hb, hK⟩ := h
   have he1 := he1.symm; have he2 := he2.symm; subst he1; subst he2
   refine ⟨_, _, _, hK, ht2, fun ty G w v u hg hv hu => ?_⟩
   obtain ⟨b, off, off', c, hbase, hil, hoff, hlc, rfl⟩ := hv.tl_inv
   rcases hu.news with ⟨hy, _⟩ | ⟨a, cu, news, rfl, h1, h2, h3, h4, h5⟩
   ·subst hy; simp at hyl
   have hown : evAppendOwn P T' T' (.sl t sz xs) (.sl t' sz ys) fun t1 r => t1 = t ∧ r = .sl t sz (xs ++ ys) := by
    unfold evAppendOwn
    rw [hT]
    exact ⟨rfl, (sz, by_, some z'), hq, h0, ⟨z', rfl, hzs⟩, ht2, htt, rfl, rfl, hb, rfl, rfl⟩
   obtain ⟨t1, r, ⟨rfl, rfl⟩, _, hrunO⟩ := evAppendOwn_sound hown
   have hbase' := hbase
   cases hbase with
   | froz hv => exfalso; cases hv <;> omega
   | own _ _ _ _ e' vals _ o1 o2 o3 o4 o5 =>
   rcases o1.2 with ⟨hv, hn⟩ | ⟨g, cap, cur, hv, hgb, hh, hnc, hcm, hcs, hct⟩
   ·cases hv
   ·simp only [Value.slice.injEq, Option.some.injEq, Addr.mk.injEq, true_and, and_true] at hv
    obtain ⟨⟨rfl, rfl⟩, rfl⟩ := hv
    have hvl : vals.length = xs.length * sz := o1.1
    by_cases hroom : xs.length + ys.length ≤ c
    ·-- within the capacity
     obtain rfl : off' = 0 + i * sz := by rcases hoff with h | h <;> omega
     have hfit : xs.length * sz + news.length ≤ cur.size := by rw [h1, hcs, ← Nat.add_mul]; exact Nat.mul_le_mul_right _ hroom
     have hrun0 := run_append_room' (P := P) (w := w) T' ty E e' hT hq b xs.length c cur hh a ys.length cu news h1 h2 h3 hroom hfit
     obtain ⟨v', w', G', hr1, hr2, hr3, hr4⟩ := hrunO ty G w _ _ hg hbase' hu
     rw [hrun0] at hr1
     cases hr1
     have hf := run_firstCells_some (P := P) w sz ys.length a ys.length cu news h1 h2
     have hst := run_storeCells_at P b (xs.length * sz) e' news 0 cur w hh (by simpa using hfit) h3
     simp only [Nat.add_zero] at hst
     have hplace : i * sz + (xs.length - i) * sz = xs.length * sz := by rw [← Nat.add_mul]; congr 1; omega
     have hroom2 : xs.length - i + ys.length ≤ c - i := by omega
     refine ⟨.slice (some ⟨b, 0 + i * sz, none⟩) (xs.length - i + ys.length) (c - i), _, G', ?_, .inl ?_, hr3, hr4⟩
     ·simp [Builtin.append_, run_underlying hT, run_sizeOf hq, Builtin.lenOf, hroom2, hf, Addr.add_none]
      rw [hplace, hst]
      simp
     ·have := VRel.tl t1 sz (xs ++ ys) i b 0 (0 + i * sz) c (by rw [List.length_append]; exact hr2) (by rw [List.length_append]; omega) (.inl rfl)
      rw [List.length_append] at this
      rw [show xs.length - i + ys.length = xs.length + ys.length - i by omega]
      exact this
    ·-- a new row
     have hwx : ∀ x ∈ xs.drop i, x.cells.length = sz := fun x hx => o3 x (List.mem_of_mem_drop hx)
     have hdl : (xs.drop i).length = xs.length - i := List.length_drop
     have hcell : ∀ j u, (vals.drop (i * sz))[j]? = some u → w.cell? (Addr.add ⟨b, off', none⟩ j) = some u := by
      intro j u hj
      rw [List.getElem?_drop] at hj
      have hjl := (List.getElem?_eq_some_iff.1 hj).1
      have hi2 : i < xs.length := by
       rcases Nat.lt_or_ge i xs.length with h | h
       ·exact h
       ·exfalso
        have : xs.length * sz ≤ i * sz := Nat.mul_le_mul_right _ h
        omega
      obtain rfl : off' = 0 + i * sz := by rcases hoff with h | h <;> omega
      have : cur.toList[i * sz + j]? = some u := by
       rw [← hct, List.getElem?_take] at hj
       split at hj
       ·exact hj
       ·cases hj
      rw [Addr.add_none]
      simp only [World.cell?, hh, Nat.zero_add]
      simpa using this
     have hdv : (vals.drop (i * sz)).length = (xs.length - i) * sz := by rw [List.length_drop, hvl, Nat.sub_mul]
     obtain ⟨v', w', hrun, ho, hgr⟩ := run_append_arg_grows (P := P) w T' ty E ti z' sz by_ hT hi hzz hsz hby hzs h0 ⟨b, off', none⟩ (xs.length - i) (c - i) (vals.drop (i * sz)) hdv hcell a ys.length cu news h1 h2 (by omega) (by simp only [maxLen]; have := hb.2; omega) (by
      refine Nat.le_trans (Nat.mul_le_mul_right _ ?_) hb.1; omega)
     obtain ⟨G', r1, r2, r3⟩ := own_grows (t := t1) (xs := xs.drop i) hg ht2 hwx h3 h4 h5 (by rw [hdl]; exact ho) hgr (fun u hu => o4 u (List.mem_of_mem_drop hu)) (by rw [flat_drop i o3]; exact o5.drop (i * sz))
     refine ⟨v', w', G', hrun, .inr ?_, r2, r3⟩
     obtain ⟨ao, c2, rfl, _, hn2, _, hs⟩ := r1.sl_inv
     have hne : 0 < (xs.drop i ++ ys).length := by rw [List.length_append]; omega
     rcases hs with hs | ⟨b2, off2, vals2, rfl, _⟩
     ·rw [hs] at hne; simp at hne
     ·have := VRel.tl t1 sz (xs.drop i ++ ys) 0 b2 off2 off2 c2 r1 (Nat.zero_le _) (.inl (by omega))
      simpa using this
  ·exact h.elim
 ·exact h.elim
end ops
end Go.AM
