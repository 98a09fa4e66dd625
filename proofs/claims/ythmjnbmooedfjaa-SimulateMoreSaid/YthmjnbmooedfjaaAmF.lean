/-
  The abstract machine: append, make, slices of slices, lengths, and other operations.
-/
import Derived.Test.YthmjnbmooedfjaaAmE
namespace Go.AM
open Go.RowKit

section ops
variable {P : Program}

def evLen (P : Program) (T : TypeId) (x : AV) (K : AV → Prop) : Prop :=
  match P.underlying T, x with
  | some (.slice _), .sl _ _ xs => K (.sc (.int .i64 xs.length))
  | some (.slice _), .nil => K (.sc (.int .i64 0))
  | some .string, .sc (.string s) => K (.sc (.int .i64 s.size))
  | some (.array n _), .ag _ => K (.sc (.int .i64 n))
  | some (.slice _), .so _ xs => K (.sc (.int .i64 xs.length))
  | some (.slice _), .tl _ _ xs i => K (.sc (.int .i64 (xs.length - i : Nat)))
  | _, _ => False

theorem evLen_sound {T : TypeId} {x : AV} {K : AV → Prop} (h : evLen P T x K) :
    ∃ r, K r ∧ ∀ (ty : TypeId) (d : Nat) (G : Nat → Status) (w : World) (v : Value), Good G w → VRel G w x v → Does P d G w (Builtin.len_ #[T] ty #[v]) r := by
  unfold evLen at h
  split at h
  · rename_i hT
    refine ⟨_, h, fun ty d G w v hg hv => ?_⟩
    obtain ⟨ao, c, rfl, _⟩ := hv.sl_inv
    exact .pure hg (by simp [Builtin.len_, run_underlying hT, goInt]) (.froz (.sc _))
  · rename_i hT
    refine ⟨_, h, fun ty d G w v hg hv => ?_⟩
    obtain rfl := hv.nil_inv
    exact .pure hg (by simp [Builtin.len_, run_underlying hT, goInt]) (.froz (.sc _))
  · rename_i hT
    refine ⟨_, h, fun ty d G w v hg hv => ?_⟩
    obtain rfl := hv.sc_inv
    exact .pure hg (by simp [Builtin.len_, run_underlying hT, goInt]) (.froz (.sc _))
  · rename_i hT
    refine ⟨_, h, fun ty d G w v hg hv => ?_⟩
    exact .pure hg (by simp [Builtin.len_, run_underlying hT, goInt]) (.froz (.sc _))
  · rename_i hT
    refine ⟨_, h, fun ty d G w v hg hv => ?_⟩
    obtain ⟨ao, c, rfl, _⟩ := hv.so_inv
    exact .pure hg (by simp [Builtin.len_, run_underlying hT, goInt]) (.froz (.sc _))
  · rename_i hT
    refine ⟨_, h, fun ty d G w v hg hv => ?_⟩
    obtain ⟨b, off, off', c, _, _, _, _, rfl⟩ := hv.tl_inv
    exact .pure hg (by simp [Builtin.len_, run_underlying hT, goInt]) (.froz (.sc _))
  · exact h.elim

def evMax (x y : AV) (K : AV → Prop) : Prop :=
  match x, y with
  | .sc (.int k a), .sc (.int _ b) => K (.sc (.int k (max a b)))
  | _, _ => False
def evMin (x y : AV) (K : AV → Prop) : Prop :=
  match x, y with
  | .sc (.int k a), .sc (.int _ b) => K (.sc (.int k (min a b)))
  | _, _ => False

theorem evMax_sound {x y : AV} {K : AV → Prop} (h : evMax x y K) :
    ∃ r, K r ∧ ∀ (As : Array TypeId) (ty : TypeId) (d : Nat) (G : Nat → Status) (w : World) (v u : Value), Good G w → VRel G w x v → VRel G w y u → Does P d G w (Builtin.max_ As ty #[v, u]) r := by
  unfold evMax at h
  split at h
  · refine ⟨_, h, fun As ty d G w v u hg hv hu => ?_⟩
    obtain rfl := hv.sc_inv; obtain rfl := hu.sc_inv
    rename_i k a _ b
    refine .pure hg (v := .int k (max a b)) ?_ (.froz (.sc _))
    have : (if a < b then b else a) = max a b := by omega
    simp [Builtin.max_, Builtin.max2, this]
  · exact h.elim

theorem evMin_sound {x y : AV} {K : AV → Prop} (h : evMin x y K) :
    ∃ r, K r ∧ ∀ (As : Array TypeId) (ty : TypeId) (d : Nat) (G : Nat → Status) (w : World) (v u : Value), Good G w → VRel G w x v → VRel G w y u → Does P d G w (Builtin.min_ As ty #[v, u]) r := by
  unfold evMin at h
  split at h
  · refine ⟨_, h, fun As ty d G w v u hg hv hu => ?_⟩
    obtain rfl := hv.sc_inv; obtain rfl := hu.sc_inv
    rename_i k a _ b
    refine .pure hg (v := .int k (min a b)) ?_ (.froz (.sc _))
    have : (if b < a then b else a) = min a b := by omega
    simp [Builtin.min_, Builtin.min2, this]
  · exact h.elim

def evCap (P : Program) (T : TypeId) (x : AV) (K : AV → Prop) : Prop :=
  match P.underlying T, x with
  | some (.slice _), .sl t _ xs => t = 1 ∧ K (.sc (.int .i64 xs.length))
  | some (.slice _), .nil => K (.sc (.int .i64 0))
  | _, _ => False

theorem evCap_sound {T : TypeId} {x : AV} {K : AV → Prop} (h : evCap P T x K) :
    ∃ r, K r ∧ ∀ (ty : TypeId) (d : Nat) (G : Nat → Status) (w : World) (v : Value), Good G w → VRel G w x v → Does P d G w (Builtin.cap_ #[T] ty #[v]) r := by
  unfold evCap at h
  split at h
  · rename_i hT
    obtain ⟨ht, hK⟩ := h
    refine ⟨_, hK, fun ty d G w v hg hv => ?_⟩
    obtain ⟨ao, c, rfl, hc, _⟩ := hv.sl_inv
    have := hc ht; subst this
    exact .pure hg (by simp [Builtin.cap_, run_underlying hT, goInt]) (.froz (.sc _))
  · rename_i hT
    refine ⟨_, h, fun ty d G w v hg hv => ?_⟩
    obtain rfl := hv.nil_inv
    exact .pure hg (by simp [Builtin.cap_, run_underlying hT, goInt]) (.froz (.sc _))
  · exact h.elim

/-! ### two operands -/
def evBinOp (P : Program) (op : BinOp) (T : TypeId) (x y : AV) (K : AV → Prop) : Prop :=
  match x, y with
  | .sc u, .sc v => evBin P op T u v fun r => K (.sc r)
  | .sl _ _ xs, .nil => (∃ E, P.underlying T = some (.slice E)) ∧ (xs = [] → (op = .eql ∨ op = .neq) ∧ K .ub) ∧ (xs ≠ [] → (op = .eql ∧ K (.sc (.bool false))) ∨ (op = .neq ∧ K (.sc (.bool true))))
  | .nil, .nil => (∃ E, P.underlying T = some (.slice E)) ∧ ((op = .eql ∧ K (.sc (.bool true))) ∨ (op = .neq ∧ K (.sc (.bool false))))
  | _, _ => False

theorem run_equal_slice_nil {T E : TypeId} {ao : Option Addr} {n c : Nat} (h : P.underlying T = some (.slice E)) (w : World) : (Op.equal T (.slice ao n c) (.slice none 0 0)).run P w = .ok ao.isNone w := by
  simp only [Op.equal, Op.maxDepth]
  show (Op.equalIn (9999 + 1) T (.slice ao n c) (.slice none 0 0)).run P w = _
  rw [Op.equalIn]
  cases ao <;> simp [run_underlying h]

theorem evBinOp_sound {op : BinOp} {T : TypeId} {x y : AV} {K : AV → Prop} (a b : Operand) (h : evBinOp P op T x y K) :
    ∃ r, K r ∧ ∀ (d : Nat) (G : Nat → Status) (w : World) (v u : Value), Good G w → VRel G w x v → VRel G w y u → Does P d G w (do eqGuard op T a b v u; binOp op T v u : Sem Value) r := by
  unfold evBinOp at h
  split at h
  · obtain ⟨r, hK, hr⟩ := evBin_sound a b h
    refine ⟨_, hK, fun d G w v u hg hv hu => ?_⟩
    obtain rfl := hv.sc_inv; obtain rfl := hu.sc_inv
    exact .pure hg (hr w) (.froz (.sc _))
  · rename_i t es xs
    obtain ⟨⟨E, hT⟩, hn, hc⟩ := h
    by_cases hx : xs = []
    · obtain ⟨hop, hK⟩ := hn hx
      refine ⟨_, hK, fun d G w v u hg hv hu => ?_⟩
      obtain ⟨ao, c, rfl, _⟩ := hv.sl_inv; obtain rfl := hu.nil_inv
      rcases hop with rfl | rfl
      · exact .pure hg (v := .bool ao.isNone) (by simp [eqGuard, binOp, run_equal_slice_nil hT]) (.froz (.ub _))
      · exact .pure hg (v := .bool (!ao.isNone)) (by simp [eqGuard, binOp, run_equal_slice_nil hT]) (.froz (.ub _))
    · have hsome : ∀ {G w v}, VRel G w (.sl t es xs) v → ∃ ao c, v = .slice ao xs.length c ∧ ao.isNone = false := fun hv => by
        obtain ⟨ao, c, rfl, _, h2, _⟩ := hv.sl_inv
        refine ⟨ao, c, rfl, ?_⟩
        cases ao with
        | none => exact absurd (h2 rfl).2 hx
        | some _ => rfl
      rcases hc hx with ⟨rfl, hK⟩ | ⟨rfl, hK⟩
      · refine ⟨_, hK, fun d G w v u hg hv hu => ?_⟩
        obtain ⟨ao, c, rfl, ha⟩ := hsome hv; obtain rfl := hu.nil_inv
        exact .pure hg (v := .bool false) (by simp [eqGuard, binOp, run_equal_slice_nil hT, ha]) (.froz (.sc _))
      · refine ⟨_, hK, fun d G w v u hg hv hu => ?_⟩
        obtain ⟨ao, c, rfl, ha⟩ := hsome hv; obtain rfl := hu.nil_inv
        exact .pure hg (v := .bool true) (by simp [eqGuard, binOp, run_equal_slice_nil hT, ha]) (.froz (.sc _))
  · obtain ⟨⟨E, hT⟩, ⟨rfl, hK⟩ | ⟨rfl, hK⟩⟩ := h
    · refine ⟨_, hK, fun d G w v u hg hv hu => ?_⟩
      obtain rfl := hv.nil_inv; obtain rfl := hu.nil_inv
      exact .pure hg (v := .bool true) (by simp [eqGuard, binOp, run_equal_slice_nil hT]) (.froz (.sc _))
    · refine ⟨_, hK, fun d G w v u hg hv hu => ?_⟩
      obtain rfl := hv.nil_inv; obtain rfl := hu.nil_inv
      exact .pure hg (v := .bool false) (by simp [eqGuard, binOp, run_equal_slice_nil hT]) (.froz (.sc _))
  · exact h.elim

/-! ### parts of slices -/
theorem flat_take {es : Nat} : ∀ {xs : List AV} (n : Nat), (∀ x ∈ xs, x.cells.length = es) → flat (xs.take n) = (flat xs).take (n * es)
  | [], n, _ => by simp [flat]
  | x :: xs, 0, _ => by simp [flat]
  | x :: xs, n + 1, h => by
    have hx := h x (by simp)
    have := flat_take (xs := xs) n (fun y hy => h y (by simp [hy]))
    simp only [flat, List.take_succ_cons, List.flatMap_cons] at this ⊢
    rw [this, List.take_append, hx, show (n + 1) * es - es = n * es by rw [Nat.succ_mul]; omega, List.take_of_length_le (l := x.cells) (by rw [hx, Nat.succ_mul]; omega)]

theorem flat_drop {es : Nat} : ∀ {xs : List AV} (n : Nat), (∀ x ∈ xs, x.cells.length = es) → flat (xs.drop n) = (flat xs).drop (n * es)
  | [], n, _ => by simp [flat]
  | x :: xs, 0, _ => by simp
  | x :: xs, n + 1, h => by
    have hx := h x (by simp)
    have := flat_drop (xs := xs) n (fun y hy => h y (by simp [hy]))
    simp only [flat, List.drop_succ_cons, List.flatMap_cons] at this ⊢
    rw [this, List.drop_append, hx, show (n + 1) * es - es = n * es by rw [Nat.succ_mul]; omega, List.drop_eq_nil_of_le (as := x.cells) (by rw [hx, Nat.succ_mul]; omega), List.nil_append]

theorem FRel.part {S : Nat → Prop} {w : World} {t es : Nat} {xs : List AV} {ao : Option Addr} {n c l h m t' : Nat} (hr : FRel S w (.sl t es xs) (.slice ao n c)) (hl : l ≤ h) (hh : h ≤ xs.length) (hm : h ≤ m) (hmc : m ≤ c) (ht : t' < 2) (ht' : t' = 1 → m = h) :
    FRel S w (.sl t' es ((xs.take h).drop l)) (.slice (if m = l then ao else ao.map (·.add (l * es))) (h - l) (m - l)) := by
  have hlen : ((xs.take h).drop l).length = h - l := by rw [List.length_drop, List.length_take]; omega
  cases hr with
  | slNil _ _ a c h1 h2 h3 =>
    have : (([] : List AV).take h).drop l = [] := by simp
    rw [this]
    simp only [List.length_nil] at hh
    have : h - l = 0 := by omega
    rw [this]
    refine .slNil t' es _ _ ht (fun h1 => by have := ht' h1; omega) (fun h4 => ?_)
    have : ao = none := by
      split at h4
      · exact h4
      · simpa using h4
    have := h3 this; omega
  | sl _ _ _ b off c vals h1 h2 h3 hc h4 h5 h0 h6 h7 =>
    by_cases he : l = h
    · subst he
      have : (xs.take l).drop l = [] := by simp
      rw [this, Nat.sub_self]
      refine .slNil t' es _ _ ht (fun h1 => by have := ht' h1; omega) (fun h4 => ?_)
      split at h4 <;> simp at h4
    · have hml : m ≠ l := by omega
      rw [if_neg hml, ← hlen]
      have hwid : ∀ x ∈ (xs.take h).drop l, x.cells.length = es := fun x hx => h4 x (List.mem_of_mem_take (List.mem_of_mem_drop hx))
      have hfl : flat ((xs.take h).drop l) = ((flat xs).take (h * es)).drop (l * es) := by
        rw [flat_drop l (fun x hx => h4 x (List.mem_of_mem_take hx)), flat_take h h4]
      have hpw : PW (FRel S w) (flat ((xs.take h).drop l)) ((vals.take (h * es)).drop (l * es)) := by
        rw [hfl]; exact (PW.take ⟨h5, h7⟩ _).drop _
      simp only [Option.map_some, Addr.add_none]
      refine .sl t' es _ b (off + l * es) (m - l) _ ht h2 (fun h1 => by rw [hlen]; have := ht' h1; omega) (by rw [hlen]; omega) hwid hpw.1 (fun u hu => h0 u (List.mem_of_mem_take (List.mem_of_mem_drop hu))) (fun j u hj => ?_) hpw.2
      rw [List.getElem?_drop, List.getElem?_take] at hj
      split at hj
      · rw [Nat.add_assoc]; exact h6 _ _ hj
      · cases hj

def evBound (x : Option AV) (dflt : Nat) (K : Nat → Prop) : Prop :=
  match x with
  | none => K dflt
  | some (.sc (.int _ n)) => 0 ≤ n ∧ K n.toNat
  | _ => False

def evSlice (P : Program) (T : TypeId) (x : AV) (lo hi mx : Option AV) (K : AV → Prop) : Prop :=
  match P.underlying T, x with
  | some (.slice E), .sl t es xs => (∃ q, tinfo P E = some q ∧ q.1 = es) ∧ if t < 2 then
      (match mx with
       | none => evBound hi xs.length fun h => evBound lo 0 fun l => l ≤ h ∧ h ≤ xs.length ∧ K (.sl 0 es ((xs.take h).drop l))
       | some m => hi.isSome = true ∧ evBound (some m) 0 fun m => evBound hi 0 fun h => evBound lo 0 fun l => m = h ∧ l ≤ h ∧ h ≤ xs.length ∧ K (.sl 1 es ((xs.take h).drop l)))
      else mx = none ∧ if (hi.isNone && lo.isSome) = true then evBound lo 0 fun l => l < xs.length ∧ K (.tl t es xs l)
        else evBound hi xs.length fun h => evBound lo 0 fun l => l = 0 ∧ h ≤ xs.length ∧ K (.sl t es (xs.take h))
  | some (.slice E), .tl t es xs i => (∃ q, tinfo P E = some q ∧ q.1 = es) ∧ mx = none ∧ hi = none ∧ evBound lo 0 fun l => i + l ≤ xs.length ∧ K (.tl t es xs (i + l))
  | some (.slice E), .nil => mx = none ∧ (∃ q, tinfo P E = some q) ∧ evBound hi 0 fun h => evBound lo 0 fun l => l = 0 ∧ h = 0 ∧ K .nil
  | some .string, .sc (.string s) => mx = none ∧ evBound hi s.size fun h => evBound lo 0 fun l => l ≤ h ∧ h ≤ s.size ∧ K (.sc (.string (s.extract l h)))
  | _, _ => False

theorem evBound_spec {x : Option AV} {dflt : Nat} {K : Nat → Prop} (h : evBound x dflt K) : ∃ n, K n ∧ (x = none → n = dflt) ∧ ∀ a, x = some a → ∃ k, a = .sc (.int k n) := by
  unfold evBound at h
  split at h
  · exact ⟨_, h, fun _ => rfl, (fun _ h => by cases h)⟩
  · rename_i k n
    refine ⟨n.toNat, h.2, (fun h => by cases h), fun a ha => ?_⟩
    cases ha
    exact ⟨k, by rw [Int.toNat_of_nonneg h.1]⟩
  · exact h.elim

/-- operands that may be missing -/
def ORel (G : Nat → Status) (w : World) (x : Option AV) (v : Option Value) : Prop :=
  match x, v with
  | none, none => True
  | some x, some v => VRel G w x v
  | _, _ => False

theorem ORel.bound {G : Nat → Status} {w : World} {x : Option AV} {v : Option Value} {n dflt : Nat} (h : ORel G w x v) (h0 : x = none → n = dflt) (h1 : ∀ a, x = some a → ∃ k, a = .sc (.int k n)) :
    (x = none ∧ v = none ∧ n = dflt) ∨ (∃ k, v = some (.int k (n : Int))) := by
  cases x with
  | none => cases v with
    | none => exact .inl ⟨rfl, rfl, h0 rfl⟩
    | some v => exact h.elim
  | some x => cases v with
    | none => exact h.elim
    | some v =>
      obtain ⟨k, rfl⟩ := h1 x rfl
      have := VRel.sc_inv h
      subst this; exact .inr ⟨k, rfl⟩

theorem evSlice_sound {T : TypeId} {x : AV} {lo hi mx : Option AV} {K : AV → Prop} (h : evSlice P T x lo hi mx K) :
    ∃ r, K r ∧ ∀ (d : Nat) (G : Nat → Status) (w : World) (v : Value) (vl vh vm : Option Value), Good G w → VRel G w x v → ORel G w lo vl → ORel G w hi vh → ORel G w mx vm → Does P d G w (Instr.sliceAt T v vl vh vm) r := by
  unfold evSlice at h
  split at h
  · rename_i E t es xs hT
    obtain ⟨⟨⟨sz, by_, z⟩, hq, rfl⟩, h⟩ := h
    split at h
    · rename_i ht
      split at h
      · obtain ⟨nh, h, h1, h2⟩ := evBound_spec h
        obtain ⟨nl, h, h3, h4⟩ := evBound_spec h
        obtain ⟨h5, h6, hK⟩ := h
        refine ⟨_, hK, fun d G w v vl vh vm hg hv hl hh hm => ?_⟩
        have hf := hv.fzLeaf (by simpa [fzLeaf] using ht)
        obtain ⟨ao, c, rfl, _, _, hc, _⟩ := hv.sl_inv
        have hvm : vm = none := by cases vm with | none => rfl | some _ => exact hm.elim
        subst hvm
        refine .pure hg (v := .slice (if c = nl then ao else ao.map (·.add (nl * sz))) (nh - nl) (c - nl)) ?_ (.froz (hf.part h5 h6 (by omega) (Nat.le_refl _) (by omega) (by omega)))
        rcases hl.bound h3 h4 with ⟨_, rfl, rfl⟩ | ⟨k, rfl⟩ <;> rcases hh.bound h1 h2 with ⟨_, rfl, rfl⟩ | ⟨k', rfl⟩
        · simp [Instr.sliceAt, run_underlying hT, Instr.slice, Instr.sliceBounds, run_sizeOf hq]
        · simp [Instr.sliceAt, run_underlying hT, Instr.slice, Instr.sliceBounds, Instr.sliceBound, asIntOf, run_sizeOf hq, show nh ≤ c by omega]
        · simp [Instr.sliceAt, run_underlying hT, Instr.slice, Instr.sliceBounds, Instr.sliceBound, asIntOf, run_sizeOf hq, h5]
        · simp [Instr.sliceAt, run_underlying hT, Instr.slice, Instr.sliceBounds, Instr.sliceBound, asIntOf, run_sizeOf hq, show nh ≤ c by omega, h5]
      · rename_i m
        obtain ⟨hsome, h⟩ := h
        obtain ⟨nm, h, _, hm2⟩ := evBound_spec h
        obtain ⟨nh, h, h1, h2⟩ := evBound_spec h
        obtain ⟨nl, h, h3, h4⟩ := evBound_spec h
        obtain ⟨rfl, h5, h6, hK⟩ := h
        refine ⟨_, hK, fun d G w v vl vh vm hg hv hl hh hm => ?_⟩
        have hf := hv.fzLeaf (by simpa [fzLeaf] using ht)
        obtain ⟨ao, c, rfl, _, _, hc, _⟩ := hv.sl_inv
        refine .pure hg (v := .slice (if nm = nl then ao else ao.map (·.add (nl * sz))) (nm - nl) (nm - nl)) ?_ (.froz (hf.part h5 h6 (Nat.le_refl _) (by omega) (by omega) (fun _ => rfl)))
        rcases hm.bound (dflt := 0) (fun h => by cases h) hm2 with ⟨h, _⟩ | ⟨k'', rfl⟩
        · cases h
        rcases hh.bound h1 h2 with ⟨h, _⟩ | ⟨k', rfl⟩
        · rw [h] at hsome; cases hsome
        rcases hl.bound h3 h4 with ⟨_, rfl, rfl⟩ | ⟨k, rfl⟩
        · simp [Instr.sliceAt, run_underlying hT, Instr.slice, Instr.sliceBounds, Instr.sliceBound, asIntOf, run_sizeOf hq, show nm ≤ c by omega]
        · simp [Instr.sliceAt, run_underlying hT, Instr.slice, Instr.sliceBounds, Instr.sliceBound, asIntOf, run_sizeOf hq, show nm ≤ c by omega, h5]
    · rename_i ht
      obtain ⟨rfl, h⟩ := h
      split at h
      · rename_i hb
        obtain ⟨nl, h, h3, h4⟩ := evBound_spec h
        obtain ⟨hlt, hK⟩ := h
        refine ⟨_, hK, fun d G w v vl vh vm hg hv hl hh hm => ?_⟩
        simp only [Bool.and_eq_true, Option.isNone_iff_eq_none] at hb
        obtain ⟨rfl, hsome⟩ := hb
        have hvm : vm = none := by cases vm with | none => rfl | some _ => exact hm.elim
        have hvh : vh = none := by cases vh with | none => rfl | some _ => exact hh.elim
        subst hvm; subst hvh
        cases hv with
        | froz h => exfalso; cases h <;> omega
        | own _ _ _ _ e vals g1 g2 g3 g4 g0 g5 =>
          rcases g2.2 with ⟨rfl, hn⟩ | ⟨g, cap, cur, rfl, hg0, hh0, hn, hcm, hcs, htk⟩
          · omega
          · have hown : VRel G w (.sl t sz xs) (.slice (some ⟨g, 0, none⟩) xs.length cap) := .own t sz xs _ e vals g1 g2 g3 g4 g0 g5
            refine .pure hg (v := .slice (some ⟨g, 0 + nl * sz, none⟩) (xs.length - nl) (cap - nl)) ?_ (.tl t sz xs nl g 0 _ cap hown (by omega) (.inl rfl))
            have hadd : (Addr.mk g 0 none).add (nl * sz) = ⟨g, 0 + nl * sz, none⟩ := Addr.add_none g 0 _
            rcases hl.bound h3 h4 with ⟨rfl, _, _⟩ | ⟨k, rfl⟩
            · cases hsome
            · simp [Instr.sliceAt, run_underlying hT, Instr.slice, Instr.sliceBounds, Instr.sliceBound, asIntOf, run_sizeOf hq, hadd, show nl ≤ xs.length by omega, show ¬ cap = nl by omega]
      obtain ⟨nh, h, h1, h2⟩ := evBound_spec h
      obtain ⟨nl, h, h3, h4⟩ := evBound_spec h
      obtain ⟨rfl, h6, hK⟩ := h
      refine ⟨_, hK, fun d G w v vl vh vm hg hv hl hh hm => ?_⟩
      have hvm : vm = none := by cases vm with | none => rfl | some _ => exact hm.elim
      subst hvm
      have hlen : (xs.take nh).length = nh := by rw [List.length_take]; omega
      cases hv with
      | froz h => exfalso; cases h <;> omega
      | own _ _ _ _ e vals g1 g2 g3 g4 g0 g5 =>
        have hw' : ∀ x ∈ xs.take nh, x.cells.length = sz := fun x hx => g4 x (List.mem_of_mem_take hx)
        have hp' : PW (FRel (Stable G) w) (flat (xs.take nh)) (vals.take (nh * sz)) := by rw [flat_take nh g4]; exact g5.take _
        have h1' : One (vals.take (nh * sz)) := fun u hu => g0 u (List.mem_of_mem_take hu)
        have hvl : (vals.take (nh * sz)).length = nh * sz := by
          rw [← hp'.1, flat_length hw', hlen]
        rcases g2.2 with ⟨rfl, hn⟩ | ⟨g, cap, cur, rfl, hg0, hh0, hn, hcm, hcs, htk⟩
        · have hz : nh = 0 := by omega
          subst hz
          have hown : VRel G w (.sl t sz (xs.take 0)) (.slice none 0 0) := .own t sz _ _ e [] (by omega) (World.ownsRow_nil _ _ _ _) (fun b hb => by simp [Value.ownBlock] at hb) (by simp) (fun _ h => by simp at h) (by simpa [flat] using PW.nil _)
          refine .pure hg (v := .slice none 0 0) ?_ hown
          rcases hl.bound h3 h4 with ⟨_, rfl, _⟩ | ⟨k, rfl⟩ <;> rcases hh.bound h1 h2 with ⟨_, rfl, he⟩ | ⟨k', rfl⟩ <;>
            simp [Instr.sliceAt, run_underlying hT, Instr.slice, Instr.sliceBounds, Instr.sliceBound, asIntOf, run_sizeOf hq, hn]
        · refine .pure hg (v := .slice (some ⟨g, 0, none⟩) nh cap) ?_ (.own t sz _ _ e (vals.take (nh * sz)) (by omega) ⟨by rw [hvl, hlen], .inr ⟨g, cap, cur, by rw [hlen], Nat.zero_le _, hh0, by rw [hlen]; omega, hcm, hcs, by rw [hlen, ← htk, List.take_take]; congr 1; exact (Nat.min_eq_left (Nat.mul_le_mul_right _ h6)).symm⟩⟩ (fun b hb => by simp only [Value.ownBlock, Option.some.injEq] at hb; subst hb; exact g3 g rfl) hw' h1' hp')
          have hadd : (Addr.mk g 0 none).add 0 = ⟨g, 0, none⟩ := Addr.add_none g 0 0
          rcases hl.bound h3 h4 with ⟨_, rfl, _⟩ | ⟨k, rfl⟩ <;> rcases hh.bound h1 h2 with ⟨_, rfl, he⟩ | ⟨k', rfl⟩
          · simp [Instr.sliceAt, run_underlying hT, Instr.slice, Instr.sliceBounds, run_sizeOf hq, he, hadd]
          · simp [Instr.sliceAt, run_underlying hT, Instr.slice, Instr.sliceBounds, Instr.sliceBound, asIntOf, run_sizeOf hq, hadd, show nh ≤ cap by omega]
          · simp [Instr.sliceAt, run_underlying hT, Instr.slice, Instr.sliceBounds, Instr.sliceBound, asIntOf, run_sizeOf hq, he, hadd]
          · simp [Instr.sliceAt, run_underlying hT, Instr.slice, Instr.sliceBounds, Instr.sliceBound, asIntOf, run_sizeOf hq, hadd, show nh ≤ cap by omega]
  · rename_i E t es xs i hT
    obtain ⟨⟨⟨sz, by_, z⟩, hq, rfl⟩, rfl, rfl, h⟩ := h
    obtain ⟨nl, h, h3, h4⟩ := evBound_spec h
    obtain ⟨hle, hK⟩ := h
    refine ⟨_, hK, fun d G w v vl vh vm hg hv hl hh hm => ?_⟩
    have hvm : vm = none := by cases vm with | none => rfl | some _ => exact hm.elim
    have hvh : vh = none := by cases vh with | none => rfl | some _ => exact hh.elim
    subst hvm; subst hvh
    obtain ⟨b, off, off', c, hbase, h5, h6, hc, rfl⟩ := hv.tl_inv
    have h6 : off' = off + i * sz ∨ c ≤ i := h6
    have key : ∃ off2, (if c - i = nl then some (Addr.mk b off' none) else (some (Addr.mk b off' none)).map (·.add (nl * sz))) = some ⟨b, off2, none⟩ ∧ (off2 = off + (i + nl) * sz ∨ c ≤ i + nl) := by
      by_cases hcn : c - i = nl
      · exact ⟨off', by rw [if_pos hcn], .inr (by omega)⟩
      · refine ⟨off' + nl * sz, by rw [if_neg hcn]; simp [Addr.add_none], ?_⟩
        rcases h6 with h6 | h6
        · exact .inl (by rw [h6, Nat.add_mul]; omega)
        · exact .inr (by omega)
    obtain ⟨off2, k1, k2⟩ := key
    have hrel := VRel.tl t sz xs (i + nl) b off off2 c hbase hle k2
    refine .pure hg (v := .slice (some ⟨b, off2, none⟩) (xs.length - (i + nl)) (c - (i + nl))) ?_ hrel
    have e1 : xs.length - i - nl = xs.length - (i + nl) := by omega
    have e2 : c - i - nl = c - (i + nl) := by omega
    rcases hl.bound h3 h4 with ⟨_, rfl, rfl⟩ | ⟨k, rfl⟩
    · have k1' := k1
      simp [Instr.sliceAt, run_underlying hT, Instr.slice, Instr.sliceBounds, run_sizeOf hq, ← k1]
    · simp [Instr.sliceAt, run_underlying hT, Instr.slice, Instr.sliceBounds, Instr.sliceBound, asIntOf, run_sizeOf hq, show nl ≤ xs.length - i by omega, e1, e2, ← k1]
  · rename_i E hT
    obtain ⟨rfl, ⟨⟨sz, by_, z⟩, hq⟩, h⟩ := h
    obtain ⟨nh, h, h1, h2⟩ := evBound_spec h
    obtain ⟨nl, h, h3, h4⟩ := evBound_spec h
    obtain ⟨rfl, rfl, hK⟩ := h
    refine ⟨_, hK, fun d G w v vl vh vm hg hv hl hh hm => ?_⟩
    obtain rfl := hv.nil_inv
    have hvm : vm = none := by cases vm with | none => rfl | some _ => exact hm.elim
    subst hvm
    refine .pure hg (v := .slice none 0 0) ?_ (.froz .nil)
    rcases hl.bound h3 h4 with ⟨_, rfl, _⟩ | ⟨k, rfl⟩ <;> rcases hh.bound h1 h2 with ⟨_, rfl, he⟩ | ⟨k', rfl⟩ <;>
      simp [Instr.sliceAt, run_underlying hT, Instr.slice, Instr.sliceBounds, Instr.sliceBound, asIntOf, run_sizeOf hq]
  · rename_i s hT
    obtain ⟨rfl, h⟩ := h
    obtain ⟨nh, h, h1, h2⟩ := evBound_spec h
    obtain ⟨nl, h, h3, h4⟩ := evBound_spec h
    obtain ⟨h5, h6, hK⟩ := h
    refine ⟨_, hK, fun d G w v vl vh vm hg hv hl hh hm => ?_⟩
    obtain rfl := hv.sc_inv
    have hvm : vm = none := by cases vm with | none => rfl | some _ => exact hm.elim
    subst hvm
    refine .pure hg (v := .string (s.extract nl nh)) ?_ (.froz (.sc _))
    rcases hl.bound h3 h4 with ⟨_, rfl, rfl⟩ | ⟨k, rfl⟩ <;> rcases hh.bound h1 h2 with ⟨_, rfl, rfl⟩ | ⟨k', rfl⟩
    · simp [Instr.sliceAt, run_underlying hT, Instr.slice, Instr.sliceBounds]
    · simp [Instr.sliceAt, run_underlying hT, Instr.slice, Instr.sliceBounds, Instr.sliceBound, asIntOf, h6]
    · simp [Instr.sliceAt, run_underlying hT, Instr.slice, Instr.sliceBounds, Instr.sliceBound, asIntOf, h5]
    · simp [Instr.sliceAt, run_underlying hT, Instr.slice, Instr.sliceBounds, Instr.sliceBound, asIntOf, h6, h5]
  · exact h.elim

end ops
end Go.AM
