/-
  The abstract machine: append, make, slices of slices, lengths, and other operations.
  The abstract machine: append, make, struct literals, variables, stores.
  The abstract machine: make, struct literals, variables, stores.
  The abstract machine: stores.
-/
import Derived.Test.Ytoglpcfaojcmeaag1
import Derived.Laws.StructEq
import Derived.Lib.AppendZeros
/-! ## AmF -/
namespace Go.AM
open Go.RowKit
section ops
variable {P : Program}
def evLen (P : Program) (T : TypeId) (x : AV) (K : AV → Prop) : Prop :=
 match P.underlying T, x with
 | some (.slice _), .sl _ _ xs => K (.sc (.int .i64 xs.length))
 | some (.slice _), .nil => K (.sc (.int .i64 0))
 | some .string, .sc (.string s) => K (.sc (.int .i64 s.size))
 | some (.array n _), .ag _ => K (.sc (.int .i64 n))
 | some (.slice _), .so _ xs => K (.sc (.int .i64 xs.length))
 | some (.slice _), .tl _ _ xs i => K (.sc (.int .i64 (xs.length - i : Nat)))
 | _, _ => False
theorem evLen_sound {T : TypeId} {x : AV} {K : AV → Prop} (h : evLen P T x K) :
  ∃ r, K r ∧ ∀ (ty : TypeId) (d : Nat) (G : Nat → Status) (w : World) (v : Value), Good G w → VRel G w x v → Does P d G w (Builtin.len_ #[T] ty #[v]) r := by
 unfold evLen at h
 split at h
 ·rename_i hT
  refine ⟨_, h, fun ty d G w v hg hv => ?_⟩
  obtain ⟨ao, c, rfl, _⟩ := hv.sl_inv
  exact .pure hg (by simp [Builtin.len_, run_underlying hT, goInt]) (.froz (.sc _))
 ·rename_i hT
  refine ⟨_, h, fun ty d G w v hg hv => ?_⟩
  obtain rfl := hv.nil_inv
  exact .pure hg (by simp [Builtin.len_, run_underlying hT, goInt]) (.froz (.sc _))
 ·rename_i hT
  refine ⟨_, h, fun ty d G w v hg hv => ?_⟩
  obtain rfl := hv.sc_inv
  exact .pure hg (by simp [Builtin.len_, run_underlying hT, goInt]) (.froz (.sc _))
 ·rename_i hT
  refine ⟨_, h, fun ty d G w v hg hv => ?_⟩
  exact .pure hg (by simp [Builtin.len_, run_underlying hT, goInt]) (.froz (.sc _))
 ·rename_i hT
  refine ⟨_, h, fun ty d G w v hg hv => ?_⟩
  obtain ⟨ao, c, rfl, _⟩ := hv.so_inv
  exact .pure hg (by simp [Builtin.len_, run_underlying hT, goInt]) (.froz (.sc _))
 ·rename_i hT
  refine ⟨_, h, fun ty d G w v hg hv => ?_⟩
  obtain ⟨b, off, off', c, _, _, _, _, rfl⟩ := hv.tl_inv
  exact .pure hg (by simp [Builtin.len_, run_underlying hT, goInt]) (.froz (.sc _))
 ·exact h.elim
def evMax (x y : AV) (K : AV → Prop) : Prop :=
 match x, y with
 | .sc (.int k a), .sc (.int _ b) => K (.sc (.int k (max a b)))
 | _, _ => False
def evMin (x y : AV) (K : AV → Prop) : Prop :=
 match x, y with
 | .sc (.int k a), .sc (.int _ b) => K (.sc (.int k (min a b)))
 | _, _ => False
theorem evMax_sound {x y : AV} {K : AV → Prop} (h : evMax x y K) :
  ∃ r, K r ∧ ∀ (As : Array TypeId) (ty : TypeId) (d : Nat) (G : Nat → Status) (w : World) (v u : Value), Good G w → VRel G w x v → VRel G w y u → Does P d G w (Builtin.max_ As ty #[v, u]) r := by
 unfold evMax at h
 split at h
 ·refine ⟨_, h, fun As ty d G w v u hg hv hu => ?_⟩
  obtain rfl := hv.sc_inv; obtain rfl := hu.sc_inv
  rename_i k a _ b
  refine .pure hg (v := .int k (max a b)) ?_ (.froz (.sc _))
  have : (if a < b then b else a) = max a b := by omega
  simp [Builtin.max_, Builtin.max2, this]
 ·exact h.elim
theorem evMin_sound {x y : AV} {K : AV → Prop} (h : evMin x y K) :
  ∃ r, K r ∧ ∀ (As : Array TypeId) (ty : TypeId) (d : Nat) (G : Nat → Status) (w : World) (v u : Value), Good G w → VRel G w x v → VRel G w y u → Does P d G w (Builtin.min_ As ty #[v, u]) r := by
 unfold evMin at h
 split at h
 ·refine ⟨_, h, fun As ty d G w v u hg hv hu => ?_⟩
  obtain rfl := hv.sc_inv; obtain rfl := hu.sc_inv
  rename_i k a _ b
  refine .pure hg (v := .int k (min a b)) ?_ (.froz (.sc _))
  have : (if b < a then b else a) = min a b := by omega
  simp [Builtin.min_, Builtin.min2, this]
 ·exact h.elim
def evCap (P : Program) (T : TypeId) (x : AV) (K : AV → Prop) : Prop :=
 match P.underlying T, x with
 | some (.slice _), .sl t _ xs => t = 1 ∧ K (.sc (.int .i64 xs.length))
 | some (.slice _), .nil => K (.sc (.int .i64 0))
 | _, _ => False
theorem evCap_sound {T : TypeId} {x : AV} {K : AV → Prop} (h : evCap P T x K) :
  ∃ r, K r ∧ ∀ (ty : TypeId) (d : Nat) (G : Nat → Status) (w : World) (v : Value), Good G w → VRel G w x v → Does P d G w (Builtin.cap_ #[T] ty #[v]) r := by
 unfold evCap at h
 split at h
 ·rename_i hT
  obtain ⟨ht, hK⟩ := h
  refine ⟨_, hK, fun ty d G w v hg hv => ?_⟩
  obtain ⟨ao, c, rfl, hc, _⟩ := hv.sl_inv
  have := hc ht; subst this
  exact .pure hg (by simp [Builtin.cap_, run_underlying hT, goInt]) (.froz (.sc _))
 ·rename_i hT
  refine ⟨_, h, fun ty d G w v hg hv => ?_⟩
  obtain rfl := hv.nil_inv
  exact .pure hg (by simp [Builtin.cap_, run_underlying hT, goInt]) (.froz (.sc _))
 ·exact h.elim
def flatL (P : Program) : List Field → Option (List (Nat × Bool))
 | [] => some []
 | f :: fs => if f.name = "_" then none else if aggT P f.type = some false then match P.underlying f.type with
  | some (.int _) => (flatL P fs).map fun l => (f.offset, true) :: l
  | some .bool => (flatL P fs).map fun l => (f.offset, false) :: l
  | _ => none
  else none
def flatF (P : Program) (T : TypeId) : Option (List (Nat × Bool)) :=
 match P.underlying T with
 | some (.struct fs) => if (P.stoodInHeld T || P.eqGuardType P.depth T) = true then none else flatL P fs.toList
 | _ => none
def eqCK (xs ys : List AV) : List (Nat × Bool) → (Bool → Prop) → Prop
 | [], K => K true
 | (o, true) :: r, K => match xs[o]?, ys[o]? with
  | some (.sc (.int k a)), some (.sc (.int k' b)) => k = k' ∧ eqCK xs ys r fun c => K ((a == b) && c)
  | _, _ => False
 | (o, false) :: r, K => match xs[o]?, ys[o]? with
  | some (.sc (.bool a)), some (.sc (.bool b)) => eqCK xs ys r fun c => K ((a == b) && c)
  | _, _ => False
theorem part_cell {G : Nat → Status} {w : World} {T : TypeId} {xs : List AV} {vs : Array Value} {o : Nat} {c : Value} (ha : aggT P T = some false) (h : PW (VRel G w) xs vs.toList) (hx : xs[o]? = some (.sc c)) : (part T vs o).run P w = .ok c w := by
 have hlt : o < vs.toList.length := by rw [← h.1]; exact (List.getElem?_eq_some_iff.1 hx).1
 have hu := List.getElem?_eq_getElem hlt
 have := (h.2 _ _ _ hx hu).sc_inv
 have e : vs[o]? = some c := by rw [← this]; simp
 simp [part, run_isAgg ha, e]
theorem eqCK_sound {xs ys : List AV} : ∀ (fs : List Field) (l : List (Nat × Bool)) (K : Bool → Prop), flatL P fs = some l → eqCK xs ys l K →
  ∃ c, K c ∧ ∀ (G : Nat → Status) (w : World) (vs us : Array Value), PW (VRel G w) xs vs.toList → PW (VRel G w) ys us.toList → (Op.eqFields 9999 vs us fs).run P w = .ok c w
 | [], l, K, hl, h => by
  simp only [flatL, Option.some.injEq] at hl
  subst hl
  exact ⟨true, h, fun G w vs us _ _ => by simp [Op.eqFields]⟩
 | f :: fs, l, K, hl, h => by
  unfold flatL at hl
  split at hl
  ·cases hl
  rename_i hname
  split at hl
  case isFalse => cases hl
  rename_i hagg
  split at hl
  ·rename_i k0 hT
   cases hr : flatL P fs with
   | none => simp [hr] at hl
   | some r =>
    simp only [hr, Option.map_some, Option.some.injEq] at hl
    subst hl
    unfold eqCK at h
    split at h
    ·rename_i k a k' b hx hy
     obtain ⟨rfl, h⟩ := h
     obtain ⟨c, hK, hc⟩ := eqCK_sound fs r _ hr h
     refine ⟨_, hK, fun G w vs us hv hu => ?_⟩
     simp only [Op.eqFields, ne_eq, hname, not_false_eq_true, if_true, Sem.run_bind, part_cell hagg hv hx, part_cell hagg hu hy, Result.andThen_ok, run_equalIn_int w 9998 f.type k k0 a b hT]
     by_cases hab : a = b
     ·subst hab; simp [hc G w vs us hv hu]
     ·simp [hab]
    ·exact h.elim
  ·rename_i hT
   cases hr : flatL P fs with
   | none => simp [hr] at hl
   | some r =>
    simp only [hr, Option.map_some, Option.some.injEq] at hl
    subst hl
    unfold eqCK at h
    split at h
    ·rename_i a b hx hy
     obtain ⟨c, hK, hc⟩ := eqCK_sound fs r _ hr h
     refine ⟨_, hK, fun G w vs us hv hu => ?_⟩
     simp only [Op.eqFields, ne_eq, hname, not_false_eq_true, if_true, Sem.run_bind, part_cell hagg hv hx, part_cell hagg hu hy, Result.andThen_ok, run_equalIn_bool' w 9998 f.type a b hT]
     by_cases hab : a = b
     ·subst hab; simp [hc G w vs us hv hu]
     ·simp [hab]
    ·exact h.elim
  ·cases hl
def evBinOp (P : Program) (op : BinOp) (T : TypeId) (x y : AV) (K : AV → Prop) : Prop :=
 match x, y with
 | .sc u, .sc v => evBin P op T u v fun r => K (.sc r)
 | .sl _ _ xs, .nil => (∃ E, P.underlying T = some (.slice E)) ∧ (xs = [] → (op = .eql ∨ op = .neq) ∧ K .ub) ∧ (xs ≠ [] → (op = .eql ∧ K (.sc (.bool false))) ∨ (op = .neq ∧ K (.sc (.bool true))))
 | .nil, .nil => (∃ E, P.underlying T = some (.slice E)) ∧ ((op = .eql ∧ K (.sc (.bool true))) ∨ (op = .neq ∧ K (.sc (.bool false))))
 | .ag xs, .ag ys => ∃ l, flatF P T = some l ∧ eqCK xs ys l fun c => (op = .eql ∧ K (.sc (.bool c))) ∨ (op = .neq ∧ K (.sc (.bool !c)))
 | .pb _ _, .sc (.pointer none) => (∃ E, P.underlying T = some (.pointer E)) ∧ op = .neq ∧ K (.sc (.bool true))
 | _, _ => False
theorem run_equal_ptr_nil {T E : TypeId} {a : Addr} (h : P.underlying T = some (.pointer E)) (w : World) : (Op.equal T (.pointer (some a)) (.pointer none)).run P w = .ok false w := by
 simp only [Op.equal, Op.maxDepth]
 show (Op.equalIn (9999 + 1) T (.pointer (some a)) (.pointer none)).run P w = _
 rw [Op.equalIn]
 simp [run_underlying h]
theorem run_equal_slice_nil {T E : TypeId} {ao : Option Addr} {n c : Nat} (h : P.underlying T = some (.slice E)) (w : World) : (Op.equal T (.slice ao n c) (.slice none 0 0)).run P w = .ok ao.isNone w := by
 simp only [Op.equal, Op.maxDepth]
 show (Op.equalIn (9999 + 1) T (.slice ao n c) (.slice none 0 0)).run P w = _
 rw [Op.equalIn]
 cases ao <;> simp [run_underlying h]
theorem evBinOp_sound {op : BinOp} {T : TypeId} {x y : AV} {K : AV → Prop} (a b : Operand) (h : evBinOp P op T x y K) :
  ∃ r, K r ∧ ∀ (d : Nat) (G : Nat → Status) (w : World) (v u : Value), Good G w → VRel G w x v → VRel G w y u → Does P d G w (do eqGuard op T a b v u; binOp op T v u : Sem Value) r := by
 unfold evBinOp at h
 split at h
 ·obtain ⟨r, hK, hr⟩ := evBin_sound a b h
  refine ⟨_, hK, fun d G w v u hg hv hu => ?_⟩
  obtain rfl := hv.sc_inv; obtain rfl := hu.sc_inv
  exact .pure hg (hr w) (.froz (.sc _))
 ·rename_i t es xs
  obtain ⟨⟨E, hT⟩, hn, hc⟩ := h
  by_cases hx : xs = []
  ·obtain ⟨hop, hK⟩ := hn hx
   refine ⟨_, hK, fun d G w v u hg hv hu => ?_⟩
   obtain ⟨ao, c, rfl, _⟩ := hv.sl_inv; obtain rfl := hu.nil_inv
   rcases hop with rfl | rfl
   ·exact .pure hg (v := .bool ao.isNone) (by simp [eqGuard, binOp, run_equal_slice_nil hT]) (.froz (.ub _))
   ·exact .pure hg (v := .bool (!ao.isNone)) (by simp [eqGuard, binOp, run_equal_slice_nil hT]) (.froz (.ub _))
  ·have hsome : ∀ {G w v}, VRel G w (.sl t es xs) v → ∃ ao c, v = .slice ao xs.length c ∧ ao.isNone = false := fun hv => by
    obtain ⟨ao, c, rfl, _, h2, _⟩ := hv.sl_inv
    refine ⟨ao, c, rfl, ?_⟩
    cases ao with
    | none => exact absurd (h2 rfl).2 hx
    | some _ => rfl
   rcases hc hx with ⟨rfl, hK⟩ | ⟨rfl, hK⟩
   ·refine ⟨_, hK, fun d G w v u hg hv hu => ?_⟩
    obtain ⟨ao, c, rfl, ha⟩ := hsome hv; obtain rfl := hu.nil_inv
    exact .pure hg (v := .bool false) (by simp [eqGuard, binOp, run_equal_slice_nil hT, ha]) (.froz (.sc _))
   ·refine ⟨_, hK, fun d G w v u hg hv hu => ?_⟩
    obtain ⟨ao, c, rfl, ha⟩ := hsome hv; obtain rfl := hu.nil_inv
    exact .pure hg (v := .bool true) (by simp [eqGuard, binOp, run_equal_slice_nil hT, ha]) (.froz (.sc _))
 ·obtain ⟨⟨E, hT⟩, ⟨rfl, hK⟩ | ⟨rfl, hK⟩⟩ := h
  ·refine ⟨_, hK, fun d G w v u hg hv hu => ?_⟩
   obtain rfl := hv.nil_inv; obtain rfl := hu.nil_inv
   exact .pure hg (v := .bool true) (by simp [eqGuard, binOp, run_equal_slice_nil hT]) (.froz (.sc _))
  ·refine ⟨_, hK, fun d G w v u hg hv hu => ?_⟩
   obtain rfl := hv.nil_inv; obtain rfl := hu.nil_inv
   exact .pure hg (v := .bool false) (by simp [eqGuard, binOp, run_equal_slice_nil hT]) (.froz (.sc _))
 ·obtain ⟨l, hl, h⟩ := h
  unfold flatF at hl
  split at hl
  case h_2 => cases hl
  rename_i fs hT
  split at hl
  ·cases hl
  rename_i hst
  simp only [Bool.or_eq_true, not_or, Bool.not_eq_true] at hst
  have hfo : P.fieldsOf T = fs := by simp [Program.fieldsOf, hT]
  obtain ⟨c, hK, hc⟩ := eqCK_sound _ _ _ hl h
  rcases hK with ⟨rfl, hK⟩ | ⟨rfl, hK⟩
  all_goals
   refine ⟨_, hK, fun d G w v u hg hv hu => ?_⟩
   obtain ⟨vs, rfl, _, hv⟩ := hv.ag_inv
   obtain ⟨us, rfl, _, hu⟩ := hu.ag_inv
   have hrun := run_equalIn_struct (P := P) w 9999 T vs us (by rw [hfo]; exact hT) hst.1
   rw [hfo, hc G w vs us hv hu] at hrun
  ·exact .pure hg (v := .bool c) (by simp only [Sem.run_bind, run_eqGuard_agg w .eql T a b vs us hst.2, Result.andThen_ok, run_eql_struct, hrun]) (.froz (.sc _))
  ·exact .pure hg (v := .bool (!c)) (by simp only [Sem.run_bind, run_eqGuard_agg w .neq T a b vs us hst.2, Result.andThen_ok, run_neq_struct, hrun]) (.froz (.sc _))
 ·obtain ⟨⟨E, hT⟩, rfl, hK⟩ := h
  refine ⟨_, hK, fun d G w v u hg hv hu => ?_⟩
  obtain ⟨b, _, rfl⟩ := hv.pb_inv; obtain rfl := hu.sc_inv
  exact .pure hg (v := .bool true) (by simp [eqGuard, binOp, run_equal_ptr_nil hT]) (.froz (.sc _))
 ·exact h.elim
theorem flat_take {es : Nat} : ∀ {xs : List AV} (n : Nat), (∀ x ∈ xs, x.cells.length = es) → flat (xs.take n) = (flat xs).take (n * es)
 | [], n, _ => by simp [flat]
 | x :: xs, 0, _ => by simp [flat]
 | x :: xs, n + 1, h => by
  have hx := h x (by simp)
  have := flat_take (xs := xs) n (fun y hy => h y (by simp [hy]))
  simp only [flat, List.take_succ_cons, List.flatMap_cons] at this ⊢
  rw [this, List.take_append, hx, show (n + 1) * es - es = n * es by rw [Nat.succ_mul]; omega, List.take_of_length_le (l := x.cells) (by rw [hx, Nat.succ_mul]; omega)]
theorem flat_drop {es : Nat} : ∀ {xs : List AV} (n : Nat), (∀ x ∈ xs, x.cells.length = es) → flat (xs.drop n) = (flat xs).drop (n * es)
 | [], n, _ => by simp [flat]
 | x :: xs, 0, _ => by simp
 | x :: xs, n + 1, h => by
  have hx := h x (by simp)
  have := flat_drop (xs := xs) n (fun y hy => h y (by simp [hy]))
  simp only [flat, List.drop_succ_cons, List.flatMap_cons] at this ⊢
  rw [this, List.drop_append, hx, show (n + 1) * es - es = n * es by rw [Nat.succ_mul]; omega, List.drop_eq_nil_of_le (as := x.cells) (by rw [hx, Nat.succ_mul]; omega), List.nil_append]
theorem FRel.part {S : Nat → Prop} {w : World} {t es : Nat} {xs : List AV} {ao : Option Addr} {n c l h m t' : Nat} (hr : FRel S w (.sl t es xs) (.slice ao n c)) (hl : l ≤ h) (hh : h ≤ xs.length) (hm : h ≤ m) (hmc : m ≤ c) (ht : t' < 2) (ht' : t' = 1 → m = h) :
  FRel S w (.sl t' es ((xs.take h).drop l)) (.slice (if m = l then ao else ao.map (·.add (l * es))) (h - l) (m - l)) := by
 have hlen : ((xs.take h).drop l).length = h - l := by rw [List.length_drop, List.length_take]; omega
 cases hr with
 | slNil _ _ a c h1 h2 h3 =>
  have : (([] : List AV).take h).drop l = [] := by simp
  rw [this]
  simp only [List.length_nil] at hh
  have : h - l = 0 := by omega
  rw [this]
  refine .slNil t' es _ _ ht (fun h1 => by have := ht' h1; omega) (fun h4 => ?_)
  have : ao = none := by
   split at h4
   ·exact h4
   ·simpa using h4
  have := h3 this; omega
 | sl _ _ _ b off c vals h1 h2 h3 hc h4 h5 h0 h6 h7 =>
  by_cases he : l = h
  ·subst he
   have : (xs.take l).drop l = [] := by simp
   rw [this, Nat.sub_self]
   refine .slNil t' es _ _ ht (fun h1 => by have := ht' h1; omega) (fun h4 => ?_)
   split at h4 <;> simp at h4
  ·have hml : m ≠ l := by omega
   rw [if_neg hml, ← hlen]
   have hwid : ∀ x ∈ (xs.take h).drop l, x.cells.length = es := fun x hx => h4 x (List.mem_of_mem_take (List.mem_of_mem_drop hx))
   have hfl : flat ((xs.take h).drop l) = ((flat xs).take (h * es)).drop (l * es) := by
    rw [flat_drop l (fun x hx => h4 x (List.mem_of_mem_take hx)), flat_take h h4]
   have hpw : PW (FRel S w) (flat ((xs.take h).drop l)) ((vals.take (h * es)).drop (l * es)) := by
    rw [hfl]; exact (PW.take ⟨h5, h7⟩ _).drop _
   simp only [Option.map_some, Addr.add_none]
   refine .sl t' es _ b (off + l * es) (m - l) _ ht h2 (fun h1 => by rw [hlen]; have := ht' h1; omega) (by rw [hlen]; omega) hwid hpw.1 (fun u hu => h0 u (List.mem_of_mem_take (List.mem_of_mem_drop hu))) (fun j u hj => ?_) hpw.2
   rw [List.getElem?_drop, List.getElem?_take] at hj
   split at hj
   ·rw [Nat.add_assoc]; exact h6 _ _ hj
   ·cases hj
def evBound (x : Option AV) (dflt : Nat) (K : Nat → Prop) : Prop :=
 match x with
 | none => K dflt
 | some (.sc (.int _ n)) => 0 ≤ n ∧ K n.toNat
 | _ => False
def evSlice (P : Program) (T : TypeId) (x : AV) (lo hi mx : Option AV) (K : AV → Prop) : Prop :=
  match P.underlying T, x with
  | some (.slice E), .sl t es xs => (∃ q, tinfo P E = some q ∧ q.1 = es) ∧ if t < 2 then
      (match mx with
       | none => evBound hi xs.length fun h => evBound lo 0 fun l => l ≤ h ∧ h ≤ xs.length ∧ K (.sl 0 es ((xs.take h).drop l))
       | some m => hi.isSome = true ∧ evBound (some m) 0 fun m => evBound hi 0 fun h => evBound lo 0 fun l => m = h ∧ l ≤ h ∧ h ≤ xs.length ∧ K (.sl 1 es ((xs.take h).drop l)))
      else mx = none ∧ if (hi.isNone && lo.isSome) = true then evBound lo 0 fun l => l < xs.length ∧ K (.tl t es xs l)
        else evBound hi xs.length fun h => evBound lo 0 fun l => l = 0 ∧ h ≤ xs.length ∧ K (.sl t es (xs.take h))
  | some (.slice E), .tl t es xs i => (∃ q, tinfo P E = some q ∧ q.1 = es) ∧ mx = none ∧ hi = none ∧ evBound lo 0 fun l => i + l ≤ xs.length ∧ K (.tl t es xs (i + l))
  | some (.slice E), .nil => mx = none ∧ (∃ q, tinfo P E = some q) ∧ evBound hi 0 fun h => evBound lo 0 fun l => l = 0 ∧ h = 0 ∧ K .nil
  | some .string, .sc (.string s) => mx = none ∧ evBound hi s.size fun h => evBound lo 0 fun l => l ≤ h ∧ h ≤ s.size ∧ K (.sc (.string (s.extract l h)))
  | _, _ => False
theorem evBound_spec {x : Option AV} {dflt : Nat} {K : Nat → Prop} (h : evBound x dflt K) : ∃ n, K n ∧ (x = none → n = dflt) ∧ ∀ a, x = some a → ∃ k, a = .sc (.int k n) := by
 unfold evBound at h
 split at h
 ·exact ⟨_, h, fun _ => rfl, (fun _ h => by cases h)⟩
 ·rename_i k n
  refine ⟨n.toNat, h.2, (fun h => by cases h), fun a ha => ?_⟩
  cases ha
  exact ⟨k, by rw [Int.toNat_of_nonneg h.1]⟩
 ·exact h.elim
def ORel (G : Nat → Status) (w : World) (x : Option AV) (v : Option Value) : Prop :=
 match x, v with
 | none, none => True
 | some x, some v => VRel G w x v
 | _, _ => False
theorem ORel.bound {G : Nat → Status} {w : World} {x : Option AV} {v : Option Value} {n dflt : Nat} (h : ORel G w x v) (h0 : x = none → n = dflt) (h1 : ∀ a, x = some a → ∃ k, a = .sc (.int k n)) :
  (x = none ∧ v = none ∧ n = dflt) ∨ (∃ k, v = some (.int k (n : Int))) := by
 cases x with
 | none => cases v with
  | none => exact .inl ⟨rfl, rfl, h0 rfl⟩
  | some v => exact h.elim
 | some x => cases v with
  | none => exact h.elim
  | some v =>
   obtain ⟨k, rfl⟩ := h1 x rfl
   have := VRel.sc_inv h
   subst this; exact .inr ⟨k, rfl⟩
theorem evSlice_sound {T : TypeId} {x : AV} {lo hi mx : Option AV} {K : AV → Prop} (h : evSlice P T x lo hi mx K) :
  ∃ r, K r ∧ ∀ (d : Nat) (G : Nat → Status) (w : World) (v : Value) (vl vh vm : Option Value), Good G w → VRel G w x v → ORel G w lo vl → ORel G w hi vh → ORel G w mx vm → Does P d G w (Instr.sliceAt T v vl vh vm) r := by
 unfold evSlice at h
 split at h
 ·rename_i E t es xs hT
  obtain ⟨⟨⟨sz, by_, z⟩, hq, rfl⟩, h⟩ := h
  split at h
  ·rename_i ht
   split at h
   ·obtain ⟨nh, h, h1, h2⟩ := evBound_spec h
    obtain ⟨nl, h, h3, h4⟩ := evBound_spec h
    obtain ⟨h5, h6, hK⟩ := h
    refine ⟨_, hK, fun d G w v vl vh vm hg hv hl hh hm => ?_⟩
    have hf := hv.fzLeaf (by simpa [fzLeaf] using ht)
    obtain ⟨ao, c, rfl, _, _, hc, _⟩ := hv.sl_inv
    have hvm : vm = none := by cases vm with | none => rfl | some _ => exact hm.elim
    subst hvm
    refine .pure hg (v := .slice (if c = nl then ao else ao.map (·.add (nl * sz))) (nh - nl) (c - nl)) ?_ (.froz (hf.part h5 h6 (by omega) (Nat.le_refl _) (by omega) (by omega)))
    rcases hl.bound h3 h4 with ⟨_, rfl, rfl⟩ | ⟨k, rfl⟩ <;> rcases hh.bound h1 h2 with ⟨_, rfl, rfl⟩ | ⟨k', rfl⟩
    ·simp [Instr.sliceAt, run_underlying hT, Instr.slice, Instr.sliceBounds, run_sizeOf hq]
    ·simp [Instr.sliceAt, run_underlying hT, Instr.slice, Instr.sliceBounds, Instr.sliceBound, asIntOf, run_sizeOf hq, show nh ≤ c by omega]
    ·simp [Instr.sliceAt, run_underlying hT, Instr.slice, Instr.sliceBounds, Instr.sliceBound, asIntOf, run_sizeOf hq, h5]
    ·simp [Instr.sliceAt, run_underlying hT, Instr.slice, Instr.sliceBounds, Instr.sliceBound, asIntOf, run_sizeOf hq, show nh ≤ c by omega, h5]
   ·rename_i m
    obtain ⟨hsome, h⟩ := h
    obtain ⟨nm, h, _, hm2⟩ := evBound_spec h
    obtain ⟨nh, h, h1, h2⟩ := evBound_spec h
    obtain ⟨nl, h, h3, h4⟩ := evBound_spec h
    obtain ⟨rfl, h5, h6, hK⟩ := h
    refine ⟨_, hK, fun d G w v vl vh vm hg hv hl hh hm => ?_⟩
    have hf := hv.fzLeaf (by simpa [fzLeaf] using ht)
    obtain ⟨ao, c, rfl, _, _, hc, _⟩ := hv.sl_inv
    refine .pure hg (v := .slice (if nm = nl then ao else ao.map (·.add (nl * sz))) (nm - nl) (nm - nl)) ?_ (.froz (hf.part h5 h6 (Nat.le_refl _) (by omega) (by omega) (fun _ => rfl)))
    rcases hm.bound (dflt := 0) (fun h => by cases h) hm2 with ⟨h, _⟩ | ⟨k'', rfl⟩
    ·cases h
    rcases hh.bound h1 h2 with ⟨h, _⟩ | ⟨k', rfl⟩
    ·rw [h] at hsome; cases hsome
    rcases hl.bound h3 h4 with ⟨_, rfl, rfl⟩ | ⟨k, rfl⟩
    ·simp [Instr.sliceAt, run_underlying hT, Instr.slice, Instr.sliceBounds, Instr.sliceBound, asIntOf, run_sizeOf hq, show nm ≤ c by omega]
    ·simp [Instr.sliceAt, run_underlying hT, Instr.slice, Instr.sliceBounds, Instr.sliceBound, asIntOf, run_sizeOf hq, show nm ≤ c by omega, h5]
  ·rename_i ht
   obtain ⟨rfl, h⟩ := h
   split at h
   ·rename_i hb
    obtain ⟨nl, h, h3, h4⟩ := evBound_spec h
    obtain ⟨hlt, hK⟩ := h
    refine ⟨_, hK, fun d G w v vl vh vm hg hv hl hh hm => ?_⟩
    simp only [Bool.and_eq_true, Option.isNone_iff_eq_none] at hb
    obtain ⟨rfl, hsome⟩ := hb
    have hvm : vm = none := by cases vm with | none => rfl | some _ => exact hm.elim
    have hvh : vh = none := by cases vh with | none => rfl | some _ => exact hh.elim
    subst hvm; subst hvh
    cases hv with
    | froz h => exfalso; cases h <;> omega
    | own _ _ _ _ e vals g1 g2 g3 g4 g0 g5 =>
     rcases g2.2 with ⟨rfl, hn⟩ | ⟨g, cap, cur, rfl, hg0, hh0, hn, hcm, hcs, htk⟩
     ·omega
     ·have hown : VRel G w (.sl t sz xs) (.slice (some ⟨g, 0, none⟩) xs.length cap) := .own t sz xs _ e vals g1 g2 g3 g4 g0 g5
      refine .pure hg (v := .slice (some ⟨g, 0 + nl * sz, none⟩) (xs.length - nl) (cap - nl)) ?_ (.tl t sz xs nl g 0 _ cap hown (by omega) (.inl rfl))
      have hadd : (Addr.mk g 0 none).add (nl * sz) = ⟨g, 0 + nl * sz, none⟩ := Addr.add_none g 0 _
      rcases hl.bound h3 h4 with ⟨rfl, _, _⟩ | ⟨k, rfl⟩
      ·cases hsome
      ·simp [Instr.sliceAt, run_underlying hT, Instr.slice, Instr.sliceBounds, Instr.sliceBound, asIntOf, run_sizeOf hq, hadd, show nl ≤ xs.length by omega, show ¬ cap = nl by omega]
   obtain ⟨nh, h, h1, h2⟩ := evBound_spec h
   obtain ⟨nl, h, h3, h4⟩ := evBound_spec h
   obtain ⟨rfl, h6, hK⟩ := h
   refine ⟨_, hK, fun d G w v vl vh vm hg hv hl hh hm => ?_⟩
   have hvm : vm = none := by cases vm with | none => rfl | some _ => exact hm.elim
   subst hvm
   have hlen : (xs.take nh).length = nh := by rw [List.length_take]; omega
   cases hv with
   | froz h => exfalso; cases h <;> omega
   | own _ _ _ _ e vals g1 g2 g3 g4 g0 g5 =>
    have hw' : ∀ x ∈ xs.take nh, x.cells.length = sz := fun x hx => g4 x (List.mem_of_mem_take hx)
    have hp' : PW (FRel (Stable G) w) (flat (xs.take nh)) (vals.take (nh * sz)) := by rw [flat_take nh g4]; exact g5.take _
    have h1' : One (vals.take (nh * sz)) := fun u hu => g0 u (List.mem_of_mem_take hu)
    have hvl : (vals.take (nh * sz)).length = nh * sz := by
     rw [← hp'.1, flat_length hw', hlen]
    rcases g2.2 with ⟨rfl, hn⟩ | ⟨g, cap, cur, rfl, hg0, hh0, hn, hcm, hcs, htk⟩
    ·have hz : nh = 0 := by omega
     subst hz
     have hown : VRel G w (.sl t sz (xs.take 0)) (.slice none 0 0) := .own t sz _ _ e [] (by omega) (World.ownsRow_nil _ _ _ _) (fun b hb => by simp [Value.ownBlock] at hb) (by simp) (fun _ h => by simp at h) (by simpa [flat] using PW.nil _)
     refine .pure hg (v := .slice none 0 0) ?_ hown
     rcases hl.bound h3 h4 with ⟨_, rfl, _⟩ | ⟨k, rfl⟩ <;> rcases hh.bound h1 h2 with ⟨_, rfl, he⟩ | ⟨k', rfl⟩ <;>
      simp [Instr.sliceAt, run_underlying hT, Instr.slice, Instr.sliceBounds, Instr.sliceBound, asIntOf, run_sizeOf hq]
    ·refine .pure hg (v := .slice (some ⟨g, 0, none⟩) nh cap) ?_ (.own t sz _ _ e (vals.take (nh * sz)) (by omega) ⟨by rw [hvl, hlen], .inr ⟨g, cap, cur, by rw [hlen], Nat.zero_le _, hh0, by rw [hlen]; omega, hcm, hcs, by rw [hlen, ← htk, List.take_take]; congr 1; exact (Nat.min_eq_left (Nat.mul_le_mul_right _ h6)).symm⟩⟩ (fun b hb => by simp only [Value.ownBlock, Option.some.injEq] at hb; subst hb; exact g3 g rfl) hw' h1' hp')
     have hadd : (Addr.mk g 0 none).add 0 = ⟨g, 0, none⟩ := Addr.add_none g 0 0
     rcases hl.bound h3 h4 with ⟨_, rfl, _⟩ | ⟨k, rfl⟩ <;> rcases hh.bound h1 h2 with ⟨_, rfl, he⟩ | ⟨k', rfl⟩
     ·simp [Instr.sliceAt, run_underlying hT, Instr.slice, Instr.sliceBounds, run_sizeOf hq, he, hadd]
     ·simp [Instr.sliceAt, run_underlying hT, Instr.slice, Instr.sliceBounds, Instr.sliceBound, asIntOf, run_sizeOf hq, hadd, show nh ≤ cap by omega]
     ·simp [Instr.sliceAt, run_underlying hT, Instr.slice, Instr.sliceBounds, Instr.sliceBound, asIntOf, run_sizeOf hq, he, hadd]
     ·simp [Instr.sliceAt, run_underlying hT, Instr.slice, Instr.sliceBounds, Instr.sliceBound, asIntOf, run_sizeOf hq, hadd, show nh ≤ cap by omega]
 ·rename_i E t es xs i hT
  obtain ⟨⟨⟨sz, by_, z⟩, hq, rfl⟩, rfl, rfl, h⟩ := h
  obtain ⟨nl, h, h3, h4⟩ := evBound_spec h
  obtain ⟨hle, hK⟩ := h
  refine ⟨_, hK, fun d G w v vl vh vm hg hv hl hh hm => ?_⟩
  have hvm : vm = none := by cases vm with | none => rfl | some _ => exact hm.elim
  have hvh : vh = none := by cases vh with | none => rfl | some _ => exact hh.elim
  subst hvm; subst hvh
  obtain ⟨b, off, off', c, hbase, h5, h6, hc, rfl⟩ := hv.tl_inv
  have h6 : off' = off + i * sz ∨ c ≤ i := h6
  have key : ∃ off2, (if c - i = nl then some (Addr.mk b off' none) else (some (Addr.mk b off' none)).map (·.add (nl * sz))) = some ⟨b, off2, none⟩ ∧ (off2 = off + (i + nl) * sz ∨ c ≤ i + nl) := by
   by_cases hcn : c - i = nl
   ·exact ⟨off', by rw [if_pos hcn], .inr (by omega)⟩
   ·refine ⟨off' + nl * sz, by rw [if_neg hcn]; simp [Addr.add_none], ?_⟩
    rcases h6 with h6 | h6
    ·exact .inl (by rw [h6, Nat.add_mul]; omega)
    ·exact .inr (by omega)
  obtain ⟨off2, k1, k2⟩ := key
  have hrel := VRel.tl t sz xs (i + nl) b off off2 c hbase hle k2
  refine .pure hg (v := .slice (some ⟨b, off2, none⟩) (xs.length - (i + nl)) (c - (i + nl))) ?_ hrel
  have e1 : xs.length - i - nl = xs.length - (i + nl) := by omega
  have e2 : c - i - nl = c - (i + nl) := by omega
  rcases hl.bound h3 h4 with ⟨_, rfl, rfl⟩ | ⟨k, rfl⟩
  ·have k1' := k1
   simp [Instr.sliceAt, run_underlying hT, Instr.slice, Instr.sliceBounds, run_sizeOf hq, ← k1]
  ·simp [Instr.sliceAt, run_underlying hT, Instr.slice, Instr.sliceBounds, Instr.sliceBound, asIntOf, run_sizeOf hq, show nl ≤ xs.length - i by omega, e1, e2, ← k1]
 ·rename_i E hT
  obtain ⟨rfl, ⟨⟨sz, by_, z⟩, hq⟩, h⟩ := h
  obtain ⟨nh, h, h1, h2⟩ := evBound_spec h
  obtain ⟨nl, h, h3, h4⟩ := evBound_spec h
  obtain ⟨rfl, rfl, hK⟩ := h
  refine ⟨_, hK, fun d G w v vl vh vm hg hv hl hh hm => ?_⟩
  obtain rfl := hv.nil_inv
  have hvm : vm = none := by cases vm with | none => rfl | some _ => exact hm.elim
  subst hvm
  refine .pure hg (v := .slice none 0 0) ?_ (.froz .nil)
  rcases hl.bound h3 h4 with ⟨_, rfl, _⟩ | ⟨k, rfl⟩ <;> rcases hh.bound h1 h2 with ⟨_, rfl, he⟩ | ⟨k', rfl⟩ <;>
   simp [Instr.sliceAt, run_underlying hT, Instr.slice, Instr.sliceBounds, Instr.sliceBound, asIntOf, run_sizeOf hq]
 ·rename_i s hT
  obtain ⟨rfl, h⟩ := h
  obtain ⟨nh, h, h1, h2⟩ := evBound_spec h
  obtain ⟨nl, h, h3, h4⟩ := evBound_spec h
  obtain ⟨h5, h6, hK⟩ := h
  refine ⟨_, hK, fun d G w v vl vh vm hg hv hl hh hm => ?_⟩
  obtain rfl := hv.sc_inv
  have hvm : vm = none := by cases vm with | none => rfl | some _ => exact hm.elim
  subst hvm
  refine .pure hg (v := .string (s.extract nl nh)) ?_ (.froz (.sc _))
  rcases hl.bound h3 h4 with ⟨_, rfl, rfl⟩ | ⟨k, rfl⟩ <;> rcases hh.bound h1 h2 with ⟨_, rfl, rfl⟩ | ⟨k', rfl⟩
  ·simp [Instr.sliceAt, run_underlying hT, Instr.slice, Instr.sliceBounds]
  ·simp [Instr.sliceAt, run_underlying hT, Instr.slice, Instr.sliceBounds, Instr.sliceBound, asIntOf, h6]
  ·simp [Instr.sliceAt, run_underlying hT, Instr.slice, Instr.sliceBounds, Instr.sliceBound, asIntOf, h5]
  ·simp [Instr.sliceAt, run_underlying hT, Instr.slice, Instr.sliceBounds, Instr.sliceBound, asIntOf, h6, h5]
 ·exact h.elim
end ops
end Go.AM

/-! ## AmG -/
namespace Go.AM
open Go.RowKit
section ops
variable {P : Program}
theorem run_append_zero {T ty E : TypeId} {sz by_ : Nat} {z : Option Value} (hT : P.underlying T = some (.slice E)) (hq : tinfo P E = some (sz, by_, z)) {ao ax : Option Addr} {n c cx : Nat} (h : n ≤ c) (w : World) :
  (Builtin.append_ #[T, T] ty #[.slice ao n c, .slice ax 0 cx]).run P w = .ok (.slice ao n c) w := by
 have hf : (Builtin.firstCells sz 0 (.slice ax 0 cx)).run P w = .ok #[] w := by
  cases ax with
  | none => simp [Builtin.firstCells]
  | some a =>
   have := run_loadCells_list (P := P) w a [] (by simp)
   simpa [Builtin.firstCells] using this
 cases ao with
 | none => simp [Builtin.append_, run_underlying hT, run_sizeOf hq, Builtin.lenOf, h, hf]
 | some a => simp [Builtin.append_, run_underlying hT, run_sizeOf hq, Builtin.lenOf, h, hf, storeCells]
theorem run_append_room' {w : World} (t ty e e' : TypeId) {sz by_ : Nat} {z : Option Value} (ht : P.underlying t = some (.slice e)) (hi : tinfo P e = some (sz, by_, z))
  (g sLen sCap : Nat) (cur : Array Value) (hg : w.heap[g]? = some (.cells cur e' (0, 0)))
  (a : Addr) (m c : Nat) (news : List Value) (hl : news.length = m * sz) (hnews : ∀ j u, news[j]? = some u → w.cell? (a.add j) = some u) (h1 : ∀ u ∈ news, u.oneCell' = true)
  (hroom : sLen + m ≤ sCap) (hfit : sLen * sz + news.length ≤ cur.size) :
  (Builtin.append_ #[t, t] ty #[.slice (some ⟨g, 0, none⟩) sLen sCap, .slice (some a) m c]).run P w =
   .ok (.slice (some ⟨g, 0, none⟩) (sLen + m) sCap) (w.setRow g (cur.toList.take (sLen * sz) ++ news ++ cur.toList.drop (sLen * sz + news.length)).toArray) := by
 have hf := run_firstCells_some (P := P) w sz m a m c news hl hnews
 have hst := run_storeCells_at P g (sLen * sz) e' news 0 cur w hg (by simpa using hfit) h1
 simp only [Nat.add_zero] at hst
 simp [Builtin.append_, run_underlying ht, run_sizeOf hi, Builtin.lenOf, hroom, hf, Addr.add_none, hst]
theorem VRel.news {G : Nat → Status} {w : World} {t es : Nat} {ys : List AV} {v : Value} (h : VRel G w (.sl t es ys) v) :
  (ys = [] ∧ ∃ ax c, v = .slice ax 0 c) ∨ (∃ a c news, v = .slice (some a) ys.length c ∧ news.length = ys.length * es ∧ (∀ j u, news[j]? = some u → w.cell? (a.add j) = some u) ∧ One news ∧ (∀ x ∈ ys, x.cells.length = es) ∧ PW (FRel (Stable G) w) (flat ys) news) := by
 obtain ⟨ao, c, rfl, _, _, _, h | ⟨b, off, vals, rfl, _, h1, h2, h3, h4⟩⟩ := h.sl_inv
 ·subst h; exact .inl ⟨rfl, ao, c, rfl⟩
 ·exact .inr ⟨_, c, vals, rfl, by rw [← h4.1, flat_length h1], fun j u hj => by rw [Addr.add_none]; exact h3 j u hj, h2, h1, h4⟩
def roomFor (n by_ : Nat) : Prop := n * by_ ≤ 140737488355328 ∧ n ≤ 9223372036854775807
def evAppendNew (P : Program) (d : Nat) (T T' : TypeId) (x y : AV) (K : AV → Prop) : Prop :=
 match P.underlying T with
 | some (.slice E) => T' = T ∧ ∃ q, tinfo P E = some q ∧ 0 < q.1 ∧ (∃ z, q.2.2 = some z ∧ z.cells.size = q.1) ∧
  match x, y with
  | .nil, .nil => K .nil
  | .sl t es xs, .nil => K (.sl t es xs)
  | .nil, .sl _ es ys => es = q.1 ∧ roomFor ys.length q.2.1 ∧ K (.sl (64 * (d + 1)) es ys)
  | .sl t es xs, .sl _ es' ys => t = 1 ∧ es = q.1 ∧ es' = q.1 ∧ ys ≠ [] ∧ roomFor (xs.length + ys.length) q.2.1 ∧ K (.sl (64 * (d + 1)) es (xs ++ ys))
  | _, _ => False
 | _ => False
theorem own_new {G : Nat → Status} {w w' : World} {d es n : Nat} {e : TypeId} {xs : List AV} {v : Value} {vals : List Value} (hg : Good G w) (hf : Fresh d G)
  (ho : w'.ownsRow w.heap.size e es v n vals) (hn : n = xs.length) (hgr : w.grownBy w' none) (hw : ∀ x ∈ xs, x.cells.length = es) (h1 : One vals) (hp : PW (FRel (Stable G) w) (flat xs) vals) :
  ∃ G', VRel G' w' (.sl (64 * (d + 1)) es xs) v ∧ Ext G w G' w' ∧ Good G' w' ∧ NewTags d G G' := by
 subst hn
 have hE : Ext G w G w' := ⟨hgr.os, hgr.tape, hgr.output, hgr.size, fun _ _ => rfl, fun b hb => hgr.block b hb (by simp)⟩
 have hbase : ∀ {B}, w'.ownsRow B e es v xs.length vals → w'.ownsRow 0 e es v xs.length vals := fun h => ⟨h.1, h.2.imp id fun ⟨g, cap, cur, a, _, r⟩ => ⟨g, cap, cur, a, Nat.zero_le _, r⟩⟩
 have hp' : PW (FRel (Stable G) w') (flat xs) vals := hp.mono fun x y _ hr => hr.mono (fun _ h => h) (fun b hb => hE.keep b (hg.lt b (by unfold Stable at hb; rw [hb]; simp)))
 rcases ho.2 with ⟨hv, hn⟩ | ⟨g, cap, cur, hv, hgb, hh, r⟩
 ·refine ⟨G, .own _ es xs v e vals (by omega) (hbase ho) (fun b hb => by subst hv; simp [Value.ownBlock] at hb) hw h1 hp', hE, ⟨fun b hb => Nat.lt_of_lt_of_le (hg.lt b hb) hgr.size, hg.tags, hg.boxes⟩, .refl d G⟩
 ·have hlt : g < w'.heap.size := by
   rcases Nat.lt_or_ge g w'.heap.size with h | h
   ·exact h
   ·simp [Array.getElem?_eq_none h] at hh
  refine ⟨updG G g (.tag (64 * (d + 1))), .own _ es xs v e vals (by omega) (hbase ho) (fun b hb => ?_) hw h1 (hp'.mono fun x y _ hr => hr.mono (fun b hb => ?_) (fun _ _ => rfl)), ?_, hg.upd _ _ hgb hlt hgr.size (fun t ht b hb => ?_) (fun i h => by cases h), .upd hf.own⟩
  ·subst hv; simp only [Value.ownBlock, Option.some.injEq] at hb; simp [updG, ← hb]
  ·have := hg.lt b (by unfold Stable at hb; rw [hb]; simp)
   unfold Stable at *; simp only [updG]; rw [if_neg (by omega)]; exact hb
  ·exact ⟨hgr.os, hgr.tape, hgr.output, hgr.size, fun b hb => by simp only [updG]; rw [if_neg (by omega)], fun b hb => hgr.block b hb (by simp)⟩
  ·cases ht; exact hf.ne hb
theorem evAppendNew_sound {d : Nat} {T T' : TypeId} {x y : AV} {K : AV → Prop} (h : evAppendNew P d T T' x y K) :
  ∃ r, K r ∧ ∀ (ty : TypeId) (G : Nat → Status) (w : World) (v u : Value), Good G w → Fresh d G → VRel G w x v → VRel G w y u → Does P d G w (Builtin.append_ #[T, T'] ty #[v, u]) r := by
 unfold evAppendNew at h
 split at h
 ·rename_i E hT
  obtain ⟨rfl, ⟨sz, by_, z⟩, hq, h0, ⟨z', hz, hzs⟩, h⟩ := h
  simp only at h0 hz hzs h
  subst hz
  obtain ⟨i, hi, hsz, hby, hzz⟩ := tinfo_some hq
  split at h
  ·refine ⟨_, h, fun ty G w v u hg hf hv hu => ?_⟩
   obtain rfl := hv.nil_inv; obtain rfl := hu.nil_inv
   exact .pure hg (run_append_zero hT hq (Nat.le_refl _) w) (.froz .nil)
  ·refine ⟨_, h, fun ty G w v u hg hf hv hu => ?_⟩
   obtain ⟨ao, c, hve, _, _, hc, _⟩ := hv.sl_inv; obtain rfl := hu.nil_inv
   subst hve
   exact .pure hg (run_append_zero hT hq hc w) hv
  ·rename_i t es ys
   obtain ⟨he1, hb, hK⟩ := h
   have he1 := he1.symm; subst he1
   refine ⟨_, hK, fun ty G w v u hg hf hv hu => ?_⟩
   obtain rfl := hv.nil_inv
   rcases hu.news with ⟨rfl, ax, c, rfl⟩ | ⟨a, c, news, rfl, h1, h2, h3, h4, h5⟩
   ·exact .pure hg (run_append_zero hT hq (Nat.le_refl _) w) (.own _ _ _ _ E [] (by omega) (World.ownsRow_nil _ _ _ _) (fun b hb => by simp [Value.ownBlock] at hb) (by simp) (fun _ h => by simp at h) (.nil _))
   ·obtain ⟨v', w', hrun, ho, hgr, _⟩ := run_append_own (P := P) w w.heap.size T' ty E i z' sz by_ hT hi hzz hsz hby hzs h0 (.slice none 0 0) 0 [] (World.ownsRow_nil w _ E sz) a ys.length c news h1 h2 h3 (by simp only [maxLen, Nat.zero_add]; exact hb.2) (by simpa using hb.1) (Nat.le_refl _)
    simp only [Nat.zero_add, List.nil_append] at ho
    obtain ⟨G', r1, r2, r3, r4⟩ := own_new (d := d) hg hf ho rfl hgr h4 h3 h5
    exact ⟨v', w', G', hrun, r1, r2, r3, r4⟩
  ·rename_i t es xs t' es' ys
   obtain ⟨rfl, he1, he2, hne, hb, hK⟩ := h
   have he1 := he1.symm; have he2 := he2.symm; subst he1; subst he2
   refine ⟨_, hK, fun ty G w v u hg hf hv hu => ?_⟩
   have hpos : 0 < ys.length := by cases ys with | nil => exact absurd rfl hne | cons _ _ => simp
   rcases hu.news with ⟨rfl, _⟩ | ⟨a, c, news, rfl, h1, h2, h3, h4, h5⟩
   ·exact absurd rfl hne
   ·obtain ⟨ao, c0, rfl, hfull, hnone, hc, hx⟩ := hv.sl_inv
    have hfull := hfull rfl
    subst hfull
    have key : ∃ v' w' olds, (Builtin.append_ #[T', T'] ty #[.slice ao xs.length xs.length, .slice (some a) ys.length c]).run P w = .ok v' w' ∧ w'.ownsRow w.heap.size E sz v' (xs.length + ys.length) (olds ++ news) ∧ w.grownBy w' none ∧ One olds ∧ (∀ x ∈ xs, x.cells.length = sz) ∧ PW (FRel (Stable G) w) (flat xs) olds := by
     rcases hx with rfl | ⟨b, off, vals, rfl, _, g1, g2, g3, g4⟩
     ·cases ao with
      | none =>
       obtain ⟨v', w', hrun, ho, hgr, _⟩ := run_append_own (P := P) w w.heap.size T' ty E i z' sz by_ hT hi hzz hsz hby hzs h0 (.slice none 0 0) 0 [] (World.ownsRow_nil w _ E sz) a ys.length c news h1 h2 h3 (by simp only [maxLen, Nat.zero_add]; have := hb.2; simpa using this) (by simpa using hb.1) (Nat.le_refl _)
       exact ⟨v', w', [], by simpa using hrun, by simpa using ho, hgr, fun _ h => by simp at h, by simp, .nil _⟩
      | some b =>
       obtain ⟨v', w', hrun, ho, hgr⟩ := run_append_arg_grows (P := P) w T' ty E i z' sz by_ hT hi hzz hsz hby hzs h0 b 0 0 [] (by simp) (by simp) a ys.length c news h1 h2 (by omega) (by simp only [maxLen, Nat.zero_add]; have := hb.2; simpa using this) (by simpa using hb.1)
       exact ⟨v', w', [], by simpa using hrun, by simpa using ho, hgr, fun _ h => by simp at h, by simp, .nil _⟩
     ·obtain ⟨v', w', hrun, ho, hgr⟩ := run_append_arg_grows (P := P) w T' ty E i z' sz by_ hT hi hzz hsz hby hzs h0 ⟨b, off, none⟩ xs.length xs.length vals (by rw [← g4.1, flat_length g1]) (fun j u hj => by rw [Addr.add_none]; exact g3 j u hj) a ys.length c news h1 h2 (by omega) (by simp only [maxLen]; exact hb.2) hb.1
      exact ⟨v', w', vals, hrun, ho, hgr, g2, g1, g4⟩
    obtain ⟨v', w', olds, hrun, ho, hgr, k1, k2, k3⟩ := key
    have hfa : flat (xs ++ ys) = flat xs ++ flat ys := by simp [flat]
    obtain ⟨G', r1, r2, r3, r4⟩ := own_new (d := d) (xs := xs ++ ys) hg hf ho (by simp) hgr (fun x hx => by exact (List.mem_append.1 hx).elim (k2 x) (h4 x)) (fun u hu => by exact (List.mem_append.1 hu).elim (k1 u) (h3 u)) (by rw [hfa]; exact k3.append h5)
    exact ⟨v', w', G', hrun, r1, r2, r3, r4⟩
  ·exact h.elim
 ·exact h.elim
def evAppendOwn (P : Program) (T T' : TypeId) (x y : AV) (K : Nat → AV → Prop) : Prop :=
 match P.underlying T with
 | some (.slice E) => T' = T ∧ ∃ q, tinfo P E = some q ∧ 0 < q.1 ∧ (∃ z, q.2.2 = some z ∧ z.cells.size = q.1) ∧
  match x, y with
  | .sl t es xs, .sl t' es' ys => 2 ≤ t ∧ t' ≠ t ∧ es = q.1 ∧ es' = q.1 ∧ roomFor (xs.length + ys.length) q.2.1 ∧ K t (.sl t es (xs ++ ys))
  | _, _ => False
 | _ => False
structure ExtBut (t : Nat) (G : Nat → Status) (w : World) (G' : Nat → Status) (w' : World) : Prop where
 os : w'.os = w.os
 tape : w'.tape = w.tape
 output : w'.output = w.output
 size : w.heap.size ≤ w'.heap.size
 stat : ∀ b, b < w.heap.size → G b ≠ .tag t → G' b = G b
 keep : ∀ b, b < w.heap.size → G b ≠ .tag t → w'.heap[b]? = w.heap[b]?
 old : ∀ b, G b = .tag t → G' b = .tag t ∨ G' b = .junk
 new : ∀ b, w.heap.size ≤ b → G' b = .tag t ∨ G' b = .junk
theorem VRel.but {t : Nat} {G G' : Nat → Status} {w w' : World} {x : AV} {v : Value} (h : VRel G w x v) (hg : Good G w) (he : ExtBut t G w G' w') : VRel G' w' (x.kill t) v := by
 refine (h.kill (t0 := t)).mono (fun b hb => ?_) (fun b hb _ => ?_)
 ·unfold killG at hb ⊢
  split at hb
  ·exact absurd rfl hb
  ·rename_i hn; rw [if_neg hn]; exact he.stat b (hg.lt b hb) hn
 ·unfold killG at hb
  split at hb
  ·exact absurd rfl hb
  ·rename_i hn; exact he.keep b (hg.lt b hb) hn
theorem own_grows {t sz : Nat} {G : Nat → Status} {w w' : World} {E : TypeId} {xs ys : List AV} {olds news : List Value} {v' : Value} (hg : Good G w) (ht2 : 2 ≤ t) (o3 : ∀ x ∈ xs, x.cells.length = sz) (h3 : One news) (h4 : ∀ x ∈ ys, x.cells.length = sz)
  (h5 : PW (FRel (Stable G) w) (flat ys) news) (ho : w'.ownsRow w.heap.size E sz v' (xs.length + ys.length) (olds ++ news)) (hgr : w.grownBy w' none) (k1 : One olds) (k3 : PW (FRel (Stable G) w) (flat xs) olds) :
  ∃ G', VRel G' w' (.sl t sz (xs ++ ys)) v' ∧ ExtBut t G w G' w' ∧ Good G' w' := by
 have hfa : flat (xs ++ ys) = flat xs ++ flat ys := by simp [flat]
 have hEk : ∀ b, b < w.heap.size → w'.heap[b]? = w.heap[b]? := fun b hb => hgr.block b hb (by simp)
 have hp' : PW (FRel (Stable (killG t G)) w') (flat (xs ++ ys)) (olds ++ news) := by
  rw [hfa]
  exact (k3.append h5).mono fun x y _ hr => hr.mono (fun b hb => killG_stable.2 hb) (fun b hb => hEk b (hg.lt b (by unfold Stable at hb; rw [hb]; simp)))
 have hw : ∀ x ∈ xs ++ ys, x.cells.length = sz := fun x hx => by exact (List.mem_append.1 hx).elim (o3 x) (h4 x)
 have h1' : One (olds ++ news) := fun u hu => by exact (List.mem_append.1 hu).elim (k1 u) (h3 u)
 have hlen : xs.length + ys.length = (xs ++ ys).length := by simp
 rw [hlen] at ho
 have hgk : Good (killG t G) w := ⟨fun b hb => hg.lt b fun h => hb (by simp [killG, h]), fun b b' t' e1 e2 => by
   unfold killG at e1 e2; split at e1 <;> first | (cases e1; done) | (split at e2 <;> first | (cases e2; done) | exact hg.tags b b' t' e1 e2), fun b b' t' e1 e2 => by
   unfold killG at e1 e2; split at e1 <;> first | (cases e1; done) | (split at e2 <;> first | (cases e2; done) | exact hg.boxes b b' t' e1 e2)⟩
 have hno : ∀ b, killG t G b ≠ .tag t := fun b h => by unfold killG at h; split at h <;> first | (cases h; done) | exact absurd h (by assumption)
 have hjunk : ∀ b, w.heap.size ≤ b → killG t G b = .junk := fun b hb => Classical.byContradiction fun h => by have := hgk.lt b h; omega
 have hbase : w'.ownsRow 0 E sz v' (xs ++ ys).length (olds ++ news) := ⟨ho.1, ho.2.imp id fun ⟨g, cap, cur, a, _, r⟩ => ⟨g, cap, cur, a, Nat.zero_le _, r⟩⟩
 rcases ho.2 with ⟨hv, hn⟩ | ⟨g, cap, cur, hv, hgb, hh, r⟩
 ·refine ⟨killG t G, .own t sz _ v' E _ ht2 hbase (fun b hb => by subst hv; simp [Value.ownBlock] at hb) hw h1' hp', ⟨hgr.os, hgr.tape, hgr.output, hgr.size, fun b hb hn => by simp [killG, hn], fun b hb _ => hEk b hb, fun b hb => .inr (by simp [killG, hb]), fun b hb => .inr (hjunk b hb)⟩, ⟨fun b hb => Nat.lt_of_lt_of_le (hgk.lt b hb) hgr.size, hgk.tags, hgk.boxes⟩⟩
 ·have hlt : g < w'.heap.size := by
   rcases Nat.lt_or_ge g w'.heap.size with h | h
   ·exact h
   ·simp [Array.getElem?_eq_none h] at hh
  refine ⟨updG (killG t G) g (.tag t), .own t sz _ v' E _ ht2 hbase (fun b hb => ?_) hw h1' (hp'.mono fun x y _ hr => hr.mono (fun b hb => ?_) (fun _ _ => rfl)), ?_, hgk.upd _ _ hgb hlt hgr.size (fun t' ht' b hb => ?_) (fun i h => by cases h)⟩
  ·subst hv; simp only [Value.ownBlock, Option.some.injEq] at hb; simp [updG, ← hb]
  ·have := hgk.lt b (by unfold Stable at hb; rw [hb]; simp)
   unfold Stable at *; simp only [updG]; rw [if_neg (by omega)]; exact hb
  ·refine ⟨hgr.os, hgr.tape, hgr.output, hgr.size, fun b hb hn => by simp only [updG]; rw [if_neg (by omega)]; simp [killG, hn], fun b hb _ => hEk b hb, fun b hb => .inr ?_, fun b hb => ?_⟩
   ·simp only [updG]; rw [if_neg (by have := hg.lt b (by rw [hb]; simp); omega)]; simp [killG, hb]
   ·simp only [updG]; split
    ·exact .inl rfl
    ·exact .inr (hjunk b hb)
  ·cases ht'; exact hno b hb
theorem evAppendOwn_sound {T T' : TypeId} {x y : AV} {K : Nat → AV → Prop} (h : evAppendOwn P T T' x y K) :
  ∃ t r, K t r ∧ 2 ≤ t ∧ ∀ (ty : TypeId) (G : Nat → Status) (w : World) (v u : Value), Good G w → VRel G w x v → VRel G w y u →
   ∃ v' w' G', (Builtin.append_ #[T, T'] ty #[v, u]).run P w = .ok v' w' ∧ VRel G' w' r v' ∧ ExtBut t G w G' w' ∧ Good G' w' := by
 unfold evAppendOwn at h
 split at h
 ·rename_i E hT
  obtain ⟨rfl, ⟨sz, by_, z⟩, hq, h0, ⟨z', hz, hzs⟩, h⟩ := h
  simp only at h0 hz hzs h
  subst hz
  obtain ⟨i, hi, hsz, hby, hzz⟩ := tinfo_some hq
  split at h
  ·rename_i t es xs t' es' ys
   obtain ⟨ht2, htt, he1, he2, hb, hK⟩ := h
   have he1 := he1.symm; have he2 := he2.symm; subst he1; subst he2
   refine ⟨_, _, hK, ht2, fun ty G w v u hg hv hu => ?_⟩
   have hfa : flat (xs ++ ys) = flat xs ++ flat ys := by simp [flat]
   cases hv with
   | froz hv => exfalso; cases hv <;> omega
   | own _ _ _ _ e' vals _ o1 o2 o3 o4 o5 =>
   have idle : ∀ ax c, u = .slice ax 0 c → ys = [] → ∃ v' w' G', (Builtin.append_ #[T', T'] ty #[v, u]).run P w = .ok v' w' ∧ VRel G' w' (.sl t sz (xs ++ ys)) v' ∧ ExtBut t G w G' w' ∧ Good G' w' := by
    rintro ax c rfl rfl
    have hv : VRel G w (.sl t sz xs) v := .own t sz xs v e' vals ht2 o1 o2 o3 o4 o5
    obtain ⟨ao, c0, hve, _, _, hc, _⟩ := hv.sl_inv
    refine ⟨v, w, G, by rw [hve]; exact run_append_zero hT hq hc w, by rw [List.append_nil]; exact hv, ⟨rfl, rfl, rfl, Nat.le_refl _, fun _ _ _ => rfl, fun _ _ _ => rfl, fun b hb => .inl hb, fun b hb => .inr ?_⟩, hg⟩
    exact Classical.byContradiction fun h => by have := hg.lt b h; omega
   rcases hu.news with ⟨hy, ax, c, hue⟩ | ⟨a, c, news, rfl, h1, h2, h3, h4, h5⟩
   ·exact idle ax c hue hy
   -- the three ways
   have grows : ∀ (olds : List Value) (v' : Value) (w' : World), w'.ownsRow w.heap.size E sz v' (xs.length + ys.length) (olds ++ news) → w.grownBy w' none → One olds → PW (FRel (Stable G) w) (flat xs) olds →
     ∃ G', VRel G' w' (.sl t sz (xs ++ ys)) v' ∧ ExtBut t G w G' w' ∧ Good G' w' := fun olds v' w' ho hgr k1 k3 => own_grows hg ht2 o3 h3 h4 h5 ho hgr k1 k3
   rcases o1.2 with ⟨hv, hn⟩ | ⟨g, cap, cur, hv, hgb, hh, hnc, hcm, hcs, hct⟩
   ·subst hv
    obtain rfl := List.eq_nil_of_length_eq_zero hn
    obtain ⟨v', w', hrun, ho, hgr, _⟩ := run_append_own (P := P) w w.heap.size T' ty E i z' sz by_ hT hi hzz hsz hby hzs h0 (.slice none 0 0) 0 [] (World.ownsRow_nil w _ E sz) a ys.length c news h1 h2 h3 (by simp only [maxLen, Nat.zero_add]; have := hb.2; simpa using this) (by simpa using hb.1) (Nat.le_refl _)
    obtain ⟨G', r1, r2, r3⟩ := grows [] v' w' (by simpa using ho) hgr (fun _ h => by simp at h) (.nil _)
    exact ⟨v', w', G', hrun, r1, r2, r3⟩
   ·subst hv
    have hGg : G g = .tag t := o2 g rfl
    have hvl : vals.length = xs.length * sz := o1.1
    by_cases hroom : xs.length + ys.length ≤ cap
    ·-- within the capacity
     have hfit : xs.length * sz + news.length ≤ cur.size := by rw [h1, hcs, ← Nat.add_mul]; exact Nat.mul_le_mul_right _ hroom
     have hrun := run_append_room' (P := P) (w := w) T' ty E e' hT hq g xs.length cap cur hh a ys.length c news h1 h2 h3 hroom hfit
     refine ⟨_, _, G, hrun, ?_, ?_, ?_⟩
     ·have hset := setRow_heap w g cur (cur.toList.take (xs.length * sz) ++ news ++ cur.toList.drop (xs.length * sz + news.length)).toArray e' (0, 0) hh
      have hlen : (xs ++ ys).length = xs.length + ys.length := by simp
      have hp' : PW (FRel (Stable G) (w.setRow g (cur.toList.take (xs.length * sz) ++ news ++ cur.toList.drop (xs.length * sz + news.length)).toArray)) (flat (xs ++ ys)) (vals ++ news) := by
       rw [hfa]
       refine (o5.append h5).mono fun x y _ hr => hr.mono (fun _ h => h) (fun b hb => ?_)
       have hne : b ≠ g := fun h => by subst h; unfold Stable at hb; rw [hGg] at hb; cases hb
       simp [World.setRow, Array.getElem?_modify, Ne.symm hne]
      have hrow : (w.setRow g (cur.toList.take (xs.length * sz) ++ news ++ cur.toList.drop (xs.length * sz + news.length)).toArray).ownsRow 0 e' sz (.slice (some ⟨g, 0, none⟩) (xs.length + ys.length) cap) (xs ++ ys).length (vals ++ news) := by
       rw [hlen]
       refine ⟨by rw [List.length_append, hvl, h1, ← Nat.add_mul], .inr ⟨g, cap, _, rfl, Nat.zero_le _, hset, hroom, hcm, ?_, ?_⟩⟩
       ·simp only [List.size_toArray, List.length_append, List.length_take, List.length_drop, Array.length_toList]
        omega
       ·have h6 : cur.toList.take (xs.length * sz) = vals := hct
        rw [h6]
        simp only [List.append_assoc]
        have h7 : (xs.length + ys.length) * sz = (vals ++ news).length := by rw [List.length_append, hvl, h1, ← Nat.add_mul]
        rw [← List.append_assoc, List.take_left' h7.symm]
      exact .own t sz (xs ++ ys) _ e' (vals ++ news) ht2 hrow (fun b hb => by simp only [Value.ownBlock, Option.some.injEq] at hb; rw [← hb]; exact hGg)
       (fun x hx => by exact (List.mem_append.1 hx).elim (o3 x) (h4 x)) (fun u hu => by exact (List.mem_append.1 hu).elim (o4 u) (h3 u)) hp'
     ·refine ⟨rfl, rfl, rfl, by simp [World.setRow], fun _ _ _ => rfl, fun b hb hn => ?_, fun b hb => .inl hb, fun b hb => .inr ?_⟩
      ·have hne : b ≠ g := fun h => by subst h; exact hn hGg
       simp [World.setRow, Array.getElem?_modify, Ne.symm hne]
      ·exact Classical.byContradiction fun h => by have := hg.lt b h; omega
     ·exact ⟨fun b hb => by simpa [World.setRow] using hg.lt b hb, hg.tags, hg.boxes⟩
    ·have hcell : ∀ j u, vals[j]? = some u → w.cell? (Addr.add ⟨g, 0, none⟩ j) = some u := by
      intro j u hj
      have : cur.toList[j]? = some u := by
       rw [← hct, List.getElem?_take] at hj
       split at hj
       ·exact hj
       ·cases hj
      rw [Addr.add_none]
      simp only [World.cell?, hh, Nat.zero_add]
      simpa using this
     obtain ⟨v', w', hrun, ho, hgr⟩ := run_append_arg_grows (P := P) w T' ty E i z' sz by_ hT hi hzz hsz hby hzs h0 ⟨g, 0, none⟩ xs.length cap vals hvl hcell a ys.length c news h1 h2 (by omega) (by simp only [maxLen]; exact hb.2) hb.1
     obtain ⟨G', r1, r2, r3⟩ := grows vals v' w' ho hgr o4 o5
     exact ⟨v', w', G', hrun, r1, r2, r3⟩
  ·exact h.elim
 ·exact h.elim
def evAppendTl (P : Program) (T T' : TypeId) (x y : AV) (K : Nat → AV → AV → Prop) : Prop :=
 match P.underlying T with
 | some (.slice E) => T' = T ∧ ∃ q, tinfo P E = some q ∧ 0 < q.1 ∧ (∃ z, q.2.2 = some z ∧ z.cells.size = q.1) ∧
  match x, y with
  | .tl t es xs i, .sl t' es' ys => 2 ≤ t ∧ t' ≠ t ∧ es = q.1 ∧ es' = q.1 ∧ 0 < ys.length ∧ roomFor (xs.length + ys.length) q.2.1 ∧ K t (.tl t es (xs ++ ys) i) (.tl t es (xs.drop i ++ ys) 0)
  | _, _ => False
 | _ => False
theorem evAppendTl_sound {T T' : TypeId} {x y : AV} {K : Nat → AV → AV → Prop} (h : evAppendTl P T T' x y K) :
  ∃ t r1 r2, K t r1 r2 ∧ 2 ≤ t ∧ ∀ (ty : TypeId) (G : Nat → Status) (w : World) (v u : Value), Good G w → VRel G w x v → VRel G w y u →
   ∃ v' w' G', (Builtin.append_ #[T, T'] ty #[v, u]).run P w = .ok v' w' ∧ (VRel G' w' r1 v' ∨ VRel G' w' r2 v') ∧ ExtBut t G w G' w' ∧ Good G' w' := by
 unfold evAppendTl at h
 split at h
 ·rename_i E hT
  obtain ⟨rfl, ⟨sz, by_, z⟩, hq, h0, ⟨z', hz, hzs⟩, h⟩ := h
  simp only at h0 hz hzs h
  subst hz
  obtain ⟨ti, hi, hsz, hby, hzz⟩ := tinfo_some hq
  split at h
  ·rename_i t es xs i t' es' ys
   obtain ⟨ht2, htt, he1, he2, hyl, hb, hK⟩ := h
   have he1 := he1.symm; have he2 := he2.symm; subst he1; subst he2
   refine ⟨_, _, _, hK, ht2, fun ty G w v u hg hv hu => ?_⟩
   obtain ⟨b, off, off', c, hbase, hil, hoff, hlc, rfl⟩ := hv.tl_inv
   rcases hu.news with ⟨hy, _⟩ | ⟨a, cu, news, rfl, h1, h2, h3, h4, h5⟩
   ·subst hy; simp at hyl
   have hown : evAppendOwn P T' T' (.sl t sz xs) (.sl t' sz ys) fun t1 r => t1 = t ∧ r = .sl t sz (xs ++ ys) := by
    unfold evAppendOwn
    rw [hT]
    exact ⟨rfl, (sz, by_, some z'), hq, h0, ⟨z', rfl, hzs⟩, ht2, htt, rfl, rfl, hb, rfl, rfl⟩
   obtain ⟨t1, r, ⟨rfl, rfl⟩, _, hrunO⟩ := evAppendOwn_sound hown
   have hbase' := hbase
   cases hbase with
   | froz hv => exfalso; cases hv <;> omega
   | own _ _ _ _ e' vals _ o1 o2 o3 o4 o5 =>
   rcases o1.2 with ⟨hv, hn⟩ | ⟨g, cap, cur, hv, hgb, hh, hnc, hcm, hcs, hct⟩
   ·cases hv
   ·simp only [Value.slice.injEq, Option.some.injEq, Addr.mk.injEq, true_and, and_true] at hv
    obtain ⟨⟨rfl, rfl⟩, rfl⟩ := hv
    have hvl : vals.length = xs.length * sz := o1.1
    by_cases hroom : xs.length + ys.length ≤ c
    ·-- within the capacity
     obtain rfl : off' = 0 + i * sz := by rcases hoff with h | h <;> omega
     have hfit : xs.length * sz + news.length ≤ cur.size := by rw [h1, hcs, ← Nat.add_mul]; exact Nat.mul_le_mul_right _ hroom
     have hrun0 := run_append_room' (P := P) (w := w) T' ty E e' hT hq b xs.length c cur hh a ys.length cu news h1 h2 h3 hroom hfit
     obtain ⟨v', w', G', hr1, hr2, hr3, hr4⟩ := hrunO ty G w _ _ hg hbase' hu
     rw [hrun0] at hr1
     cases hr1
     have hf := run_firstCells_some (P := P) w sz ys.length a ys.length cu news h1 h2
     have hst := run_storeCells_at P b (xs.length * sz) e' news 0 cur w hh (by simpa using hfit) h3
     simp only [Nat.add_zero] at hst
     have hplace : i * sz + (xs.length - i) * sz = xs.length * sz := by rw [← Nat.add_mul]; congr 1; omega
     have hroom2 : xs.length - i + ys.length ≤ c - i := by omega
     refine ⟨.slice (some ⟨b, 0 + i * sz, none⟩) (xs.length - i + ys.length) (c - i), _, G', ?_, .inl ?_, hr3, hr4⟩
     ·simp [Builtin.append_, run_underlying hT, run_sizeOf hq, Builtin.lenOf, hroom2, hf, Addr.add_none]
      rw [hplace, hst]
      simp
     ·have := VRel.tl t1 sz (xs ++ ys) i b 0 (0 + i * sz) c (by rw [List.length_append]; exact hr2) (by rw [List.length_append]; omega) (.inl rfl)
      rw [List.length_append] at this
      rw [show xs.length - i + ys.length = xs.length + ys.length - i by omega]
      exact this
    ·-- a new row
     have hwx : ∀ x ∈ xs.drop i, x.cells.length = sz := fun x hx => o3 x (List.mem_of_mem_drop hx)
     have hdl : (xs.drop i).length = xs.length - i := List.length_drop
     have hcell : ∀ j u, (vals.drop (i * sz))[j]? = some u → w.cell? (Addr.add ⟨b, off', none⟩ j) = some u := by
      intro j u hj
      rw [List.getElem?_drop] at hj
      have hjl := (List.getElem?_eq_some_iff.1 hj).1
      have hi2 : i < xs.length := by
       rcases Nat.lt_or_ge i xs.length with h | h
       ·exact h
       ·exfalso
        have : xs.length * sz ≤ i * sz := Nat.mul_le_mul_right _ h
        omega
      obtain rfl : off' = 0 + i * sz := by rcases hoff with h | h <;> omega
      have : cur.toList[i * sz + j]? = some u := by
       rw [← hct, List.getElem?_take] at hj
       split at hj
       ·exact hj
       ·cases hj
      rw [Addr.add_none]
      simp only [World.cell?, hh, Nat.zero_add]
      simpa using this
     have hdv : (vals.drop (i * sz)).length = (xs.length - i) * sz := by rw [List.length_drop, hvl, Nat.sub_mul]
     obtain ⟨v', w', hrun, ho, hgr⟩ := run_append_arg_grows (P := P) w T' ty E ti z' sz by_ hT hi hzz hsz hby hzs h0 ⟨b, off', none⟩ (xs.length - i) (c - i) (vals.drop (i * sz)) hdv hcell a ys.length cu news h1 h2 (by omega) (by simp only [maxLen]; have := hb.2; omega) (by
      refine Nat.le_trans (Nat.mul_le_mul_right _ ?_) hb.1; omega)
     obtain ⟨G', r1, r2, r3⟩ := own_grows (t := t1) (xs := xs.drop i) hg ht2 hwx h3 h4 h5 (by rw [hdl]; exact ho) hgr (fun u hu => o4 u (List.mem_of_mem_drop hu)) (by rw [flat_drop i o3]; exact o5.drop (i * sz))
     refine ⟨v', w', G', hrun, .inr ?_, r2, r3⟩
     obtain ⟨ao, c2, rfl, _, hn2, _, hs⟩ := r1.sl_inv
     have hne : 0 < (xs.drop i ++ ys).length := by rw [List.length_append]; omega
     rcases hs with hs | ⟨b2, off2, vals2, rfl, _⟩
     ·rw [hs] at hne; simp at hne
     ·have := VRel.tl t1 sz (xs.drop i ++ ys) 0 b2 off2 off2 c2 r1 (Nat.zero_le _) (.inl (by omega))
      simpa using this
  ·exact h.elim
 ·exact h.elim
end ops
end Go.AM

/-! ## AmH -/
namespace Go.AM
open Go.RowKit
section ops
variable {P : Program}
theorem ofConst_cells {S : Nat → Prop} {w : World} (z : Value) (h1 : z.cells.toList.all (fun u => u.oneCell') = true) : PW (FRel S w) (ofConst z).cells z.cells.toList ∧ One z.cells.toList := by
 have hone : One z.cells.toList := fun u hu => List.all_eq_true.1 h1 u hu
 refine ⟨?_, hone⟩
 have hleaf : ∀ u : Value, FRel S w (leafConst u) u := fun u => by
  unfold leafConst; split
  ·exact .nil
  ·exact .sc _
 have hl : ∀ u : Value, (leafConst u).cells = [leafConst u] := fun u => by
  unfold leafConst; split <;> rfl
 cases z with
 | agg cs =>
  simp only [ofConst, AV.cells, Value.cells]
  refine ⟨by simp, fun j x u hx hu => ?_⟩
  simp only [List.getElem?_map, hu, Option.map_some, Option.some.injEq] at hx
  rw [← hx]; exact hleaf u
 | tuple vs => simp [Value.cells, Value.oneCell'] at h1
 | _ => simp only [ofConst, Value.cells, hl]; exact .cons (hleaf _) (.nil _)
theorem flat_replicate {x : AV} : ∀ (n j : Nat), 0 < x.cells.length → j < n * x.cells.length → (flat (List.replicate n x))[j]? = x.cells[j % x.cells.length]?
 | 0, j, _, h => by simp at h
 | n + 1, j, h0, h => by
  simp only [flat, List.replicate_succ, List.flatMap_cons]
  by_cases hj : j < x.cells.length
  ·rw [List.getElem?_append_left hj, Nat.mod_eq_of_lt hj]
  ·rw [List.getElem?_append_right (by omega)]
   have := flat_replicate (x := x) n (j - x.cells.length) h0 (by rw [Nat.succ_mul] at h; omega)
   simp only [flat] at this
   rw [this, ← Nat.mod_eq_sub_mod (by omega)]
def zeroOk (sz : Nat) (z : Value) : Bool := decide (z.cells.size = sz) && z.cells.toList.all fun u => u.oneCell'
def evMake (P : Program) (d : Nat) (T : TypeId) (l c : AV) (K : AV → Prop) : Prop :=
 match P.underlying T, l, c with
 | some (.slice E), .sc (.int _ l), .sc (.int _ c) => ∃ q, tinfo P E = some q ∧ 0 < q.1 ∧ 0 ≤ l ∧ l ≤ c ∧ (q.2.1 : Int) * c ≤ 281474976710656 ∧ c ≤ 9223372036854775807 ∧
   ∃ z, q.2.2 = some z ∧ zeroOk q.1 z = true ∧ K (.sl (64 * (d + 1)) q.1 (List.replicate l.toNat (ofConst z)))
 | _, _, _ => False
theorem evMake_sound {d : Nat} {T : TypeId} {l c : AV} {K : AV → Prop} (h : evMake P d T l c K) :
  ∃ r, K r ∧ ∀ (G : Nat → Status) (w : World) (v u : Value), Good G w → Fresh d G → VRel G w l v → VRel G w c u → Does P d G w (Instr.makeSlice T v u) r := by
 unfold evMake at h
 split at h
 ·rename_i E k l k' c hT
  obtain ⟨⟨sz, by_, z⟩, hq, h0, hl, hlc, hb, h63, z', hz, hzo, hK⟩ := h
  simp only at h0 hb hz hzo
  subst hz
  obtain ⟨i, hi, hsz, hby, hzz⟩ := tinfo_some hq
  simp only [zeroOk, Bool.and_eq_true, decide_eq_true_eq] at hzo
  refine ⟨_, hK, fun G w v u hg hf hv hu => ?_⟩
  obtain rfl := hv.sc_inv; obtain rfl := hu.sc_inv
  have hrun := run_make (P := P) w T E i z' hT hi hzz k k' l c hl hlc (by rw [hby]; exact hb) h63
  rw [hsz] at hrun
  obtain ⟨hp, hone⟩ := ofConst_cells (S := Stable G) (w := w) z' hzo.2
  have hcl : (ofConst z').cells.length = sz := by rw [hp.1]; simpa using hzo.1
  have hle : l.toNat * sz ≤ c.toNat * sz := Nat.mul_le_mul_right _ (by omega)
  have hget : ∀ j, j < c.toNat * sz → (madeCells z'.cells (c.toNat * sz)).toList[j]? = z'.cells.toList[j % sz]? := by
   intro j hj
   have hm : j % sz < z'.cells.size := by rw [hzo.1]; exact Nat.mod_lt _ h0
   simp only [madeCells, Array.toList_map, List.getElem?_map, Array.toList_range, List.getElem?_range hj, Option.map_some, hzo.1, Array.getElem?_toList, Array.getElem?_eq_getElem hm]
   rw [getElem!_pos z'.cells (j % sz) hm]
  have hpw : PW (FRel (Stable G) w) (flat (List.replicate l.toNat (ofConst z'))) ((madeCells z'.cells (c.toNat * sz)).toList.take (l.toNat * sz)) := by
   have hlen : (flat (List.replicate l.toNat (ofConst z'))).length = l.toNat * sz := by
    rw [flat_length (es := sz) (fun x hx => by rw [List.eq_of_mem_replicate hx]; exact hcl)]; simp
   refine ⟨by rw [hlen, List.length_take, Array.length_toList, size_madeCells]; omega, fun j x u hx hu => ?_⟩
   have hj : j < l.toNat * sz := by rw [← hlen]; exact (List.getElem?_eq_some_iff.1 hx).1
   rw [flat_replicate _ _ (by omega) (by rw [hcl]; exact hj), hcl] at hx
   rw [List.getElem?_take, if_pos hj, hget j (by omega)] at hu
   exact hp.2 _ _ _ hx hu
  have hones : One ((madeCells z'.cells (c.toNat * sz)).toList.take (l.toNat * sz)) := by
   intro u hu
   obtain ⟨j, hj⟩ := List.getElem?_of_mem (List.mem_of_mem_take hu)
   have hjl : j < c.toNat * sz := by have := (List.getElem?_eq_some_iff.1 hj).1; rwa [Array.length_toList, size_madeCells] at this
   rw [hget j hjl] at hj
   exact hone u (List.mem_of_getElem? hj)
  refine ⟨_, _, updG G w.heap.size (.tag (64 * (d + 1))), hrun, ?_, .alloc _ _, hg.upd _ _ (Nat.le_refl _) (by simp) (by simp) (fun t ht b hb => ?_) (fun i h => by cases h), .upd hf.own⟩
  ·refine .own _ sz _ _ E ((madeCells z'.cells (c.toNat * sz)).toList.take (l.toNat * sz)) (by omega) ⟨?_, .inr ⟨w.heap.size, c.toNat, _, by simp, Nat.zero_le _, heap_alloc_new w _, ?_, ?_, size_madeCells _ _, by simp⟩⟩ (fun b hb => ?_) (fun x hx => by rw [List.eq_of_mem_replicate hx]; exact hcl) hones (hpw.mono fun x y _ hr => hr.mono (fun b hb => ?_) (fun b hb => ?_))
   ·rw [List.length_take, Array.length_toList, size_madeCells, List.length_replicate]; omega
   ·simp; omega
   ·simp only [maxLen]; omega
   ·simp only [Value.ownBlock, Option.some.injEq] at hb; simp [updG, ← hb]
   ·have := hg.lt b (by unfold Stable at hb; rw [hb]; simp)
    unfold Stable at *; simp [updG, Nat.ne_of_lt this, hb]
   ·exact heap_alloc_old w _ (hg.lt b (by unfold Stable at hb; rw [hb]; simp))
  ·cases ht; exact hf.ne hb
 ·exact h.elim
def evAllocE (P : Program) (d : Nat) (T : TypeId) (K : AV → Prop) : Prop :=
 ∃ q, tinfo P T = some q ∧ ∃ z, q.2.2 = some z ∧ zeroOk q.1 z = true ∧ K (.pe (64 * (d + 1)) q.1 [ofConst z] 0 0)
theorem evAllocE_sound {d : Nat} {T : TypeId} {K : AV → Prop} (h : evAllocE P d T K) :
  ∃ r, K r ∧ ∀ (G : Nat → Status) (w : World), Good G w → Fresh d G → Does P d G w (Instr.alloc T true (.tuple #[])) r := by
 obtain ⟨⟨sz, by_, z⟩, hq, z', hz, hzo, hK⟩ := h
 simp only at hz hzo
 subst hz
 obtain ⟨i, hi, hsz, hby, hzz⟩ := tinfo_some hq
 simp only [zeroOk, Bool.and_eq_true, decide_eq_true_eq] at hzo
 refine ⟨_, hK, fun G w hg hf => ?_⟩
 have hrun : (Instr.alloc T true (.tuple #[])).run P w = .ok (.pointer (some ⟨w.heap.size, 0, none⟩)) (w.alloc (.cells z'.cells T)) := by
  simp [Instr.alloc, newVar, newRow, zeroValue, typeInfo, hi, hzz]
 obtain ⟨hp, hone⟩ := ofConst_cells (S := Stable G) (w := w) z' hzo.2
 have hcl : (ofConst z').cells.length = sz := by rw [hp.1]; simpa using hzo.1
 have hfl : flat [ofConst z'] = (ofConst z').cells := by simp [flat]
 have hsl : VRel (updG G w.heap.size (.tag (64 * (d + 1)))) (w.alloc (.cells z'.cells T)) (.sl (64 * (d + 1)) sz [ofConst z']) (.slice (some ⟨w.heap.size, 0, none⟩) 1 1) := by
  refine .own _ sz _ _ T z'.cells.toList (by omega) ⟨?_, .inr ⟨w.heap.size, 1, _, by simp, Nat.zero_le _, heap_alloc_new w _, ?_, ?_, ?_, ?_⟩⟩ (fun b hb => ?_) (fun x hx => by simp at hx; subst hx; exact hcl) hone ?_
  ·simp [hzo.1]
  ·simp
  ·simp [maxLen]
  ·rw [hzo.1]; omega
  ·rw [List.length_singleton, Nat.one_mul, ← hzo.1]; exact List.take_of_length_le (by simp)
  ·simp only [Value.ownBlock, Option.some.injEq] at hb; simp [updG, ← hb]
  ·rw [hfl]
   refine hp.mono fun x y _ hr => hr.mono (fun b hb => ?_) (fun b hb => ?_)
   ·have := hg.lt b (by unfold Stable at hb; rw [hb]; simp)
    unfold Stable at *; simp [updG, Nat.ne_of_lt this, hb]
   ·exact heap_alloc_old w _ (hg.lt b (by unfold Stable at hb; rw [hb]; simp))
 refine ⟨_, _, updG G w.heap.size (.tag (64 * (d + 1))), hrun, ?_, .alloc _ _, hg.upd _ _ (Nat.le_refl _) (by simp) (by simp) (fun t ht b hb => ?_) (fun i h => by cases h), .upd hf.own⟩
 ·have := VRel.pe (64 * (d + 1)) sz [ofConst z'] 0 0 w.heap.size 0 1 hsl (by simp)
  simpa using this
 ·cases ht; exact hf.ne hb
theorem size_alloc (w : World) (o : Obj) : (w.alloc o).heap.size = w.heap.size + 1 := by simp
def evAppendZ (P : Program) (d : Nat) (T T' : TypeId) (x : AV) (n : Int) (K : AV → Prop) : Prop :=
 match P.underlying T, P.underlying T', x with
 | some (.slice E), some (.int _), .nil => ∃ q, tinfo P E = some q ∧ 0 < q.1 ∧ 0 < n ∧ n.toNat * q.2.1 ≤ 140737488355328 ∧ n ≤ 9223372036854775807 ∧
   ∃ z, q.2.2 = some z ∧ zeroOk q.1 z = true ∧ K (.sl (64 * (d + 1)) q.1 (List.replicate n.toNat (ofConst z)))
 | _, _, _ => False
theorem evAppendZ_sound {d : Nat} {T T' : TypeId} {x : AV} {k : IntKind} {n : Int} {K : AV → Prop} (h : evAppendZ P d T T' x n K) :
  ∃ r, K r ∧ ∀ (ty : TypeId) (G : Nat → Status) (w : World) (v u : Value), Good G w → Fresh d G → VRel G w x v → VRel G w (.sc (.int k n)) u → Does P d G w (Builtin.append_ #[T, T'] ty #[v, u]) r := by
 unfold evAppendZ at h
 split at h
 ·rename_i E kn hT hT'
  obtain ⟨⟨sz, by_, z⟩, hq, h0, hn, hb, h63, z', hz, hzo, hK⟩ := h
  simp only at h0 hb hz hzo
  subst hz
  obtain ⟨i, hi, hsz, hby, hzz⟩ := tinfo_some hq
  simp only [zeroOk, Bool.and_eq_true, decide_eq_true_eq] at hzo
  refine ⟨_, hK, fun ty G w v u hg hf hv hu => ?_⟩
  obtain rfl := hv.nil_inv; obtain rfl := hu.sc_inv
  obtain ⟨m, rfl⟩ : ∃ m : Nat, n = m := ⟨n.toNat, by omega⟩
  simp only [Int.toNat_natCast] at hb ⊢
  have hrun := Go.Lib.run_append_nil_zeros (P := P) w T T' ty E i z' k kn hT hT' hi hzz m (by omega) (by omega) h63 (by rw [hby]; omega)
  obtain ⟨hp, hone⟩ := ofConst_cells (S := Stable G) (w := w) z' hzo.2
  have hcl : (ofConst z').cells.length = sz := by rw [hp.1]; simpa using hzo.1
  have hge := grownCap_ge w m 0 E
  have hle := grownCap_le_maxLen w m 0 E (by simp only [maxLen]; omega)
  have hsize : ∀ c, (Builtin.zeroCells z'.cells c).size = c * sz := fun c => by simp [Builtin.zeroCells, hzo.1]
  have hget : ∀ c j, j < c * sz → (Builtin.zeroCells z'.cells c).toList[j]? = z'.cells.toList[j % sz]? := by
   intro c j hj
   have hm : j % sz < z'.cells.size := by rw [hzo.1]; exact Nat.mod_lt _ h0
   have hj' : j < c * z'.cells.size := by rw [hzo.1]; exact hj
   simp only [Builtin.zeroCells, Array.toList_map, List.getElem?_map, Array.toList_range, hzo.1, List.getElem?_range hj, Option.map_some, Array.getElem?_toList, Array.getElem?_eq_getElem hm]
   rw [getElem!_pos z'.cells (j % sz) hm]
  have hpw : PW (FRel (Stable G) w) (flat (List.replicate m (ofConst z'))) (Builtin.zeroCells z'.cells m).toList := by
   have hlen : (flat (List.replicate m (ofConst z'))).length = m * sz := by
    rw [flat_length (es := sz) (fun x hx => by rw [List.eq_of_mem_replicate hx]; exact hcl)]; simp
   refine ⟨by rw [hlen, Array.length_toList, hsize], fun j x u hx hu => ?_⟩
   have hj : j < m * sz := by rw [← hlen]; exact (List.getElem?_eq_some_iff.1 hx).1
   rw [flat_replicate _ _ (by omega) (by rw [hcl]; exact hj), hcl] at hx
   rw [hget m j hj] at hu
   exact hp.2 _ _ _ hx hu
  have hones : One (Builtin.zeroCells z'.cells m).toList := by
   intro u hu
   obtain ⟨j, hj⟩ := List.getElem?_of_mem hu
   have hjl : j < m * sz := by have := (List.getElem?_eq_some_iff.1 hj).1; rwa [Array.length_toList, hsize] at this
   rw [hget m j hjl] at hj
   exact hone u (List.mem_of_getElem? hj)
  refine ⟨_, _, updG G w.heap.size (.tag (64 * (d + 1))), hrun, ?_, ⟨rfl, rfl, rfl, Nat.le_of_lt (by have hdr : w.drew.heap.size = w.heap.size := rfl; have := size_alloc w.drew (.cells (Builtin.zeroCells z'.cells m ++ Builtin.zeroCells z'.cells (grownCap w m 0 E - m)) E); omega), fun b hb => by simp [updG, Nat.ne_of_lt hb], fun b hb => heap_alloc_old w.drew _ hb⟩, hg.upd _ _ (Nat.le_refl _) (by have hdr : w.drew.heap.size = w.heap.size := rfl; have := size_alloc w.drew (.cells (Builtin.zeroCells z'.cells m ++ Builtin.zeroCells z'.cells (grownCap w m 0 E - m)) E); omega) (Nat.le_of_lt (by have hdr : w.drew.heap.size = w.heap.size := rfl; have := size_alloc w.drew (.cells (Builtin.zeroCells z'.cells m ++ Builtin.zeroCells z'.cells (grownCap w m 0 E - m)) E); omega)) (fun t ht b hb => ?_) (fun i h => by cases h), .upd hf.own⟩
  ·refine .own _ sz _ _ E (Builtin.zeroCells z'.cells m).toList (by omega) ⟨?_, .inr ⟨w.heap.size, grownCap w m 0 E, _, by simp, Nat.zero_le _, heap_alloc_new w.drew _, ?_, hle, ?_, ?_⟩⟩ (fun b hb => ?_) (fun x hx => by rw [List.eq_of_mem_replicate hx]; exact hcl) hones (hpw.mono fun x y _ hr => hr.mono (fun b hb => ?_) (fun b hb => ?_))
   ·rw [Array.length_toList, hsize, List.length_replicate]
   ·simpa using hge
   ·rw [Array.size_append, hsize, hsize, ← Nat.add_mul]; congr 1; omega
   ·rw [Array.toList_append, List.length_replicate, List.take_append_of_le_length (by rw [Array.length_toList, hsize]; exact Nat.le_refl _), List.take_of_length_le (by rw [Array.length_toList, hsize]; exact Nat.le_refl _)]
   ·simp only [Value.ownBlock, Option.some.injEq] at hb; simp [updG, ← hb]
   ·have := hg.lt b (by unfold Stable at hb; rw [hb]; simp)
    unfold Stable at *; simp [updG, Nat.ne_of_lt this, hb]
   ·exact heap_alloc_old w.drew _ (hg.lt b (by unfold Stable at hb; rw [hb]; simp))
  ·cases ht; exact hf.ne hb
 ·exact h.elim
def evAppendX (P : Program) (d : Nat) (T T' : TypeId) (x y : AV) (K : AV → Prop) : Prop :=
 match y with
 | .sc (.int _ n) => evAppendZ P d T T' x n K
 | y => evAppendNew P d T T' x y K
theorem evAppendX_sound {d : Nat} {T T' : TypeId} {x y : AV} {K : AV → Prop} (h : evAppendX P d T T' x y K) :
  ∃ r, K r ∧ ∀ (ty : TypeId) (G : Nat → Status) (w : World) (v u : Value), Good G w → Fresh d G → VRel G w x v → VRel G w y u → Does P d G w (Builtin.append_ #[T, T'] ty #[v, u]) r := by
 unfold evAppendX at h
 split at h
 ·exact evAppendZ_sound h
 ·exact evAppendNew_sound h
def setSeg {α : Type} (cs : List α) (off : Nat) : List α → List α
 | [] => cs
 | y :: ys => setSeg (cs.set off y) (off + 1) ys
theorem setSeg_length {α : Type} : ∀ (ys : List α) (cs : List α) (off : Nat), (setSeg cs off ys).length = cs.length
 | [], _, _ => rfl
 | y :: ys, cs, off => by simp [setSeg, setSeg_length ys]
theorem setSeg_rel {R : AV → Value → Prop} (off : Nat) : ∀ (ys : List AV) (vs : List Value) (j0 : Nat) (cs : List AV) (cur : Array Value), PW R ys vs → PW R cs cur.toList →
  PW R (setSeg cs (off + j0) ys) ((vs.zipIdx j0).foldl (fun (cs : Array Value) (p : Value × Nat) => cs.setIfInBounds (off + p.2) p.1) cur).toList
 | [], vs, j0, cs, cur, h, hc => by rw [h.nil_inv]; simpa [setSeg] using hc
 | y :: ys, vs, j0, cs, cur, h, hc => by
  obtain ⟨v, vs', rfl, h1, h2⟩ := h.cons_inv
  simp only [setSeg, List.zipIdx_cons, List.foldl_cons]
  exact setSeg_rel off ys vs' (j0 + 1) _ _ h2 (by rw [Array.toList_setIfInBounds]; exact hc.set _ h1)
theorem setSeg_one (off : Nat) : ∀ (vs : List Value) (j0 : Nat) (cur : Array Value), One vs → One cur.toList →
  One ((vs.zipIdx j0).foldl (fun (cs : Array Value) (p : Value × Nat) => cs.setIfInBounds (off + p.2) p.1) cur).toList
 | [], _, _, _, hc => by simpa using hc
 | v :: vs, j0, cur, h, hc => by
  simp only [List.zipIdx_cons, List.foldl_cons]
  refine setSeg_one off vs (j0 + 1) _ (fun u hu => h u (by simp [hu])) fun u hu => ?_
  rw [Array.toList_setIfInBounds] at hu
  rcases List.mem_or_eq_of_mem_set hu with h' | h'
  ·exact hc u h'
  ·rw [h']; exact h v (by simp)
def fillA (place : Nat → Option (Nat × Nat)) : List AV → List (Nat × AV) → Option (List AV)
 | cs, [] => some cs
 | cs, (i, x) :: rest =>
  match place i with
  | none => none
  | some (off, size) => if x.cells.length = size ∧ off + size ≤ cs.length ∧ x.one = true then fillA place (setSeg cs off x.cells) rest else none
theorem VRel.cellsV {G : Nat → Status} {w : World} {x : AV} {v : Value} (h : VRel G w x v) (h1 : x.one = true) : PW (VRel G w) x.cells v.cells.toList ∧ One v.cells.toList := by
 have leaf : x.leafy = true → v.oneCell' = true → PW (VRel G w) x.cells v.cells.toList ∧ One v.cells.toList := by
  intro h2 h3
  have hc : x.cells = [x] := by cases x <;> first | rfl | (simp [AV.leafy] at h2)
  have hv : v.cells.toList = [v] := by cases v <;> first | rfl | (simp [Value.oneCell'] at h3)
  rw [hc, hv]
  exact ⟨.cons h (.nil _), fun u hu => by simp at hu; subst hu; exact h3⟩
 cases x with
 | any => simp [AV.one] at h1
 | tup => simp [AV.one] at h1
 | ag cs => obtain ⟨vs, rfl, h0, h1⟩ := h.ag_inv; exact ⟨h1, h0⟩
 | sc u => have := h.sc_inv; subst this; exact leaf rfl (by simpa [AV.one] using h1)
 | nil => have := h.nil_inv; subst this; exact leaf rfl rfl
 | ub => obtain ⟨b, rfl⟩ := h.ub_inv; exact leaf rfl rfl
 | so t xs => obtain ⟨ao, c, rfl, _⟩ := h.so_inv; exact leaf rfl rfl
 | po t xs i => obtain ⟨b, off, c, _, _, rfl⟩ := h.po_inv; exact leaf rfl rfl
 | sl t es xs => obtain ⟨ao, c, rfl, _⟩ := h.sl_inv; exact leaf rfl rfl
 | pb i o => obtain ⟨b, _, rfl⟩ := h.pb_inv; exact leaf rfl rfl
 | pe t es xs i o => obtain ⟨b, off, c, _, _, rfl⟩ := h.pe_inv; exact leaf rfl rfl
 | fn f caps => obtain ⟨vs, rfl, _⟩ := h.fn_inv; exact leaf rfl rfl
 | mp => simp [AV.one] at h1
 | cl => simp [AV.one] at h1
 | tl => simp [AV.one] at h1
 | fp cs o => obtain ⟨b, vals, _, rfl, _⟩ := h.fp_inv; exact leaf rfl rfl
theorem fillA_rel {G : Nat → Status} {w : World} {place : Nat → Option (Nat × Nat)} : ∀ (ps : List (Nat × AV)) (vs : List (Nat × Value)) (cs r : List AV) (cur : Array Value),
  PW (fun p q => p.1 = q.1 ∧ VRel G w p.2 q.2) ps vs → PW (VRel G w) cs cur.toList → One cur.toList → fillA place cs ps = some r →
  ∃ cells, Instr.fill place cur vs = some cells ∧ PW (VRel G w) r cells.toList ∧ One cells.toList
 | [], vs, cs, r, cur, h, hc, h1, hf => by
  rw [h.nil_inv]
  simp only [fillA, Option.some.injEq] at hf
  subst hf; exact ⟨cur, by simp [Instr.fill], hc, h1⟩
 | (i, x) :: ps, vs, cs, r, cur, h, hc, h1, hf => by
  obtain ⟨⟨i', v⟩, vs', rfl, h2, h3⟩ := h.cons_inv
  simp only at h2
  obtain ⟨rfl, hv⟩ := h2
  simp only [fillA] at hf
  cases hp : place i with
  | none => simp [hp] at hf
  | some p =>
   obtain ⟨off, size⟩ := p
   simp only [hp] at hf
   split at hf
   ·rename_i hcond
    obtain ⟨hs, hlen, hone⟩ := hcond
    obtain ⟨hpc, h1c⟩ := hv.cellsV hone
    have hvs : v.cells.size = size := by have := hpc.1; rw [hs] at this; simpa using this.symm
    have hcl : cs.length = cur.size := by have := hc.1; simpa using this
    have hz : v.cells.zipIdx = (v.cells.toList.zipIdx).toArray := by apply Array.toList_inj.1; rw [Array.toList_zipIdx]
    have hfold : (Array.foldl (fun cs x => match x with | (c, j) => cs.setIfInBounds (off + j) c) cur v.cells.zipIdx) = (v.cells.toList.zipIdx).foldl (fun (cs : Array Value) (p : Value × Nat) => cs.setIfInBounds (off + p.2) p.1) cur := by
     rw [hz, List.foldl_toArray']
     simp
    have hr := setSeg_rel (R := VRel G w) off x.cells v.cells.toList 0 cs cur hpc hc
    have ho := setSeg_one off v.cells.toList 0 cur h1c h1
    obtain ⟨cells, e1, e2, e3⟩ := fillA_rel ps vs' _ r _ h3 (by simpa using hr) ho (by simpa using hf)
    refine ⟨cells, ?_, e2, e3⟩
    simp only [Instr.fill, hp, hvs, ne_eq, not_true_eq_false]
    rw [if_neg (by simp; omega)]
    exact hfold ▸ e1
   ·cases hf
def placesOf (P : Program) (T : TypeId) : Option (List (Nat × Nat)) :=
 match P.underlying T with
 | some (.struct fs) => fs.toList.mapM fun f => (P.info? f.type).map fun i => (f.offset, i.size)
 | some (.array n e) => (P.info? e).map fun i => (List.range n).map fun k => (k * i.size, i.size)
 | _ => none
theorem fill_more {f g : Nat → Option (Nat × Nat)} (h : ∀ i p, f i = some p → g i = some p) : ∀ (ps : List (Nat × Value)) (cells r : Array Value), Instr.fill f cells ps = some r → Instr.fill g cells ps = some r
 | [], cells, r, hf => hf
 | (i, v) :: rest, cells, r, hf => by
  simp only [Instr.fill] at hf ⊢
  cases hi : f i with
  | none => simp [hi] at hf
  | some p =>
   rw [h i p hi]
   simp only [hi] at hf ⊢
   split at hf
   ·cases hf
   ·rename_i hc
    rw [if_neg hc]
    exact fill_more h rest _ r hf
def evBuild (P : Program) (T : TypeId) (ps : List (Nat × AV)) (K : AV → Prop) : Prop :=
 ∃ q places z r, tinfo P T = some q ∧ placesOf P T = some places ∧ q.2.2 = some z ∧ (z.cells.toList.all fun u => u.oneCell') = true ∧ fillA (fun i => places[i]?) (ofConst z).cells ps = some r ∧ K (.ag r)
theorem evBuild_sound {T : TypeId} {ps : List (Nat × AV)} {K : AV → Prop} (h : evBuild P T ps K) :
  ∃ r, K r ∧ ∀ (d : Nat) (G : Nat → Status) (w : World) (vs : Array (Nat × Value)), Good G w → PW (fun p q => p.1 = q.1 ∧ VRel G w p.2 q.2) ps vs.toList → Does P d G w (Instr.build T vs) r := by
 obtain ⟨⟨sz, by_, z0⟩, places, z, r, hq, hpl, hz, hz1, hf, hK⟩ := h
 simp only at hz; subst hz
 refine ⟨_, hK, fun d G w vs hg hv => ?_⟩
 obtain ⟨i, hi, hsz, hby, hzz⟩ := tinfo_some hq
 obtain ⟨hp, hone⟩ := ofConst_cells (S := Stable G) (w := w) z hz1
 obtain ⟨cells, e1, e2, e3⟩ := fillA_rel ps vs.toList _ r z.cells hv (hp.mono fun x y _ hr => .froz hr) hone hf
 have hb : P.built T vs.toList = some cells := by
  unfold placesOf at hpl
  split at hpl
  ·rename_i fs hT
   simp only [Program.built, hi, hT, hzz, hpl]
   simpa using e1
  ·rename_i n e hT
   cases hie : P.info? e with
   | none => simp [hie] at hpl
   | some ie =>
    simp only [hie, Option.map_some, Option.some.injEq] at hpl
    simp only [Program.built, hi, hT, hzz, hie]
    refine fill_more (fun j p hj => ?_) _ _ _ e1
    rw [← hpl, List.getElem?_map] at hj
    cases hr : (List.range n)[j]? with
    | none => simp [hr] at hj
    | some k =>
     have hk : k = j := by
      have := List.getElem?_eq_some_iff.1 hr
      obtain ⟨h1, h2⟩ := this
      simpa using h2.symm
     subst hk
     simpa [hr] using hj
  ·cases hpl
 exact .pure hg (run_build w T vs cells hb) (.ag r cells e2.1 e3 e2.2)
theorem newBox {gh : Gh} {G : Nat → Status} {w : World} {bx : List (List AV)} {cs : List AV} {vals : Array Value} {T : TypeId} (hg : Good G w) (hb : BRel gh G w bx) (hbl : ∀ b i, G b = .box i → i < bx.length)
  (hp : PW (VRel G w) cs vals.toList) (h1 : One vals.toList) :
  let G' := updG G w.heap.size (.box bx.length)
  let w' := w.alloc (.cells vals T)
  VRel G' w' (.pb bx.length 0) (.pointer (some ⟨w.heap.size, 0, none⟩)) ∧ Ext G w G' w' ∧ Good G' w' ∧ BRel gh G' w' (bx ++ [cs]) ∧ (∀ b i, G' b = .box i → i < (bx ++ [cs]).length) := by
 intro G' w'
 have hE : Ext G w G' w' := .alloc _ _
 have hG : Good G' w' := hg.upd _ _ (Nat.le_refl _) (by simp [w']) (by simp [w']) (fun t ht => by cases ht) (fun i hi b h => by cases hi; have := hbl b _ h; omega)
 refine ⟨.pb _ _ _ (by simp [G', updG]), hE, hG, ?_, ?_⟩
 ·refine ⟨fun i vs hv => by have := hb.low i vs hv; simp; omega, fun i cs' hi => ?_⟩
  by_cases hlt : i < bx.length
  ·rw [List.getElem?_append_left hlt] at hi
   refine (hb.ext hg hE fun b i hbi hi => ?_).cell i cs' hi
   simp only [G', updG] at hbi
   split at hbi
   ·cases hbi; omega
   ·exact hbi
  ·rw [List.getElem?_append_right (by omega)] at hi
   have : i = bx.length := by
    cases hd : i - bx.length with
    | zero => omega
    | succ n => rw [hd] at hi; simp at hi
   subst this
   simp at hi; subst hi
   exact .inl ⟨by cases hgh : gh bx.length with | none => rfl | some vs => have := hb.low _ vs hgh; omega, w.heap.size, vals, T, by simp [G', updG], heap_alloc_new w _, h1, hp.mono fun x y _ hr => hr.ext hg hE⟩
 ·intro b i h
  simp only [G', updG] at h
  split at h
  ·cases h; simp
  ·have := hbl b i h; simp; omega
theorem store_run {w : World} {T : TypeId} {sz by_ : Nat} {z : Option Value} (hq : tinfo P T = some (sz, by_, z)) {b o : Nat} {cur : Array Value} {e : TypeId} (hh : w.heap[b]? = some (.cells cur e (0, 0))) {v : Value}
  (hs : v.cells.size = sz) (h1 : One v.cells.toList) (hfit : o + sz ≤ cur.size) :
  (Instr.storeAt T (.pointer (some ⟨b, o, none⟩)) v).run P w = .ok () (w.setRow b (cur.toList.take o ++ v.cells.toList ++ cur.toList.drop (o + sz)).toArray) := by
 have hst := run_storeCells_at P b o e v.cells.toList 0 cur w hh (by simpa [hs] using hfit) h1
 simp only [Nat.add_zero] at hst
 have hadd : (storeCells ⟨b, o, none⟩ v.cells.toList).run P w = _ := hst
 simp [Instr.storeAt, Instr.sureAddr, storeVar, run_sizeOf hq, hs, hadd]
end ops
end Go.AM

/-! ## AmI -/
namespace Go.AM
open Go.RowKit
theorem setSeg_take {α : Type} : ∀ (ys cs : List α) (k m : Nat), (setSeg cs k ys).take m = setSeg (cs.take m) k ys
 | [], _, _, _ => rfl
 | y :: ys, cs, k, m => by simp only [setSeg]; rw [setSeg_take ys, List.take_set]
theorem setSeg_eq {α : Type} : ∀ (ys cs : List α) (k : Nat), k + ys.length ≤ cs.length → setSeg cs k ys = cs.take k ++ ys ++ cs.drop (k + ys.length)
 | [], cs, k, _ => by simp [setSeg]
 | y :: ys, cs, k, h => by
  simp only [List.length_cons] at h
  simp only [setSeg]
  rw [setSeg_eq ys (cs.set k y) (k + 1) (by simp; omega)]
  have hk : k < cs.length := by omega
  have e1 : (cs.set k y).take (k + 1) = cs.take k ++ [y] := by
   rw [List.take_succ_eq_append_getElem (by simpa using hk), List.take_set_of_le (Nat.le_refl _)]; simp
  have e2 : (cs.set k y).drop (k + 1 + ys.length) = cs.drop (k + (ys.length + 1)) := by
   rw [List.drop_set_of_lt (by omega), show k + 1 + ys.length = k + (ys.length + 1) by omega]
  rw [e1, e2]; simp
theorem setSeg_out {α : Type} : ∀ (ys cs : List α) (k : Nat), cs.length ≤ k → setSeg cs k ys = cs
 | [], _, _, _ => rfl
 | y :: ys, cs, k, h => by simp only [setSeg]; rw [List.set_eq_of_length_le h, setSeg_out ys cs (k + 1) (by omega)]
theorem PW.setSeg {α β : Type} {R : α → β → Prop} : ∀ {ys : List α} {vs : List β} {cs : List α} {us : List β} (k : Nat), PW R ys vs → PW R cs us → PW R (AM.setSeg cs k ys) (AM.setSeg us k vs)
 | [], vs, cs, us, k, h, hc => by rw [h.nil_inv]; exact hc
 | y :: ys, vs, cs, us, k, h, hc => by
  obtain ⟨v, vs', rfl, h1, h2⟩ := h.cons_inv
  simp only [AM.setSeg]
  exact PW.setSeg (k + 1) h2 (hc.set k h1)
theorem setSeg_append_right {α : Type} : ∀ (ys as bs : List α) (k : Nat), setSeg (as ++ bs) (as.length + k) ys = as ++ setSeg bs k ys
 | [], _, _, _ => rfl
 | y :: ys, as, bs, k => by
  simp only [setSeg]
  rw [List.set_append_right _ _ (by omega), show as.length + k - as.length = k by omega, show as.length + k + 1 = as.length + (k + 1) by omega, setSeg_append_right ys]
theorem setSeg_append_left {α : Type} : ∀ (ys as bs : List α) (k : Nat), k + ys.length ≤ as.length → setSeg (as ++ bs) k ys = setSeg as k ys ++ bs
 | [], _, _, _, _ => rfl
 | y :: ys, as, bs, k, h => by
  simp only [List.length_cons] at h
  simp only [setSeg]
  rw [List.set_append_left _ _ (by omega), setSeg_append_left ys _ _ _ (by simp; omega)]
theorem One.setSeg : ∀ {vs us : List Value} (k : Nat), One vs → One us → One (AM.setSeg us k vs)
 | [], _, _, _, h => h
 | v :: vs, us, k, hv, hu => by
  simp only [AM.setSeg]
  refine One.setSeg (k + 1) (fun u h => hv u (by simp [h])) fun u h => ?_
  rcases List.mem_or_eq_of_mem_set h with h' | h'
  ·exact hu u h'
  ·rw [h']; exact hv v (by simp)
def updElem (o : Nat) (ys : List AV) : AV → AV
 | .ag cs => .ag (setSeg cs o ys)
 | _ => ys.headD .any
def leafAll (ys : List AV) : Bool := ys.all fun y => y.leafy
theorem updElem_cells {o : Nat} {ys : List AV} {e : AV} (h : o + ys.length ≤ e.cells.length) (hp : ys ≠ []) (hl : leafAll ys = true) : (updElem o ys e).cells = setSeg e.cells o ys := by
 cases ys with
 | nil => exact absurd rfl hp
 | cons y ys =>
  have hy : y.leafy = true := by simp only [leafAll, List.all_cons, Bool.and_eq_true] at hl; exact hl.1
  have leaf : e.leafy = true ∨ (∃ vs, e = .tup vs) → (updElem o (y :: ys) e).cells = setSeg e.cells o (y :: ys) := by
   intro he
   have hc : e.cells = [e] := by
    rcases he with he | ⟨vs, rfl⟩
    ·cases e <;> first | rfl | (simp [AV.leafy] at he)
    ·rfl
   have hu : updElem o (y :: ys) e = y := by
    rcases he with he | ⟨vs, rfl⟩
    ·cases e <;> first | rfl | (simp [AV.leafy] at he)
    ·rfl
   rw [hc] at h
   simp only [List.length_cons, List.length_nil] at h
   have h0 : o = 0 := by omega
   have h1 : ys = [] := List.eq_nil_of_length_eq_zero (by omega)
   subst h0; subst h1
   rw [hu, hc]
   have : y.cells = [y] := by cases y <;> first | rfl | (simp [AV.leafy] at hy)
   rw [this]; rfl
  cases e with
  | ag cs => rfl
  | tup vs => exact leaf (.inr ⟨vs, rfl⟩)
  | _ => exact leaf (.inl rfl)
def updAt (xs : List AV) (i o : Nat) (ys : List AV) : List AV := xs.modify i (updElem o ys)
theorem updAt_flat {es o : Nat} {ys : List AV} (ho : o + ys.length ≤ es) (hp : ys ≠ []) (hl : leafAll ys = true) : ∀ (xs : List AV) (i : Nat), (∀ x ∈ xs, x.cells.length = es) → flat (updAt xs i o ys) = setSeg (flat xs) (i * es + o) ys
 | [], i, _ => by
  cases i <;> simp [updAt, flat, setSeg_out]
 | x :: xs, 0, h => by
  have hx := h x (by simp)
  simp only [updAt, List.modify_zero_cons, flat, List.flatMap_cons, Nat.zero_mul, Nat.zero_add]
  rw [updElem_cells (by omega) hp hl, setSeg_append_left _ _ _ _ (by omega)]
 | x :: xs, i + 1, h => by
  have hx := h x (by simp)
  have := updAt_flat ho hp hl xs i (fun y hy => h y (by simp [hy]))
  simp only [updAt, flat] at this
  simp only [updAt, List.modify_succ_cons, flat, List.flatMap_cons]
  rw [this, show (i + 1) * es + o = x.cells.length + (i * es + o) by rw [hx, Nat.succ_mul]; omega, setSeg_append_right]
theorem updAt_width {es o : Nat} {ys : List AV} (ho : o + ys.length ≤ es) (hp : ys ≠ []) (hl : leafAll ys = true) {xs : List AV} {i : Nat} (h : ∀ x ∈ xs, x.cells.length = es) : ∀ x ∈ updAt xs i o ys, x.cells.length = es := by
 intro x hx
 obtain ⟨j, hj⟩ := List.getElem?_of_mem hx
 simp only [updAt, List.getElem?_modify] at hj
 cases hk : xs[j]? with
 | none => simp [hk] at hj
 | some y =>
  have hy := h y (List.mem_of_getElem? hk)
  simp only [hk, Option.map_eq_map, Option.map_some, Option.some.injEq] at hj
  split at hj
  ·rw [← hj, updElem_cells (by omega) hp hl, setSeg_length]; exact hy
  ·rw [← hj]; exact hy
def storeRow (t es i o : Nat) (ys : List AV) : AV → AV
 | .sl t' es' xs => if t' = t then (if es' = es then .sl t es (updAt xs i o ys) else .any) else .sl t' es' xs
 | x => x
def storeLeaf (t es i o : Nat) (ys : List AV) : AV → AV
 | .so t' xs => if t' = t then .any else .so t' (xs.map (storeRow t es i o ys))
 | .po t' xs i' => if t' = t then .any else .po t' (xs.map (storeRow t es i o ys)) i'
 | .sl t' es' xs => if t' = t then (if es' = es then .sl t es (updAt xs i o ys) else .any) else .sl t' es' xs
 | .pe t' es' xs i' o' => if t' = t then (if es' = es then .pe t es (updAt xs i o ys) i' o' else .any) else .pe t' es' xs i' o'
 | .tl t' es' xs i' => if t' = t then (if es' = es then .tl t es (updAt xs i o ys) i' else .any) else .tl t' es' xs i'
 | x => x
def AV.storeAt (t es i o : Nat) (ys : List AV) (x : AV) : AV := x.mapTop (storeLeaf t es i o ys)
section
variable {G : Nat → Status} {w : World} {t es i o b : Nat} {ys : List AV} {vs : List Value} {cur : Array Value} {e : TypeId}
theorem heap_setRow_ne {b' : Nat} {cs : Array Value} (h : b' ≠ b) : (w.setRow b cs).heap[b']? = w.heap[b']? := by
 simp [World.setRow, Array.getElem?_modify, Ne.symm h]
theorem VRel.stored (hg : Good G w) (ht : 2 ≤ t) (hb : G b = .tag t) (hh : w.heap[b]? = some (.cells cur e (0, 0))) (ho : o + ys.length ≤ es) (hp : ys ≠ []) (hl : leafAll ys = true)
  (hy : PW (FRel (Stable G) w) ys vs) (h1 : One vs) {x : AV} {v : Value} (h : VRel G w x v) :
  VRel G (w.setRow b (setSeg cur.toList (i * es + o) vs).toArray) (x.storeAt t es i o ys) v := by
 have hset := setRow_heap w b cur (setSeg cur.toList (i * es + o) vs).toArray e (0, 0) hh
 have hF : ∀ {x v}, FRel (Stable G) w x v → FRel (Stable G) (w.setRow b (setSeg cur.toList (i * es + o) vs).toArray) x v := fun hr =>
  hr.mono (fun _ h => h) (fun b' hb' => heap_setRow_ne (fun h => by subst h; unfold Stable at hb'; rw [hb] at hb'; cases hb'))
 have hsl : ∀ {t' es' xs v}, VRel G w (.sl t' es' xs) v → VRel G (w.setRow b (setSeg cur.toList (i * es + o) vs).toArray) (storeLeaf t es i o ys (.sl t' es' xs)) v := by
  intro t' es' xs v h
  simp only [storeLeaf]
  cases h with
  | froz h =>
   have : t' < 2 := by cases h <;> assumption
   rw [if_neg (by omega)]
   exact .froz (hF h)
  | own _ _ _ _ e' vals h2 h3 h4 h5 h0 h6 =>
   by_cases htt : t' = t
   ·subst htt
    rw [if_pos rfl]
    by_cases hes : es' = es
    ·subst hes
     rw [if_pos rfl]
     have hlen : (updAt xs i o ys).length = xs.length := by simp [updAt]
     rcases h3.2 with ⟨hv, hn⟩ | ⟨g, cap, cur', hv, hgb, hh', hnc, hcm, hcs, hct⟩
     ·subst hv
      obtain rfl := List.eq_nil_of_length_eq_zero hn
      have : updAt [] i o ys = [] := by cases i <;> rfl
      rw [this]
      refine .own t' es' [] _ e' vals h2 ⟨h3.1, .inl ⟨rfl, rfl⟩⟩ (fun b hb => by simp [Value.ownBlock] at hb) (by simp) h0 ⟨h6.1, fun j x u hx hu => hF (h6.2 j x u hx hu)⟩
     ·subst hv
      obtain rfl := hg.tags _ _ _ (h4 g rfl) hb
      rw [hh] at hh'
      simp only [Option.some.injEq, Obj.cells.injEq, and_true] at hh'
      obtain ⟨rfl, rfl⟩ := hh'
      refine .own t' es' _ _ e (AM.setSeg vals (i * es' + o) vs) h2 ⟨?_, .inr ⟨g, cap, _, by rw [hlen], Nat.zero_le _, hset, by rw [hlen]; exact hnc, hcm, ?_, ?_⟩⟩ (fun b' hb' => ?_) (updAt_width ho hp hl h5) (One.setSeg _ h1 h0) ?_
      ·rw [setSeg_length, hlen]; exact h3.1
      ·simp only [List.size_toArray, setSeg_length, Array.length_toList]; exact hcs
      ·rw [hlen]; simp only [setSeg_take]; rw [hct]
      ·simp only [Value.ownBlock, Option.some.injEq] at hb'; rw [← hb']; exact hb
      ·rw [updAt_flat ho hp hl xs i h5]
       exact (PW.setSeg _ hy h6).mono fun x y _ hr => hF hr
    ·rw [if_neg hes]; exact .froz (.any _)
   ·rw [if_neg htt]
    refine .own t' es' xs v e' vals h2 (ownsRow_congr h3 fun b' hb' => heap_setRow_ne (fun h => ?_)) h4 h5 h0 (h6.mono fun x y _ hr => hF hr)
    subst h
    have := h4 _ hb'
    rw [hb] at this; cases this; exact htt rfl
 have hso : ∀ {t' xs v}, t' ≠ t → VRel G w (.so t' xs) v → VRel G (w.setRow b (setSeg cur.toList (i * es + o) vs).toArray) (.so t' (xs.map (storeRow t es i o ys))) v := by
  intro t' xs v hne h
  refine h.so_map h.so_two (fun x u hx hr => ?_) (fun b' hb' => ⟨hb', heap_setRow_ne (fun h => by subst h; rw [hb] at hb'; cases hb'; exact hne rfl)⟩)
  cases x with
  | sl t'' es'' xs'' =>
   have h1 := hsl hr.val
   have h2 : (storeRow t es i o ys (.sl t'' es'' xs'')).rowLike = true := by simp only [storeRow]; split <;> first | rfl | (split <;> rfl)
   refine ⟨h2, h1.toL h2 fun t3 es3 xs3 he h3 => ?_⟩
   simp only [storeLeaf] at he
   split at he
   ·rename_i htt
    split at he
    ·cases he; rw [← htt]; exact hr.rootOf (by omega)
    ·cases he
   ·cases he; exact hr.rootOf h3
  | _ => exact ⟨hx, .froz (hF (hr.other (by simp)))⟩
 refine h.mapTop fun x v hx h => ?_
 cases x with
 | so t' xs =>
  simp only [storeLeaf]; split
  ·exact .froz (.any _)
  ·rename_i hne; exact hso hne h
 | po t' xs i' =>
  obtain ⟨b', off, c, h2, h3, rfl⟩ := h.po_inv
  simp only [storeLeaf]; split
  ·exact .froz (.any _)
  ·rename_i hne; exact (hso hne h2).po_of (by simp) h3
 | sl t' es' xs => exact hsl h
 | pe t' es' xs i' o' =>
  obtain ⟨b', off, c, h2, h3, rfl⟩ := h.pe_inv
  have := hsl h2
  simp only [storeLeaf] at this ⊢
  by_cases htt : t' = t
  ·rw [if_pos htt] at this ⊢
   by_cases hes : es' = es
   ·rw [if_pos hes] at this ⊢
    have hlen : (updAt xs i o ys).length = xs.length := by simp [updAt]
    subst hes
    exact .pe _ _ _ _ _ _ off c (by rw [hlen]; exact this) (by rw [hlen]; exact h3)
   ·rw [if_neg hes]; exact .froz (.any _)
  ·rw [if_neg htt] at this ⊢
   exact .pe _ _ _ _ _ _ _ _ this h3
 | pb i o => obtain ⟨b, hb, rfl⟩ := h.pb_inv; exact .pb _ _ _ hb
 | ag cs => simp [AV.leafy] at hx
 | tup cs => simp [AV.leafy] at hx
 | any => exact .froz (.any _)
 | nil => rw [h.nil_inv]; exact .froz .nil
 | ub => obtain ⟨b, rfl⟩ := h.ub_inv; exact .froz (.ub b)
 | sc u => rw [h.sc_inv]; exact .froz (.sc _)
 | fn g caps => cases h with | froz h => exact .froz (hF h)
 | mp t' P k e' D => exact h.mpMono (fun _ hb => hb) (fun b' es cl _ hm => heap_setRow_ne (fun h => by subst h; rw [hh] at hm; cases hm))
 | cl g caps => exact h.clMono (fun _ h => h) (fun b' hb' => heap_setRow_ne (fun h => by subst h; unfold Stable at hb'; rw [hb] at hb'; cases hb')) (fun _ _ h => h)
 | tl t' es' xs i' =>
  obtain ⟨b', off, off', c, h2, h3, h4, _, rfl⟩ := h.tl_inv
  have := hsl h2
  simp only [storeLeaf] at this ⊢
  by_cases htt : t' = t
  ·rw [if_pos htt] at this ⊢
   by_cases hes : es' = es
   ·rw [if_pos hes] at this ⊢
    have hlen : (updAt xs i o ys).length = xs.length := by simp [updAt]
    subst hes
    have := VRel.tl t es' (updAt xs i o ys) i' b' off off' c (by rw [hlen]; exact this) (by rw [hlen]; exact h3) h4
    rw [hlen] at this; exact this
   ·rw [if_neg hes]; exact .froz (.any _)
  ·rw [if_neg htt] at this ⊢
   exact .tl _ _ _ _ _ _ _ _ this h3 h4
 | fp cs o => cases h with | froz h => exact .froz (hF h)
end
end Go.AM
