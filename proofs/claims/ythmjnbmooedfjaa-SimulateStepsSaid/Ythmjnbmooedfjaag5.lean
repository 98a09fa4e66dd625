/-
  The abstract machine: a drawn region's head, and calls, as rules.
  From the contract of a law to its row: arguments as they are read, and what the row asks behind the call.
  The types of this program.
  Walks: the dice.
  From the contract of a law of one list of bytes to its row.
  Walks: systems of the dice.
  Walks: searches in lists, and a system's check.
  Walks: matches.
  Tables of rows of truth values: how the machine's steps turn them.
  Plain laws: relations that lose pairs.
  Walks: refine.
  The abstract machine: a region that draws its order, some of whose operations only name places: these may be taken ahead of all others.
  Walks: slices.Repeat.
-/
import Derived.Test.Ythmjnbmooedfjaag4
import Derived.ProofKit
import Derived.Deep.Slices
import Derived.OpenShut
import Derived.Test.YthmjnbmooedfjaaProg
import Derived.Test.YthmjnbmooedfjaaRows
/-! ## AmS -/
namespace Go.AM
open Go.RowKit

section
variable {P : Program} {n : Nat} {t : List (Nat × AV)} {b : List (List AV)}
variable {d : Nat} {T : TypeId} {pos : String} {af : Array Edge} {g : Option (Nat × Bool)} {K : St → Prop}
@[congr] theorem headOp_congr {o : Oper} {K : St → Prop} {σ σ' : St} (h : mkd σ = σ') : headOp P o σ K = headOp P o σ' K := by subst_vars; rfl
@[congr] theorem CallY_congr {f : FuncId} {args args' : List AV} {d : Nat} {K : St → Prop} {σ σ' : St} (h1 : mkd args = args') (h : σ = σ') : CallY P f args d σ K = CallY P f args' d σ' K := by subst_vars; rfl
@[go_sem] theorem knownB_bool {c want : Bool} : knownB want (.sc (.bool c)) = some c := rfl
@[go_sem] theorem knownB_undef {want : Bool} : knownB want (.sc undef) = some (!want) := rfl
@[go_sem] theorem headOp_move {x : Operand} : headOp P ⟨some d, .move x, T, pos, af, g⟩ ⟨n, t, b⟩ K = andK (d < n) (K (St.put ⟨n, t, b⟩ (some d) (typed P d T (St.ev ⟨n, t, b⟩ x)))) := rfl
@[go_sem] theorem headOp_assign {x : Operand} : headOp P ⟨some d, .assign x, T, pos, af, g⟩ ⟨n, t, b⟩ K = andK (d < n) (K (St.put ⟨n, t, b⟩ (some d) (typed P d T (St.ev ⟨n, t, b⟩ x)))) := rfl
@[go_sem] theorem headOp_pick {c x y : Operand} : headOp P ⟨some d, .pick c x y, T, pos, af, g⟩ ⟨n, t, b⟩ K = andK (d < n) (onBool (St.ev ⟨n, t, b⟩ c) fun v => both v (K (St.put ⟨n, t, b⟩ (some d) (St.ev ⟨n, t, b⟩ x))) (K (St.put ⟨n, t, b⟩ (some d) (St.ev ⟨n, t, b⟩ y)))) := by
  simp only [headOp, evOp, andK, onBool, both]
  cases St.ev ⟨n, t, b⟩ c <;> simp
  rename_i v; cases v <;> simp
  rename_i v; intro _; cases v <;> simp
@[go_sem] theorem headOp_load {T' : TypeId} {x : Operand} : headOp P ⟨some d, .load T' x, T, pos, af, g⟩ ⟨n, t, b⟩ K = andK (d < n) (evLoad P b T' (St.ev ⟨n, t, b⟩ x) fun r => K (St.put ⟨n, t, b⟩ (some d) r)) := by simp [headOp, evOp, andK]
@[go_sem] theorem headOp_nilCheck {x : Operand} : headOp P ⟨some d, .nilCheck x, T, pos, af, g⟩ ⟨n, t, b⟩ K = andK (d < n) (andK ((isPtr (St.ev ⟨n, t, b⟩ x) || isFn (St.ev ⟨n, t, b⟩ x)) = true) (K (St.put ⟨n, t, b⟩ (some d) (St.ev ⟨n, t, b⟩ x)))) := by simp [headOp, evOp, andK]
@[go_sem] theorem headOp_binOp {op : BinOp} {T' T'' : TypeId} {x y : Operand} : headOp P ⟨some d, .binOp op T' x y T'', T, pos, af, g⟩ ⟨n, t, b⟩ K = andK (d < n) (evBinOp P op T' (St.ev ⟨n, t, b⟩ x) (St.ev ⟨n, t, b⟩ y) fun r => K (St.put ⟨n, t, b⟩ (some d) r)) := by simp [headOp, evOp, andK]
@[go_sem] theorem headOp_unOp {op : UnOp} {T' : TypeId} {x : Operand} : headOp P ⟨some d, .unOp op T' x, T, pos, af, g⟩ ⟨n, t, b⟩ K = andK (d < n) (evUn op (St.ev ⟨n, t, b⟩ x) fun r => K (St.put ⟨n, t, b⟩ (some d) r)) := by simp [headOp, evOp, andK]
@[go_sem] theorem headOp_convert {T' T'' : TypeId} {x : Operand} : headOp P ⟨some d, .convert T' T'' x, T, pos, af, g⟩ ⟨n, t, b⟩ K = andK (d < n) (evConv P T' T'' (St.ev ⟨n, t, b⟩ x) fun r => K (St.put ⟨n, t, b⟩ (some d) r)) := by simp [headOp, evOp, andK]
@[go_sem] theorem headOp_slice {T' : TypeId} {x : Operand} {lo hi mx : Option Operand} : headOp P ⟨some d, .slice T' x lo hi mx, T, pos, af, g⟩ ⟨n, t, b⟩ K = andK (d < n) (evSlice P T' (St.ev ⟨n, t, b⟩ x) (lo.map (St.ev ⟨n, t, b⟩)) (hi.map (St.ev ⟨n, t, b⟩)) (mx.map (St.ev ⟨n, t, b⟩)) fun r => K (St.put ⟨n, t, b⟩ (some d) r)) := by simp [headOp, evOp, andK]
@[go_sem] theorem headOp_fieldAddr {T' : TypeId} {x : Operand} {f : Nat} : headOp P ⟨some d, .fieldAddr T' x f, T, pos, af, g⟩ ⟨n, t, b⟩ K = andK (d < n) (evFieldAddr P T' (St.ev ⟨n, t, b⟩ x) f fun r => K (St.put ⟨n, t, b⟩ (some d) r)) := by simp [headOp, evOp, andK]
@[go_sem] theorem headOp_field {T' : TypeId} {x : Operand} {f : Nat} : headOp P ⟨some d, .field T' x f, T, pos, af, g⟩ ⟨n, t, b⟩ K = andK (d < n) (evField P T' (St.ev ⟨n, t, b⟩ x) f fun r => K (St.put ⟨n, t, b⟩ (some d) r)) := by simp [headOp, evOp, andK]
@[go_sem] theorem headOp_indexAddr {T' : TypeId} {x i : Operand} : headOp P ⟨some d, .indexAddr T' x i, T, pos, af, g⟩ ⟨n, t, b⟩ K = andK (d < n) (evIndexAddr P T' (St.ev ⟨n, t, b⟩ x) (St.ev ⟨n, t, b⟩ i) fun r => K (St.put ⟨n, t, b⟩ (some d) r)) := by simp [headOp, evOp, andK]
@[go_sem] theorem headOp_index {T' : TypeId} {x i : Operand} : headOp P ⟨some d, .index T' x i, T, pos, af, g⟩ ⟨n, t, b⟩ K = andK (d < n) (evIndex P T' (St.ev ⟨n, t, b⟩ x) (St.ev ⟨n, t, b⟩ i) fun r => K (St.put ⟨n, t, b⟩ (some d) r)) := by simp [headOp, evOp, andK]
@[go_sem] theorem headOp_extract {x : Operand} {i : Nat} : headOp P ⟨some d, .extract x i, T, pos, af, g⟩ ⟨n, t, b⟩ K = andK (d < n) (evExtract (St.ev ⟨n, t, b⟩ x) i fun r => K (St.put ⟨n, t, b⟩ (some d) r)) := by simp [headOp, evOp, andK]
@[go_sem] theorem headOp_build {T' : TypeId} {ps : List (Nat × Operand)} : headOp P ⟨some d, .build T' ps.toArray, T, pos, af, g⟩ ⟨n, t, b⟩ K = andK (d < n) (evBuild P T' (evParts ⟨n, t, b⟩ ps) fun r => K (St.put ⟨n, t, b⟩ (some d) r)) := by simp [headOp, evOp, andK, evParts_eq]
@[go_sem] theorem headOp_buildSlice {T' : TypeId} {len : Nat} {ps : List (Nat × Operand)} : headOp P ⟨some d, .buildSlice T' len ps.toArray, T, pos, af, g⟩ ⟨n, t, b⟩ K = andK (d < n) (evBuildSlice P d T' len (evParts ⟨n, t, b⟩ ps) fun r => K (St.put ⟨n, t, b⟩ (some d) r)) := by simp [headOp, evOp, andK, evParts_eq]
@[go_sem] theorem headOp_makeSlice {T' : TypeId} {l c : Operand} : headOp P ⟨some d, .makeSlice T' l c, T, pos, af, g⟩ ⟨n, t, b⟩ K = andK (d < n) ((evMake P d T' (St.ev ⟨n, t, b⟩ l) (St.ev ⟨n, t, b⟩ c) fun r => K (St.put ⟨n, t, b⟩ (some d) r))) := by simp [headOp, evOp, andK]
@[go_sem] theorem headOp_makeFunc {f : FuncId} {caps : List Operand} : headOp P ⟨some d, .makeFunc (.func f) (List.toArray []) caps.toArray, T, pos, af, g⟩ ⟨n, t, b⟩ K = andK (d < n) (onB (allFz (evAll ⟨n, t, b⟩ caps)) (K (St.put ⟨n, t, b⟩ (some d) (.fn f (evAll ⟨n, t, b⟩ caps)))) (andK (allCap (evAll ⟨n, t, b⟩ caps) = true) (K (St.put ⟨n, t, b⟩ (some d) (.cl f (evAll ⟨n, t, b⟩ caps)))))) := by simp [headOp, evOp, andK, onB, allCap_eq, evAll_eq, allFz_eq, List.all_map, Function.comp_def]
@[go_sem] theorem headOp_alloc {T' : TypeId} : headOp P ⟨some d, .alloc T', T, pos, af, g⟩ ⟨n, t, b⟩ K = andK (d < n) (caseO (tinfo P T') fun q => caseO q.2.2 fun z => andK (zeroOk q.1 z = true) (K (St.put ⟨n, t, b⟩ (some d) (.pe (64 * (d + 1)) q.1 [ofConst z] 0 0)))) := by
  simp [headOp, evOp, evAllocE, andK, caseO]
@[go_sem] theorem headOp_makeMap {T' : TypeId} : headOp P ⟨some d, .makeMap T' none, T, pos, af, g⟩ ⟨n, t, b⟩ K = andK (d < n) (evMakeMap P d T' fun r => K (St.put ⟨n, t, b⟩ (some d) r)) := by simp [headOp, evOp, andK]
@[go_sem] theorem headOp_lookup {T' : TypeId} {x y : Operand} : headOp P ⟨some d, .lookup T' x y false, T, pos, af, g⟩ ⟨n, t, b⟩ K = andK (d < n) (evLookup P T' (St.ev ⟨n, t, b⟩ x) (St.ev ⟨n, t, b⟩ y) fun r => K (St.put ⟨n, t, b⟩ (some d) r)) := by simp [headOp, evOp, andK]
@[go_sem] theorem headOp_len {x : Operand} {T' : TypeId} : headOp P ⟨some d, .call ⟨.builtin .len, [x].toArray, [T'].toArray⟩, T, pos, af, g⟩ ⟨n, t, b⟩ K = andK (d < n) (evLenM P T' (St.ev ⟨n, t, b⟩ x) fun r => K (St.put ⟨n, t, b⟩ (some d) r)) := by simp [headOp, evOp, andK]
@[go_sem] theorem headOp_cap {x : Operand} {T' : TypeId} : headOp P ⟨some d, .call ⟨.builtin .cap, [x].toArray, [T'].toArray⟩, T, pos, af, g⟩ ⟨n, t, b⟩ K = andK (d < n) (evCap P T' (St.ev ⟨n, t, b⟩ x) fun r => K (St.put ⟨n, t, b⟩ (some d) r)) := by simp [headOp, evOp, andK]
@[go_sem] theorem headOp_max {x y : Operand} {As : Array TypeId} : headOp P ⟨some d, .call ⟨.builtin .max, [x, y].toArray, As⟩, T, pos, af, g⟩ ⟨n, t, b⟩ K = andK (d < n) (evMax (St.ev ⟨n, t, b⟩ x) (St.ev ⟨n, t, b⟩ y) fun r => K (St.put ⟨n, t, b⟩ (some d) r)) := by simp [headOp, evOp, andK]
@[go_sem] theorem headOp_min {x y : Operand} {As : Array TypeId} : headOp P ⟨some d, .call ⟨.builtin .min, [x, y].toArray, As⟩, T, pos, af, g⟩ ⟨n, t, b⟩ K = andK (d < n) (evMin (St.ev ⟨n, t, b⟩ x) (St.ev ⟨n, t, b⟩ y) fun r => K (St.put ⟨n, t, b⟩ (some d) r)) := by simp [headOp, evOp, andK]
@[go_sem] theorem headOp_append {x y : Operand} {T' T'' : TypeId} : headOp P ⟨some d, .call ⟨.builtin .append, [x, y].toArray, [T', T''].toArray⟩, T, pos, af, g⟩ ⟨n, t, b⟩ K = andK (d < n) (evAppendX P d T' T'' (St.ev ⟨n, t, b⟩ x) (St.ev ⟨n, t, b⟩ y) fun r => K (St.put ⟨n, t, b⟩ (some d) r)) := by simp [headOp, evOp, andK]
@[go_sem] theorem headOp_call {f : FuncId} {args : List Operand} {As : Array TypeId} : headOp P ⟨some d, .call ⟨.value (.func f), args.toArray, As⟩, T, pos, af, g⟩ ⟨n, t, b⟩ K = andK (d < n) (CallY P f (evAll ⟨n, t, b⟩ args) d ⟨n, t, b⟩ K) := by simp [headOp, andK, St.ev, evAll_eq]

/-- a drawn region, as a frame for the rules -/
def crs : List Oper → List Nat
  | [] => []
  | o :: r => if creates o.op = true then (match o.dst with | some d => d :: crs r | none => crs r) else crs r
theorem crs_eq : ∀ l : List Oper, crs l = l.filterMap fun o => if creates o.op = true then o.dst else none
  | [] => rfl
  | o :: r => by
    rw [crs, crs_eq r, List.filterMap_cons]
    split
    · cases o.dst <;> rfl
    · rfl
attribute [go_sem] crs creates needsFresh
def headT (P : Program) (ops : Array Oper) : Nat → List Oper → St → (St → Prop) → Prop
  | 0, l, σ, K => opsA P ops l σ K
  | _ + 1, [], σ, K => K σ
  | m + 1, o :: l, σ, K => headG P ops o σ fun σ' => headT P ops m l σ' K
theorem headT_eq {ops : Array Oper} {K : St → Prop} : ∀ (m : Nat) (l : List Oper) (σ : St), headT P ops m l σ K = headA P ops (l.take m) σ fun σ' => opsA P ops (l.drop m) σ' K
  | 0, l, σ => by cases l <;> rfl
  | _ + 1, [], σ => rfl
  | m + 1, o :: l, σ => by
    show (headG P ops o σ fun σ' => headT P ops m l σ' K) = headG P ops o σ fun σ' => headA P ops (l.take m) σ' fun σ' => opsA P ops (l.drop m) σ' K
    have : (fun σ' => headT P ops m l σ' K) = fun σ' => headA P ops (l.take m) σ' fun σ' => opsA P ops (l.drop m) σ' K := funext fun σ' => headT_eq m l σ'
    rw [this]
@[congr] theorem headT_congr {ops : Array Oper} {m : Nat} {l : List Oper} {K : St → Prop} {σ σ' : St} (h : mkd σ = σ') : headT P ops m l σ K = headT P ops m l σ' K := by subst_vars; rfl
@[go_sem] theorem headT_zero {ops : Array Oper} {l : List Oper} {K : St → Prop} : headT P ops 0 l ⟨n, t, b⟩ K = opsA P ops l ⟨n, t, b⟩ K := rfl
@[go_sem] theorem headT_succ {ops : Array Oper} {m : Nat} {dst : Option Tmp} {op : Op} {l : List Oper} {K : St → Prop} : headT P ops (m + 1) (⟨dst, op, T, pos, af, none⟩ :: l) ⟨n, t, b⟩ K = headOp P ⟨dst, op, T, pos, af, none⟩ ⟨n, t, b⟩ fun σ' => headT P ops m l σ' K := rfl
@[go_sem] theorem headT_guard {ops : Array Oper} {m : Nat} {op : Op} {l : List Oper} {K : St → Prop} {j : Nat} {want : Bool} : headT P ops (m + 1) (⟨some d, op, T, pos, af, some (j, want)⟩ :: l) ⟨n, t, b⟩ K = caseO (guardSlot ops j) fun g => caseO (knownB want (lookT t g)) fun c =>
    both (c == want) (headOp P ⟨some d, op, T, pos, af, some (j, want)⟩ ⟨n, t, b⟩ fun σ' => headT P ops m l σ' K) (andK (d < n) (headT P ops m l (St.put ⟨n, t, b⟩ (some d) (.sc undef)) K)) := by
  simp only [headT, headG, caseO, both, andK, St.get]
  apply propext
  constructor
  · rintro ⟨g, c, h1, h2, h3, h4⟩
    refine ⟨g, h1, c, h2, h3, fun hc => ?_⟩
    obtain ⟨d', hd, h5, h6⟩ := h4 hc
    cases hd
    exact ⟨h5, h6⟩
  · rintro ⟨g, h1, c, h2, h3, h4⟩
    exact ⟨g, c, h1, h2, h3, fun hc => ⟨d, rfl, (h4 hc).1, (h4 hc).2⟩⟩
theorem DrawK.walk {l : List Oper} {σ : St} (m : Nat) (hm : P.follows .mixedOrders = true) (hok : drawOk l.toArray m = true)
    (h : andK (freeAll σ (crs (l.take m)) = true) (headT P l.toArray m l σ K)) : DrawK P l.toArray σ K :=
  DrawK.intro m hm hok (by rw [crs_eq] at h; exact h.1) (by rw [headT_eq] at h; exact h.2)

/-! ### calls -/
theorem CallU.free {f : FuncId} {args args' : List AV} {post : AV → List (List AV) → Prop} {σ : St} (hcon : Con P f args' [] post) (hc : σ.free d = true ∧ d < σ.n ∧ dedup (pbss args) = [] ∧ tagss args = []) (ha : mapTops viewLeaf args = args')
    (hk : ∀ r bx, post r bx → r.allLeaf lt64 = true ∧ K (σ.put (some d) (r.shift (64 * (d + 1))))) : CallU P f args d σ K := by
  unfold CallU
  rw [hc.2.2.1]
  refine .inl ⟨hc.1, hc.2.1, ?_⟩
  have : args.map AV.view = args' := by rw [← ha, mapTops_eq]; rfl
  rw [this]
  exact hcon.mono fun r bx h => ⟨(hk r bx h).1, .free hc.2.2.2 (hk r bx h).2⟩
theorem CallU.flat {f : FuncId} {args args' : List AV} {post : AV → List (List AV) → Prop} {σ : St} (hcon : Con P f args' [] post) (hc : σ.free d = true ∧ d < σ.n ∧ dedup (pbss args) = []) (ha : mapTops viewLeaf args = args')
    (hk : ∀ r bx, post r bx → r.allLeaf lt64 = true ∧ r.allLeaf flatLeaf = true ∧ K (σ.put (some d) (r.shift (64 * (d + 1))))) : CallU P f args d σ K := by
  unfold CallU
  rw [hc.2.2]
  refine .inl ⟨hc.1, hc.2.1, ?_⟩
  have : args.map AV.view = args' := by rw [← ha, mapTops_eq]; rfl
  rw [this]
  exact hcon.mono fun r bx h => ⟨(hk r bx h).1, .flat (hk r bx h).2.1 (hk r bx h).2.2⟩
theorem CallU.freeze {f : FuncId} {args args' : List AV} {post : AV → List (List AV) → Prop} {σ : St} (hcon : Con P f args' [] post) (hc : σ.free d = true ∧ d < σ.n ∧ dedup (pbss args) = []) (ha : mapTops viewLeaf args = args')
    (hk : ∀ r bx, post r bx → r.allLeaf lt64 = true ∧ K ((σ.map (freezeLeaf fun t => (tagss args).contains t)).put (some d) (r.shift (64 * (d + 1))))) : CallU P f args d σ K := by
  unfold CallU
  rw [hc.2.2]
  refine .inl ⟨hc.1, hc.2.1, ?_⟩
  have : args.map AV.view = args' := by rw [← ha, mapTops_eq]; rfl
  rw [this]
  exact hcon.mono fun r bx h => ⟨(hk r bx h).1, .freeze (hk r bx h).2⟩
theorem CallU.boxes {f : FuncId} {args args' : List AV} {i : Nat} {is : List Nat} {bx0 bx : List (List AV)} {post : AV → List (List AV) → Prop} {σ : St} (hcon : Con P f args' bx post) (hi : dedup (pbss args) = i :: is) (hb : getAll σ.boxes (i :: is) = some bx0)
    (hc : σ.free d = true ∧ d < σ.n ∧ allLeafs noTag args = true ∧ nodupB (i :: is) = true ∧ allNoTags bx0 = true) (ha : mapTops (pbIn (i :: is)) args = args') (hbx : mapB (pbIn (i :: is)) bx0 = bx)
    (hk : ∀ r bx', post r bx' → r.allLeaf lt64b = true ∧ allNoTags bx' = true ∧ K (St.put ⟨σ.n, σ.tmps, setAll (i :: is) (mapB (outLeaf (64 * (d + 1)) (i :: is) σ.boxes.length) (bx'.take (i :: is).length)) σ.boxes ++ mapB (outLeaf (64 * (d + 1)) (i :: is) σ.boxes.length) (bx'.drop (i :: is).length)⟩ (some d) (r.mapTop (outLeaf (64 * (d + 1)) (i :: is) σ.boxes.length)))) : CallU P f args d σ K := by
  unfold CallU
  rw [hi]
  exact .inl ⟨hc.1, hc.2.1, hc.2.2.1, hc.2.2.2.1, bx0, hb, hc.2.2.2.2, by rw [ha, hbx]; exact hcon.mono hk⟩
theorem CallU.news {f : FuncId} {args args' : List AV} {bx0 bx : List (List AV)} {post : AV → List (List AV) → Prop} {σ : St} (hcon : Con P f args' bx post) (hi : dedup (pbss args) = []) (hb : getAll σ.boxes [] = some bx0)
    (hc : σ.free d = true ∧ d < σ.n ∧ allLeafs noTag args = true ∧ nodupB [] = true ∧ allNoTags bx0 = true) (ha : mapTops (pbIn []) args = args') (hbx : mapB (pbIn []) bx0 = bx)
    (hk : ∀ r bx', post r bx' → r.allLeaf lt64b = true ∧ allNoTags bx' = true ∧ K (St.put ⟨σ.n, σ.tmps, setAll [] (mapB (outLeaf (64 * (d + 1)) [] σ.boxes.length) (bx'.take ([] : List Nat).length)) σ.boxes ++ mapB (outLeaf (64 * (d + 1)) [] σ.boxes.length) (bx'.drop ([] : List Nat).length)⟩ (some d) (r.mapTop (outLeaf (64 * (d + 1)) [] σ.boxes.length)))) : CallU P f args d σ K := by
  unfold CallU
  rw [hi]
  exact .inr (.inl ⟨hc.1, hc.2.1, hc.2.2.1, hc.2.2.2.1, bx0, hb, hc.2.2.2.2, by rw [ha, hbx]; exact hcon.mono hk⟩)
theorem CallU.lend {f : FuncId} {args args' : List AV} {post : AV → Prop} {σ : St} (hcon : ConC P f args' post) (hc : σ.free d = true ∧ d < σ.n ∧ dedup (pbss args) = [] ∧ allLeafs (pbLt 0) args = true ∧ (tagss args).length < 60) (ha : mapTops (renLeaf (tagss args)) args = args')
    (hk : ∀ r, post r → r.allLeaf lt64c = true ∧ K ((σ.map (killS (tagss args))).put (some d) (r.shift (64 * (d + 1))))) : CallU P f args d σ K := by
  unfold CallU
  rw [hc.2.2.1]
  exact .inr (.inr (.inl ⟨hc.1, hc.2.1, hc.2.2.2.1, hc.2.2.2.2, by rw [ha]; exact ⟨hcon.1, fun G w vs h1 h2 h3 => (hcon.2 G w vs h1 h2 h3).mono fun e w' ⟨v, r, G', he, hq, rest⟩ => ⟨v, r, G', he, hk r hq, rest⟩⟩⟩))
/-- a call that hands back what it was given -/
theorem CallU.back {f : FuncId} {args args' : List AV} {post : AV → List AV → Prop} {σ : St} (hcon : ConW P f args' post) (hc : σ.free d = true ∧ d < σ.n ∧ dedup (pbss args) = [] ∧ allLeafs (pbLt 0) args = true ∧ (tagss args).length < 60) (ha : mapTops (renLeaf (tagss args)) args = args')
    (hk : ∀ r ys, post r ys → r.allLeaf lt64c = true ∧ allLeafs lt64c ys = true ∧ posG (giveOf args (mapTops (shiftLeaf (64 * (d + 1))) ys)) = true ∧
      K ((σ.map (giveLeaf (tagss args) (giveOf args (mapTops (shiftLeaf (64 * (d + 1))) ys)))).put (some d) (r.shift (64 * (d + 1))))) : CallU P f args d σ K := by
  unfold CallU
  rw [hc.2.2.1]
  exact .inr (.inr (.inr (.inl ⟨hc.1, hc.2.1, hc.2.2.2.1, hc.2.2.2.2, by rw [ha]; exact ⟨hcon.1, fun G w vs h1 h2 h3 => (hcon.2 G w vs h1 h2 h3).mono fun e w' ⟨v, r, ys, G', he, hq, rest⟩ => ⟨v, r, ys, G', he, hk r ys hq, rest⟩⟩⟩)))
/-- a call that looks at the caller's variables (closures and their pointers among the arguments), writes to nothing, and hands back plain data -/
theorem CallU.look {f : FuncId} {args args' : List AV} {post : AV → List (List AV) → Prop} {σ : St} (hcon : Con P f args' [] post) (hc : σ.free d = true ∧ d < σ.n) (ha : mapTops (viewV σ.boxes) args = args')
    (hk : ∀ r bx, post r bx → r.allLeaf lt64 = true ∧ r.allLeaf flatLeaf = true ∧ K (σ.put (some d) (r.shift (64 * (d + 1))))) : CallU P f args d σ K := by
  have h : CallV P f args d σ K := ⟨hc.1, hc.2, by rw [ha]; exact hcon.mono hk⟩
  unfold CallU
  split
  · exact .inr (.inr (.inr (.inr h)))
  · exact .inr h
attribute [go_sem] viewV viewCap allFzV
attribute [go_sem] giveLeaf giveOf lookG posG
theorem CallY.mk {f : FuncId} {args args' : List AV} {r : AV} {σ : St} (hcon : Con P f args' [] fun r' _ => r' = r) (ha : mapTops viewLeaf args = args') (hr : r.allLeaf lt64 = true) (ht : tagss args = [] ∨ r.allLeaf flatLeaf = true) (hk : K (σ.put (some d) (r.shift (64 * (d + 1))))) : CallY P f args d σ K := by
  have : args.map AV.view = args' := by rw [← ha, mapTops_eq]; rfl
  exact ⟨r, by rw [this]; exact hcon, hr, ht, hk⟩
attribute [go_sem] pbIn outLeaf lt64b getAll setAll nodupB allNoTags pbss AV.pbs dedup freeAll
attribute [go_sem] List.take_zero List.drop_zero List.drop_succ_cons List.drop_nil List.contains_cons List.contains_nil List.nil_append List.cons_append List.set_cons_zero List.set_cons_succ List.map_map
/-! ### copy -/
@[go_sem] theorem evCopy_sl {P : Program} {T : TypeId} {d t t' : Nat} {xs ys : List AV} {σ : St} {K : St → Prop} : evCopy P T d σ (.sl t 1 xs) (.sl t' 1 ys) K = onSlice (P.underlying T) fun E => caseO (tinfo P E) fun q => andK (q.1 = 1) (andK (2 ≤ t)
    (0 < xs.length ∧ 0 < ys.length ∧ leafAll ys = true ∧ K ((σ.map (copyLeaf t 0 (ys.take (xs.length - 0)))).put (some d) (.sc (.int .i64 (min ys.length (xs.length - 0) : Nat)))))) := by
  unfold evCopy onSlice caseO andK
  simp only [copyDst]
  apply propext
  constructor
  · rintro ⟨h1, ⟨E, q, h2, h3, h4⟩, h5, h6, h7, h8⟩
    exact ⟨E, h2, q, h3, h4, h1, h5, h6, h7, h8⟩
  · rintro ⟨E, h2, q, h3, h4, h1, h5, h6, h7, h8⟩
    exact ⟨h1, ⟨E, q, h2, h3, h4⟩, h5, h6, h7, h8⟩
@[go_sem] theorem evCopy_tl {P : Program} {T : TypeId} {d t t' i : Nat} {xs ys : List AV} {σ : St} {K : St → Prop} : evCopy P T d σ (.tl t 1 xs i) (.sl t' 1 ys) K = onSlice (P.underlying T) fun E => caseO (tinfo P E) fun q => andK (q.1 = 1) (andK (2 ≤ t)
    (i < xs.length ∧ 0 < ys.length ∧ leafAll ys = true ∧ K ((σ.map (copyLeaf t i (ys.take (xs.length - i)))).put (some d) (.sc (.int .i64 (min ys.length (xs.length - i) : Nat)))))) := by
  unfold evCopy onSlice caseO andK
  simp only [copyDst]
  apply propext
  constructor
  · rintro ⟨h1, ⟨E, q, h2, h3, h4⟩, h5, h6, h7, h8⟩
    exact ⟨E, h2, q, h3, h4, h1, h5, h6, h7, h8⟩
  · rintro ⟨E, h2, q, h3, h4, h1, h5, h6, h7, h8⟩
    exact ⟨h1, ⟨E, q, h2, h3, h4⟩, h5, h6, h7, h8⟩
@[go_sem] theorem evClear_tl {P : Program} {T : TypeId} {t i : Nat} {xs : List AV} {σ : St} {K : St → Prop} : evClear P T σ (.tl t 1 xs i) K = onSlice (P.underlying T) fun E => caseO (tinfo P E) fun q => caseO q.2.2 fun z => andK (q.1 = 1 ∧ 2 ≤ t ∧ z.cells = #[z] ∧ z.oneCell' = true ∧ leafAll [ofConst z] = true)
    (i < xs.length ∧ K (σ.map (copyLeaf t i (List.replicate (xs.length - i) (ofConst z))))) := by
  unfold evClear onSlice caseO andK
  simp only [copyDst]
  apply propext
  constructor
  · rintro ⟨h1, h2, E, q, z, h3, h4, h5, h6, h7, h8, h9, h10⟩
    exact ⟨E, h3, q, h4, z, h6, ⟨h5, h1, h7, h8, h9⟩, h2, h10⟩
  · rintro ⟨E, h3, q, h4, z, h6, ⟨h5, h1, h7, h8, h9⟩, h2, h10⟩
    exact ⟨h1, h2, E, q, z, h3, h4, h5, h6, h7, h8, h9, h10⟩
@[go_sem] theorem modify_one {α : Type} (x : α) (f : α → α) : [x].modify 0 f = [f x] := rfl
theorem setSeg_map {α β : Type} (f : α → β) : ∀ (m l : List α) (i : Nat), setSeg (l.map f) i (m.map f) = (setSeg l i m).map f
  | [], _, _ => rfl
  | x :: m, l, i => by simp only [List.map_cons, setSeg]; rw [← List.map_set, setSeg_map f m]
attribute [go_sem] copyLeaf mvLeaf
end
end Go.AM

/-! ## AmT -/
namespace Go.AM
open Go Go.RowKit Go.WideShapes Go.ChangeShapes

/-- what was there before the call is never written -/
def oldG (w : World) (b : Nat) : Status := if b < w.heap.size then .stable else .junk
theorem oldG_lt {w : World} {b : Nat} (h : b < w.heap.size) : Stable (oldG w) b := by simp [Stable, oldG, h]
theorem oldG_tag (w : World) (b t : Nat) : oldG w b ≠ .tag t := by unfold oldG; split <;> simp
theorem oldG_box (w : World) (b t : Nat) : oldG w b ≠ .box t := by unfold oldG; split <;> simp
theorem oldG_good (w : World) : Good (oldG w) w := by
  refine ⟨fun b h => ?_, fun b b' t h => absurd h (oldG_tag w b t), fun b b' t h => absurd h (oldG_box w b t)⟩
  unfold oldG at h; split at h
  · assumption
  · exact absurd rfl h

theorem cell_old {w : World} {a : Addr} {v : Value} (h : w.cell? a = some v) : a.block < w.heap.size := by
  unfold World.cell? at h
  rcases Nat.lt_or_ge a.block w.heap.size with h' | h'
  · exact h'
  · rw [Array.getElem?_eq_none h'] at h; simp at h

section
variable {H : Type} {enc : TypeId × Value → H} {P : Program} {w : World} {base : Nat} {spare : Nat → Bool} {held : Bool}

/-- how a datum of one cell stands -/
def Stands (enc : TypeId × Value → H) (P : Program) (w : World) (base : Nat) (spare : Nat → Bool) (held : Bool) (e : TypeId) (f : DataW H → AV) : Prop :=
  ∀ n v d ps, DataW.trod enc P w base spare held n e [v] = some (d, ps) → FRel (Stable (oldG w)) w (f d) v ∧ (f d).leafy = true ∧ v.oneCell' = true

def avInt : DataW H → AV
  | .lit (.int k n) => .sc (.int k n)
  | _ => .any
def avBool : DataW H → AV
  | .lit (.bool b) => .sc (.bool b)
  | _ => .any
def avStr : DataW H → AV
  | .lit (.string l) => .sc (.string ⟨l.toArray⟩)
  | _ => .any
def avSl (f : DataW H → AV) : DataW H → AV
  | .slice xs _ => .sl 0 1 (xs.map f)
  | _ => .sl 0 1 []

theorem stands_int {e : TypeId} {k : IntKind} (he : P.underlying e = some (.int k)) : Stands enc P w base spare held e avInt := by
  intro n v d ps h
  obtain ⟨x, e0, e1, wx⟩ := DataW.trod_int he h
  simp only [List.cons.injEq, and_true] at e0
  simp only [Prod.mk.injEq] at e1
  obtain ⟨rfl, _⟩ := e1
  subst e0
  exact ⟨.sc _, rfl, rfl⟩
/-- the number that a datum is -/
def numI : DataW H → Int
  | .lit (.int _ n) => n
  | _ => 0
/-- the elements' images -/
def rowOf {α : Type} (f : DataW H → α) : DataW H → List α
  | .slice xs _ => xs.map f
  | _ => []
theorem stands_i64 {e : TypeId} (he : P.underlying e = some (.int .i64)) : Stands enc P w base spare held e fun d => .sc (.int .i64 (numI d)) := by
  intro n v d ps h
  obtain ⟨x, e0, e1, wx⟩ := DataW.trod_int he h
  simp only [List.cons.injEq, and_true] at e0
  simp only [Prod.mk.injEq] at e1
  obtain ⟨rfl, _⟩ := e1
  subst e0
  exact ⟨.sc _, rfl, rfl⟩
theorem avSl_row {α : Type} (g : α → AV) (f : DataW H → α) (d : DataW H) : avSl (fun x => g (f x)) d = .sl 0 1 ((rowOf f d).map g) := by
  cases d <;> simp [avSl, rowOf]
theorem stands_bool {e : TypeId} (he : P.underlying e = some .bool) : Stands enc P w base spare held e avBool := by
  intro n v d ps h
  obtain ⟨x, e0, e1⟩ := DataW.trod_bool he h
  simp only [List.cons.injEq, and_true] at e0
  simp only [Prod.mk.injEq] at e1
  obtain ⟨rfl, _⟩ := e1
  subst e0
  exact ⟨.sc _, rfl, rfl⟩
theorem stands_string {e : TypeId} (he : P.underlying e = some .string) : Stands enc P w base spare held e avStr := by
  intro n v d ps h
  obtain ⟨x, e0, e1, _⟩ := DataW.trod_string he h
  simp only [List.cons.injEq, and_true] at e0
  simp only [Prod.mk.injEq] at e1
  obtain ⟨rfl, _⟩ := e1
  subst e0
  refine ⟨?_, rfl, rfl⟩
  simp only [avStr, Array.toArray_toList]
  exact .sc _

theorem flat_leafy {xs : List AV} (h : ∀ x ∈ xs, x.leafy = true) : flat xs = xs := by
  induction xs with
  | nil => rfl
  | cons x xs ih =>
    have hx := h x (by simp)
    have hc : x.cells = [x] := by cases x <;> first | rfl | (simp [AV.leafy] at hx)
    have := ih fun y hy => h y (by simp [hy])
    simp only [flat, List.flatMap_cons, hc] at this ⊢
    rw [this]; rfl

theorem stands_slice {t e : TypeId} {f : DataW H → AV} (ht : P.underlying t = some (.slice e)) (hc : P.cellsOf e = 1) (hf : Stands enc P w base spare held e f) : Stands enc P w base spare held t (avSl f) := by
  intro n v d ps h
  rcases Go.Deep.open_slice1 ht hc h with ⟨h1, h2⟩ | ⟨a, len, cap, m, n', V, D, Pl, h1, _, hl, _, hm, h2, hel⟩
  · simp only [List.cons.injEq, and_true] at h1
    simp only [Prod.mk.injEq] at h2
    obtain ⟨rfl, _⟩ := h2
    subst h1
    exact ⟨.slNil _ _ _ _ (by omega) (by simp) (by simp), rfl, rfl⟩
  · simp only [List.cons.injEq, and_true] at h1
    simp only [Prod.mk.injEq] at h2
    obtain ⟨rfl, _⟩ := h2
    subst h1
    refine ⟨?_, rfl, rfl⟩
    have hlm : len ≤ m := by rw [hm]; split <;> omega
    simp only [avSl, List.map_map]
    rcases Nat.eq_zero_or_pos len with h0 | hp
    · subst h0
      exact .slNil _ _ _ _ (by omega) (by simp) (by simp)
    · obtain ⟨b, off, spot⟩ := a
      have hspot : spot = none := by simpa [Addr.add] using World.cell?_spot (hel 0 (by omega)).1
      subst hspot
      have hlen : ((List.range len).map (f ∘ D)).length = len := by simp
      have hone : ∀ i, i < len → FRel (Stable (oldG w)) w (f (D i)) (V i) ∧ (f (D i)).leafy = true ∧ (V i).oneCell' = true := fun i hi => hf n' (V i) (D i) (Pl i) (hel i (by omega)).2
      have hleaf : ∀ x ∈ (List.range len).map (f ∘ D), x.leafy = true := by
        intro x hx
        obtain ⟨i, hi, rfl⟩ := List.mem_map.1 hx
        exact (hone i (List.mem_range.1 hi)).2.1
      have hb : b < w.heap.size := cell_old (a := (Addr.mk b off none).add 0) (hel 0 (by omega)).1
      have := FRel.sl (S := Stable (oldG w)) (w := w) 0 1 ((List.range len).map (f ∘ D)) b off cap ((List.range len).map V) (by omega) (oldG_lt hb) (by simp) (by rw [hlen]; exact hl)
        (fun x hx => by have h := hleaf x hx; cases x <;> first | rfl | (simp [AV.leafy] at h)) (by rw [flat_leafy hleaf]; simp)
        (fun u hu => by obtain ⟨i, hi, rfl⟩ := List.mem_map.1 hu; exact (hone i (List.mem_range.1 hi)).2.2)
        (fun j u hj => by
          have hjl : j < len := by have := (List.getElem?_eq_some_iff.1 hj).1; simpa using this
          simp only [List.getElem?_map, List.getElem?_range hjl, Option.map_some, Option.some.injEq] at hj
          subst hj
          have := (hel j (by omega)).1
          rwa [Go.WideShapes.add_plain] at this)
        (fun j x u hx hu => by
          rw [flat_leafy hleaf] at hx
          have hjl : j < len := by have := (List.getElem?_eq_some_iff.1 hx).1; simpa using this
          simp only [List.getElem?_map, List.getElem?_range hjl, Option.map_some, Option.some.injEq] at hx hu
          subst hx; subst hu
          exact (hone j hjl).1)
      rw [hlen] at this
      exact this

/-- one argument of one cell -/
theorem Stands.arg {t : TypeId} {f : DataW H → AV} {v : Value} {d : DataW H} {ps : List MemPlace} (hs : Stands enc P w base spare held t f) (h1 : v.cells.toList = [v]) (h : DataW.Trod enc P w base spare held t v d ps) : VRel (oldG w) w (f d) v := by
  obtain ⟨n, hn⟩ := h
  rw [h1] at hn
  exact .froz (hs n v d ps hn).1

theorem trodAll_stays (hl : laidOutB P = true) {W W' : World} {sp : Nat → Bool} (hb : Go.RowKit.Below W.heap.size W W') : ∀ {ts : List TypeId} {vs : List Value} {ds : List (DataW H)} {ps : List MemPlace}, (∀ t ∈ ts, P.readableRec t = true ∧ t < P.types.size) →
    DataW.TrodAll enc P W 0 (fun _ => true) true ts vs ds ps → (∀ p ∈ ps, p.block < W.heap.size) → (∀ p ∈ ps, sp p.block = true) → DataW.TrodAll enc P W' 0 sp true ts vs ds ps
  | [], vs, ds, ps, _, h, _, _ => by
    cases vs <;> cases ds <;> simp only [DataW.TrodAll] at h ⊢ <;> first | exact h | exact h.elim
  | t :: ts, vs, ds, ps, hr, h, h1, h2 => by
    cases vs with
    | nil => cases ds <;> simp only [DataW.TrodAll] at h
    | cons v vs =>
      cases ds with
      | nil => simp only [DataW.TrodAll] at h
      | cons d ds =>
        simp only [DataW.TrodAll] at h ⊢
        obtain ⟨p, q, hp, hq, rfl⟩ := h
        exact ⟨p, q, WideElems.Trod_stays hl (hr t (by simp)).1 (hr t (by simp)).2 hp (fun x hx => hb.same (h1 x (by simp [hx]))) (fun x hx => h2 x (by simp [hx])),
          trodAll_stays hl hb (fun t' ht' => hr t' (by simp [ht'])) hq (fun x hx => h1 x (by simp [hx])) (fun x hx => h2 x (by simp [hx])), rfl⟩

/-- what a law's row asks behind a call that writes to nothing that was there -/
theorem law_post {f : Func} {s : ChangeSpec} {W W' : World} {args : Array Value} {ds gs : List (DataW H)} {before : List MemPlace} {tb : TypeId} (hl : laidOutB P = true) (hv : s.vars = []) (hr : f.resultTypes = #[tb]) (ht : P.underlying tb = some .bool)
    (hrec : ∀ t ∈ f.params.toList, P.readableRec t = true ∧ t < P.types.size)
    (hW : DataW.Whole enc P f.params.toList s.vars false W args.toList ds gs before) (hs : s.fn H (ds ++ gs) = { results := [.lit (.bool true)], args := ds }) (hb : Go.RowKit.Below W.heap.size W W') :
    s.post enc P f false true false false W args (.bool true) W' := by
  have hW0 := hW
  have hlt : ∀ p ∈ before, p.block < W.heap.size := fun p hp => hW.lt p hp
  obtain ⟨p, q, hA, hV, rfl, hfz, hnd⟩ := hW
  have hV0 := hV
  rw [hv] at hV
  obtain ⟨hg, hq⟩ : gs = [] ∧ q = [] := by
    cases gs <;> simp only [DataW.TrodVars] at hV
    exact ⟨rfl, hV⟩
  subst hg; subst hq
  have hargs : ∀ sp : Nat → Bool, (∀ x ∈ p ++ [], sp x.block = true) → DataW.TrodAll enc P W' 0 sp true f.params.toList args.toList (s.fn H (ds ++ [])).args p := fun sp h => by
    rw [hs]
    exact trodAll_stays hl hb hrec hA (fun x hx => hlt x (by simp [hx])) (fun x hx => h x (by simp [hx]))
  have hvars : ∀ sp : Nat → Bool, DataW.TrodVars enc P W' sp s.vars (s.fn H (ds ++ [])).vars [] := fun sp => by rw [hs, hv]; simp only [DataW.TrodVars]
  have hres : ∀ (b : Nat) (sp : Nat → Bool) (hd : Bool), DataW.TrodAll enc P W' b sp hd f.resultTypes.toList ((Value.bool true).resultList f.resultTypes.size) (s.fn H (ds ++ [])).results [] := fun b sp hd => by
    rw [hs, hr]
    exact trodAll_mk1 (shut_bool ht true)
  have hold : ∀ x ∈ p ++ [], (fun b => decide (b < W.heap.size)) x.block = true := fun x hx => by simpa using hlt x hx
  exact ⟨ds, [], p ++ [], [], p, [], hW0, hres _ _ _, hargs _ hold, hvars _, World.keptBut_mono (fun x hx => ⟨hx, .inr (.inl (by simpa using hx))⟩) (hb.frame (· ∈ p ++ [])), fun h => by cases h⟩

/-- a law's contract, at the arguments' own standing -/
theorem Con.law {f : FuncId} {avs : List AV} {W : World} {args : Array Value} (hc : Con P f avs [] fun r _ => r = .sc (.bool true)) (hv : PW (VRel (oldG W) W) avs args.toList) {Q : Ending → World → Prop}
    (hQ : ∀ W', Go.RowKit.Below W.heap.size W W' → Q (.returned (.bool true)) W') : Calls P f args W Q := by
  refine (hc.2 (oldG W) W args (oldG_good W) (oldG_tag W) (fun b i h => absurd h (oldG_box W b i)) ⟨fun i vs hv => by simp [noGh] at hv, fun i cs h => by simp at h⟩ hv).mono ?_
  rintro e w' ⟨v, r, bx', G', rfl, rfl, hr, _, _, _, e1, e2, e3, e4, _, e6⟩
  obtain rfl := hr.sc_inv
  exact hQ w' ⟨e1, e2, e3, e4, fun k hk => e6 k hk fun i h => oldG_box W k i h⟩
end
end Go.AM

/-! ## Ty -/
namespace Go.AM
open Go Go.Proofs

theorem tinfo_0 : tinfo Try.prog 0 = some (1, 0, some (Value.tuple (List.toArray []))) := by kernel_rfl
theorem agg_0 : aggT Try.prog 0 = some false := by kernel_rfl
theorem tinfo_1 : tinfo Try.prog 1 = some (1, 8, some Value.nilFunc) := by kernel_rfl
theorem agg_1 : aggT Try.prog 1 = some false := by kernel_rfl
theorem tinfo_2 : tinfo Try.prog 2 = some (1, 8, some (Value.int IntKind.i64 (0))) := by kernel_rfl
theorem agg_2 : aggT Try.prog 2 = some false := by kernel_rfl
theorem tinfo_3 : tinfo Try.prog 3 = some (1, 8, some (Value.int IntKind.i64 (0))) := by kernel_rfl
theorem agg_3 : aggT Try.prog 3 = some false := by kernel_rfl
theorem tinfo_4 : tinfo Try.prog 4 = some (1, 1, some (Value.bool false)) := by kernel_rfl
theorem agg_4 : aggT Try.prog 4 = some false := by kernel_rfl
theorem tinfo_5 : tinfo Try.prog 5 = some (1, 1, some (Value.int IntKind.u8 (0))) := by kernel_rfl
theorem agg_5 : aggT Try.prog 5 = some false := by kernel_rfl
theorem tinfo_6 : tinfo Try.prog 6 = some (1, 1, some (Value.int IntKind.u8 (0))) := by kernel_rfl
theorem agg_6 : aggT Try.prog 6 = some false := by kernel_rfl
theorem tinfo_7 : tinfo Try.prog 7 = some (4, 24, some (Value.agg (List.toArray [Value.int IntKind.i64 (0), Value.int IntKind.i64 (0), Value.bool false, Value.int IntKind.u8 (0)]))) := by kernel_rfl
theorem agg_7 : aggT Try.prog 7 = some true := by kernel_rfl
theorem tinfo_8 : tinfo Try.prog 8 = some (4, 24, some (Value.agg (List.toArray [Value.int IntKind.i64 (0), Value.int IntKind.i64 (0), Value.bool false, Value.int IntKind.u8 (0)]))) := by kernel_rfl
theorem agg_8 : aggT Try.prog 8 = some true := by kernel_rfl
theorem tinfo_9 : tinfo Try.prog 9 = some (1, 16, some (Value.string (ByteArray.mk (List.toArray [])))) := by kernel_rfl
theorem agg_9 : aggT Try.prog 9 = some false := by kernel_rfl
theorem tinfo_10 : tinfo Try.prog 10 = some (1, 16, some (Value.string (ByteArray.mk (List.toArray [])))) := by kernel_rfl
theorem agg_10 : aggT Try.prog 10 = some false := by kernel_rfl
theorem tinfo_11 : tinfo Try.prog 11 = some (1, 16, some (Value.string (ByteArray.mk (List.toArray [])))) := by kernel_rfl
theorem agg_11 : aggT Try.prog 11 = some false := by kernel_rfl
theorem tinfo_12 : tinfo Try.prog 12 = some (1, 8, some (Value.int IntKind.u64 (0))) := by kernel_rfl
theorem agg_12 : aggT Try.prog 12 = some false := by kernel_rfl
theorem tinfo_13 : tinfo Try.prog 13 = some (2, 24, some (Value.agg (List.toArray [Value.string (ByteArray.mk (List.toArray [])), Value.int IntKind.u64 (0)]))) := by kernel_rfl
theorem agg_13 : aggT Try.prog 13 = some true := by kernel_rfl
theorem tinfo_14 : tinfo Try.prog 14 = some (2, 24, some (Value.agg (List.toArray [Value.string (ByteArray.mk (List.toArray [])), Value.int IntKind.u64 (0)]))) := by kernel_rfl
theorem agg_14 : aggT Try.prog 14 = some true := by kernel_rfl
theorem tinfo_15 : tinfo Try.prog 15 = some (1, 8, some (Value.pointer none)) := by kernel_rfl
theorem agg_15 : aggT Try.prog 15 = some false := by kernel_rfl
theorem tinfo_16 : tinfo Try.prog 16 = some (1, 8, some (Value.pointer none)) := by kernel_rfl
theorem agg_16 : aggT Try.prog 16 = some false := by kernel_rfl
theorem tinfo_17 : tinfo Try.prog 17 = some (1, 8, some (Value.pointer none)) := by kernel_rfl
theorem agg_17 : aggT Try.prog 17 = some false := by kernel_rfl
theorem tinfo_18 : tinfo Try.prog 18 = some (1, 8, some (Value.agg (List.toArray [Value.pointer none]))) := by kernel_rfl
theorem agg_18 : aggT Try.prog 18 = some true := by kernel_rfl
theorem tinfo_19 : tinfo Try.prog 19 = some (1, 8, some (Value.agg (List.toArray [Value.pointer none]))) := by kernel_rfl
theorem agg_19 : aggT Try.prog 19 = some true := by kernel_rfl
theorem tinfo_20 : tinfo Try.prog 20 = some (1, 16, some Value.nilIface) := by kernel_rfl
theorem agg_20 : aggT Try.prog 20 = some false := by kernel_rfl
theorem tinfo_21 : tinfo Try.prog 21 = some (1, 4, some (Value.int IntKind.i32 (0))) := by kernel_rfl
theorem agg_21 : aggT Try.prog 21 = some false := by kernel_rfl
theorem tinfo_22 : tinfo Try.prog 22 = some (1, 24, some (Value.slice none 0 0)) := by kernel_rfl
theorem agg_22 : aggT Try.prog 22 = some false := by kernel_rfl
theorem tinfo_23 : tinfo Try.prog 23 = some (1, 8, some Value.nilFunc) := by kernel_rfl
theorem agg_23 : aggT Try.prog 23 = some false := by kernel_rfl
theorem tinfo_24 : tinfo Try.prog 24 = some (1, 8, some (Value.pointer none)) := by kernel_rfl
theorem agg_24 : aggT Try.prog 24 = some false := by kernel_rfl
theorem tinfo_25 : tinfo Try.prog 25 = some (1, 8, some Value.nilFunc) := by kernel_rfl
theorem agg_25 : aggT Try.prog 25 = some false := by kernel_rfl
theorem tinfo_26 : tinfo Try.prog 26 = some (1, 24, some (Value.slice none 0 0)) := by kernel_rfl
theorem agg_26 : aggT Try.prog 26 = some false := by kernel_rfl
theorem tinfo_27 : tinfo Try.prog 27 = some (1, 24, some (Value.agg (List.toArray [Value.slice none 0 0]))) := by kernel_rfl
theorem agg_27 : aggT Try.prog 27 = some true := by kernel_rfl
theorem tinfo_28 : tinfo Try.prog 28 = some (1, 24, some (Value.agg (List.toArray [Value.slice none 0 0]))) := by kernel_rfl
theorem agg_28 : aggT Try.prog 28 = some true := by kernel_rfl
theorem tinfo_29 : tinfo Try.prog 29 = some (1, 8, some Value.nilFunc) := by kernel_rfl
theorem agg_29 : aggT Try.prog 29 = some false := by kernel_rfl
theorem tinfo_30 : tinfo Try.prog 30 = some (1, 8, some (Value.int IntKind.i64 (0))) := by kernel_rfl
theorem agg_30 : aggT Try.prog 30 = some false := by kernel_rfl
theorem tinfo_31 : tinfo Try.prog 31 = some (1, 0, some (Value.tuple (List.toArray [Value.bool false, Value.int IntKind.i64 (0)]))) := by kernel_rfl
theorem agg_31 : aggT Try.prog 31 = some false := by kernel_rfl
theorem tinfo_32 : tinfo Try.prog 32 = some (1, 8, some Value.nilFunc) := by kernel_rfl
theorem agg_32 : aggT Try.prog 32 = some false := by kernel_rfl
theorem tinfo_33 : tinfo Try.prog 33 = some (1, 24, some (Value.slice none 0 0)) := by kernel_rfl
theorem agg_33 : aggT Try.prog 33 = some false := by kernel_rfl
theorem tinfo_34 : tinfo Try.prog 34 = some (1, 0, some (Value.tuple (List.toArray [Value.slice none 0 0, Value.bool false, Value.int IntKind.i64 (0)]))) := by kernel_rfl
theorem agg_34 : aggT Try.prog 34 = some false := by kernel_rfl
theorem tinfo_35 : tinfo Try.prog 35 = some (1, 8, some Value.nilFunc) := by kernel_rfl
theorem agg_35 : aggT Try.prog 35 = some false := by kernel_rfl
theorem tinfo_36 : tinfo Try.prog 36 = some (1, 8, some Value.nilFunc) := by kernel_rfl
theorem agg_36 : aggT Try.prog 36 = some false := by kernel_rfl
theorem tinfo_37 : tinfo Try.prog 37 = some (1, 8, some Value.nilFunc) := by kernel_rfl
theorem agg_37 : aggT Try.prog 37 = some false := by kernel_rfl
theorem tinfo_38 : tinfo Try.prog 38 = some (1, 8, some Value.nilFunc) := by kernel_rfl
theorem agg_38 : aggT Try.prog 38 = some false := by kernel_rfl
theorem tinfo_39 : tinfo Try.prog 39 = some (1, 24, some (Value.slice none 0 0)) := by kernel_rfl
theorem agg_39 : aggT Try.prog 39 = some false := by kernel_rfl
theorem tinfo_40 : tinfo Try.prog 40 = some (1, 0, some (Value.tuple (List.toArray [Value.slice none 0 0, Value.int IntKind.i64 (0)]))) := by kernel_rfl
theorem agg_40 : aggT Try.prog 40 = some false := by kernel_rfl
theorem tinfo_41 : tinfo Try.prog 41 = some (1, 8, some Value.nilFunc) := by kernel_rfl
theorem agg_41 : aggT Try.prog 41 = some false := by kernel_rfl
theorem tinfo_42 : tinfo Try.prog 42 = some (1, 24, some (Value.slice none 0 0)) := by kernel_rfl
theorem agg_42 : aggT Try.prog 42 = some false := by kernel_rfl
theorem tinfo_43 : tinfo Try.prog 43 = some (1, 8, some Value.nilFunc) := by kernel_rfl
theorem agg_43 : aggT Try.prog 43 = some false := by kernel_rfl
theorem tinfo_44 : tinfo Try.prog 44 = some (1, 8, some Value.nilFunc) := by kernel_rfl
theorem agg_44 : aggT Try.prog 44 = some false := by kernel_rfl
theorem tinfo_45 : tinfo Try.prog 45 = some (1, 24, some (Value.slice none 0 0)) := by kernel_rfl
theorem agg_45 : aggT Try.prog 45 = some false := by kernel_rfl
theorem tinfo_46 : tinfo Try.prog 46 = some (2, 16, some (Value.agg (List.toArray [Value.int IntKind.i64 (0), Value.int IntKind.i64 (0)]))) := by kernel_rfl
theorem agg_46 : aggT Try.prog 46 = some true := by kernel_rfl
theorem tinfo_47 : tinfo Try.prog 47 = some (2, 16, some (Value.agg (List.toArray [Value.int IntKind.i64 (0), Value.int IntKind.i64 (0)]))) := by kernel_rfl
theorem agg_47 : aggT Try.prog 47 = some true := by kernel_rfl
theorem tinfo_48 : tinfo Try.prog 48 = some (1, 24, some (Value.slice none 0 0)) := by kernel_rfl
theorem agg_48 : aggT Try.prog 48 = some false := by kernel_rfl
theorem tinfo_49 : tinfo Try.prog 49 = some (2, 48, some (Value.agg (List.toArray [Value.slice none 0 0, Value.slice none 0 0]))) := by kernel_rfl
theorem agg_49 : aggT Try.prog 49 = some true := by kernel_rfl
theorem tinfo_50 : tinfo Try.prog 50 = some (2, 48, some (Value.agg (List.toArray [Value.slice none 0 0, Value.slice none 0 0]))) := by kernel_rfl
theorem agg_50 : aggT Try.prog 50 = some true := by kernel_rfl
theorem tinfo_51 : tinfo Try.prog 51 = some (1, 8, some Value.nilFunc) := by kernel_rfl
theorem agg_51 : aggT Try.prog 51 = some false := by kernel_rfl
theorem tinfo_52 : tinfo Try.prog 52 = some (1, 24, some (Value.slice none 0 0)) := by kernel_rfl
theorem agg_52 : aggT Try.prog 52 = some false := by kernel_rfl
theorem tinfo_53 : tinfo Try.prog 53 = some (1, 0, some (Value.tuple (List.toArray [Value.agg (List.toArray [Value.slice none 0 0]), Value.int IntKind.i64 (0)]))) := by kernel_rfl
theorem agg_53 : aggT Try.prog 53 = some false := by kernel_rfl
theorem tinfo_54 : tinfo Try.prog 54 = some (1, 8, some Value.nilFunc) := by kernel_rfl
theorem agg_54 : aggT Try.prog 54 = some false := by kernel_rfl
theorem tinfo_55 : tinfo Try.prog 55 = some (1, 8, some Value.nilFunc) := by kernel_rfl
theorem agg_55 : aggT Try.prog 55 = some false := by kernel_rfl
theorem tinfo_56 : tinfo Try.prog 56 = some (1, 24, some (Value.slice none 0 0)) := by kernel_rfl
theorem agg_56 : aggT Try.prog 56 = some false := by kernel_rfl
theorem tinfo_57 : tinfo Try.prog 57 = some (1, 8, some Value.nilFunc) := by kernel_rfl
theorem agg_57 : aggT Try.prog 57 = some false := by kernel_rfl
theorem tinfo_58 : tinfo Try.prog 58 = some (1, 24, some (Value.slice none 0 0)) := by kernel_rfl
theorem agg_58 : aggT Try.prog 58 = some false := by kernel_rfl
theorem tinfo_59 : tinfo Try.prog 59 = some (1, 8, some Value.nilFunc) := by kernel_rfl
theorem agg_59 : aggT Try.prog 59 = some false := by kernel_rfl
theorem tinfo_60 : tinfo Try.prog 60 = some (1, 24, some (Value.slice none 0 0)) := by kernel_rfl
theorem agg_60 : aggT Try.prog 60 = some false := by kernel_rfl
theorem tinfo_61 : tinfo Try.prog 61 = some (1, 8, some Value.nilFunc) := by kernel_rfl
theorem agg_61 : aggT Try.prog 61 = some false := by kernel_rfl
theorem tinfo_62 : tinfo Try.prog 62 = some (2, 32, some (Value.agg (List.toArray [Value.slice none 0 0, Value.int IntKind.i64 (0)]))) := by kernel_rfl
theorem agg_62 : aggT Try.prog 62 = some true := by kernel_rfl
theorem tinfo_63 : tinfo Try.prog 63 = some (2, 32, some (Value.agg (List.toArray [Value.slice none 0 0, Value.int IntKind.i64 (0)]))) := by kernel_rfl
theorem agg_63 : aggT Try.prog 63 = some true := by kernel_rfl
theorem tinfo_64 : tinfo Try.prog 64 = some (1, 8, some Value.nilFunc) := by kernel_rfl
theorem agg_64 : aggT Try.prog 64 = some false := by kernel_rfl
theorem tinfo_65 : tinfo Try.prog 65 = some (1, 24, some (Value.slice none 0 0)) := by kernel_rfl
theorem agg_65 : aggT Try.prog 65 = some false := by kernel_rfl
theorem tinfo_66 : tinfo Try.prog 66 = some (3, 72, some (Value.agg (List.toArray [Value.slice none 0 0, Value.slice none 0 0, Value.slice none 0 0]))) := by kernel_rfl
theorem agg_66 : aggT Try.prog 66 = some true := by kernel_rfl
theorem tinfo_67 : tinfo Try.prog 67 = some (3, 72, some (Value.agg (List.toArray [Value.slice none 0 0, Value.slice none 0 0, Value.slice none 0 0]))) := by kernel_rfl
theorem agg_67 : aggT Try.prog 67 = some true := by kernel_rfl
theorem tinfo_68 : tinfo Try.prog 68 = some (1, 8, some Value.nilFunc) := by kernel_rfl
theorem agg_68 : aggT Try.prog 68 = some false := by kernel_rfl
theorem tinfo_69 : tinfo Try.prog 69 = some (1, 8, some (Value.map none)) := by kernel_rfl
theorem agg_69 : aggT Try.prog 69 = some false := by kernel_rfl
theorem tinfo_70 : tinfo Try.prog 70 = some (1, 24, some (Value.slice none 0 0)) := by kernel_rfl
theorem agg_70 : aggT Try.prog 70 = some false := by kernel_rfl
theorem tinfo_71 : tinfo Try.prog 71 = some (1, 8, some Value.nilFunc) := by kernel_rfl
theorem agg_71 : aggT Try.prog 71 = some false := by kernel_rfl
theorem tinfo_72 : tinfo Try.prog 72 = some (1, 8, some Value.nilFunc) := by kernel_rfl
theorem agg_72 : aggT Try.prog 72 = some false := by kernel_rfl
theorem tinfo_73 : tinfo Try.prog 73 = some (1, 8, some Value.nilFunc) := by kernel_rfl
theorem agg_73 : aggT Try.prog 73 = some false := by kernel_rfl
theorem tinfo_74 : tinfo Try.prog 74 = some (1, 24, some (Value.slice none 0 0)) := by kernel_rfl
theorem agg_74 : aggT Try.prog 74 = some false := by kernel_rfl
theorem tinfo_75 : tinfo Try.prog 75 = some (1, 8, some Value.nilFunc) := by kernel_rfl
theorem agg_75 : aggT Try.prog 75 = some false := by kernel_rfl
theorem tinfo_76 : tinfo Try.prog 76 = some (1, 8, some Value.nilFunc) := by kernel_rfl
theorem agg_76 : aggT Try.prog 76 = some false := by kernel_rfl
theorem tinfo_77 : tinfo Try.prog 77 = some (1, 8, some Value.nilFunc) := by kernel_rfl
theorem agg_77 : aggT Try.prog 77 = some false := by kernel_rfl
theorem tinfo_78 : tinfo Try.prog 78 = some (1, 8, some Value.nilFunc) := by kernel_rfl
theorem agg_78 : aggT Try.prog 78 = some false := by kernel_rfl
theorem tinfo_79 : tinfo Try.prog 79 = some (2, 32, some (Value.agg (List.toArray [Value.int IntKind.i64 (0), Value.slice none 0 0]))) := by kernel_rfl
theorem agg_79 : aggT Try.prog 79 = some true := by kernel_rfl
theorem tinfo_80 : tinfo Try.prog 80 = some (2, 32, some (Value.agg (List.toArray [Value.int IntKind.i64 (0), Value.slice none 0 0]))) := by kernel_rfl
theorem agg_80 : aggT Try.prog 80 = some true := by kernel_rfl
theorem tinfo_81 : tinfo Try.prog 81 = some (1, 8, some Value.nilFunc) := by kernel_rfl
theorem agg_81 : aggT Try.prog 81 = some false := by kernel_rfl
theorem tinfo_82 : tinfo Try.prog 82 = some (1, 8, some Value.nilFunc) := by kernel_rfl
theorem agg_82 : aggT Try.prog 82 = some false := by kernel_rfl
theorem tinfo_83 : tinfo Try.prog 83 = some (1, 8, some Value.nilFunc) := by kernel_rfl
theorem agg_83 : aggT Try.prog 83 = some false := by kernel_rfl
theorem tinfo_84 : tinfo Try.prog 84 = some (1, 8, some Value.nilFunc) := by kernel_rfl
theorem agg_84 : aggT Try.prog 84 = some false := by kernel_rfl
theorem tinfo_85 : tinfo Try.prog 85 = some (1, 8, some Value.nilFunc) := by kernel_rfl
theorem agg_85 : aggT Try.prog 85 = some false := by kernel_rfl
theorem tinfo_86 : tinfo Try.prog 86 = some (1, 8, some Value.nilFunc) := by kernel_rfl
theorem agg_86 : aggT Try.prog 86 = some false := by kernel_rfl
theorem tinfo_87 : tinfo Try.prog 87 = some (1, 8, some Value.nilFunc) := by kernel_rfl
theorem agg_87 : aggT Try.prog 87 = some false := by kernel_rfl
theorem tinfo_88 : tinfo Try.prog 88 = some (3, 72, some (Value.agg (List.toArray [Value.slice none 0 0, Value.slice none 0 0, Value.slice none 0 0]))) := by kernel_rfl
theorem agg_88 : aggT Try.prog 88 = some true := by kernel_rfl
theorem tinfo_89 : tinfo Try.prog 89 = some (3, 72, some (Value.agg (List.toArray [Value.slice none 0 0, Value.slice none 0 0, Value.slice none 0 0]))) := by kernel_rfl
theorem agg_89 : aggT Try.prog 89 = some true := by kernel_rfl
theorem tinfo_90 : tinfo Try.prog 90 = some (1, 24, some (Value.slice none 0 0)) := by kernel_rfl
theorem agg_90 : aggT Try.prog 90 = some false := by kernel_rfl
theorem tinfo_91 : tinfo Try.prog 91 = some (1, 8, some Value.nilFunc) := by kernel_rfl
theorem agg_91 : aggT Try.prog 91 = some false := by kernel_rfl
theorem tinfo_92 : tinfo Try.prog 92 = some (1, 8, some Value.nilFunc) := by kernel_rfl
theorem agg_92 : aggT Try.prog 92 = some false := by kernel_rfl
theorem tinfo_93 : tinfo Try.prog 93 = some (1, 8, some Value.nilFunc) := by kernel_rfl
theorem agg_93 : aggT Try.prog 93 = some false := by kernel_rfl
theorem tinfo_94 : tinfo Try.prog 94 = some (1, 8, some Value.nilFunc) := by kernel_rfl
theorem agg_94 : aggT Try.prog 94 = some false := by kernel_rfl
theorem tinfo_95 : tinfo Try.prog 95 = some (1, 8, some Value.nilFunc) := by kernel_rfl
theorem agg_95 : aggT Try.prog 95 = some false := by kernel_rfl
theorem tinfo_96 : tinfo Try.prog 96 = some (1, 8, some (Value.int IntKind.u64 (0))) := by kernel_rfl
theorem agg_96 : aggT Try.prog 96 = some false := by kernel_rfl
theorem tinfo_97 : tinfo Try.prog 97 = some (1, 0, some (Value.tuple (List.toArray [Value.int IntKind.u64 (0), Value.int IntKind.u64 (0)]))) := by kernel_rfl
theorem agg_97 : aggT Try.prog 97 = some false := by kernel_rfl
theorem tinfo_98 : tinfo Try.prog 98 = some (1, 8, some Value.nilFunc) := by kernel_rfl
theorem agg_98 : aggT Try.prog 98 = some false := by kernel_rfl
theorem tinfo_99 : tinfo Try.prog 99 = some (1, 8, some Value.nilFunc) := by kernel_rfl
theorem agg_99 : aggT Try.prog 99 = some false := by kernel_rfl
theorem tinfo_100 : tinfo Try.prog 100 = some (1, 8, some Value.nilFunc) := by kernel_rfl
theorem agg_100 : aggT Try.prog 100 = some false := by kernel_rfl
theorem tinfo_101 : tinfo Try.prog 101 = some (1, 8, some Value.nilFunc) := by kernel_rfl
theorem agg_101 : aggT Try.prog 101 = some false := by kernel_rfl
theorem tinfo_102 : tinfo Try.prog 102 = some (1, 8, some Value.nilFunc) := by kernel_rfl
theorem agg_102 : aggT Try.prog 102 = some false := by kernel_rfl
theorem tinfo_103 : tinfo Try.prog 103 = some (1, 8, some Value.nilFunc) := by kernel_rfl
theorem agg_103 : aggT Try.prog 103 = some false := by kernel_rfl
theorem tinfo_104 : tinfo Try.prog 104 = some (1, 4, some (Value.int IntKind.u32 (0))) := by kernel_rfl
theorem agg_104 : aggT Try.prog 104 = some false := by kernel_rfl
theorem tinfo_105 : tinfo Try.prog 105 = some (1, 0, some (Value.tuple (List.toArray [Value.int IntKind.u32 (0), Value.int IntKind.u32 (0)]))) := by kernel_rfl
theorem agg_105 : aggT Try.prog 105 = some false := by kernel_rfl
theorem tinfo_106 : tinfo Try.prog 106 = some (1, 8, some Value.nilFunc) := by kernel_rfl
theorem agg_106 : aggT Try.prog 106 = some false := by kernel_rfl
theorem tinfo_107 : tinfo Try.prog 107 = some (1, 8, some (Value.int IntKind.u64 (0))) := by kernel_rfl
theorem agg_107 : aggT Try.prog 107 = some false := by kernel_rfl
theorem tinfo_108 : tinfo Try.prog 108 = some (1, 0, some (Value.tuple (List.toArray [Value.int IntKind.u64 (0), Value.int IntKind.u64 (0)]))) := by kernel_rfl
theorem agg_108 : aggT Try.prog 108 = some false := by kernel_rfl
theorem tinfo_109 : tinfo Try.prog 109 = some (1, 8, some Value.nilFunc) := by kernel_rfl
theorem agg_109 : aggT Try.prog 109 = some false := by kernel_rfl
theorem tinfo_110 : tinfo Try.prog 110 = some (1, 8, some Value.nilFunc) := by kernel_rfl
theorem agg_110 : aggT Try.prog 110 = some false := by kernel_rfl
theorem tinfo_111 : tinfo Try.prog 111 = some (1, 8, some Value.nilFunc) := by kernel_rfl
theorem agg_111 : aggT Try.prog 111 = some false := by kernel_rfl
theorem tinfo_112 : tinfo Try.prog 112 = some (1, 8, some Value.nilFunc) := by kernel_rfl
theorem agg_112 : aggT Try.prog 112 = some false := by kernel_rfl
theorem tinfo_113 : tinfo Try.prog 113 = some (1, 8, some Value.nilFunc) := by kernel_rfl
theorem agg_113 : aggT Try.prog 113 = some false := by kernel_rfl
theorem tinfo_114 : tinfo Try.prog 114 = some (1, 8, some (Value.int IntKind.i64 (0))) := by kernel_rfl
theorem agg_114 : aggT Try.prog 114 = some false := by kernel_rfl
theorem tinfo_115 : tinfo Try.prog 115 = some (1, 0, some (Value.tuple (List.toArray [Value.int IntKind.i64 (0), Value.int IntKind.i64 (0)]))) := by kernel_rfl
theorem agg_115 : aggT Try.prog 115 = some false := by kernel_rfl
theorem tinfo_116 : tinfo Try.prog 116 = some (1, 8, some Value.nilFunc) := by kernel_rfl
theorem agg_116 : aggT Try.prog 116 = some false := by kernel_rfl
theorem tinfo_117 : tinfo Try.prog 117 = some (1, 8, some Value.nilFunc) := by kernel_rfl
theorem agg_117 : aggT Try.prog 117 = some false := by kernel_rfl
theorem tinfo_118 : tinfo Try.prog 118 = some (1, 8, some Value.nilFunc) := by kernel_rfl
theorem agg_118 : aggT Try.prog 118 = some false := by kernel_rfl
theorem tinfo_119 : tinfo Try.prog 119 = some (1, 8, some Value.nilFunc) := by kernel_rfl
theorem agg_119 : aggT Try.prog 119 = some false := by kernel_rfl
theorem tinfo_120 : tinfo Try.prog 120 = some (1, 0, some (Value.tuple (List.toArray [Value.int IntKind.i64 (0), Value.bool false]))) := by kernel_rfl
theorem agg_120 : aggT Try.prog 120 = some false := by kernel_rfl
theorem tinfo_121 : tinfo Try.prog 121 = some (1, 8, some Value.nilFunc) := by kernel_rfl
theorem agg_121 : aggT Try.prog 121 = some false := by kernel_rfl
theorem tinfo_122 : tinfo Try.prog 122 = some (1, 8, some Value.nilFunc) := by kernel_rfl
theorem agg_122 : aggT Try.prog 122 = some false := by kernel_rfl
theorem tinfo_123 : tinfo Try.prog 123 = some (1, 8, some Value.nilFunc) := by kernel_rfl
theorem agg_123 : aggT Try.prog 123 = some false := by kernel_rfl
theorem tinfo_124 : tinfo Try.prog 124 = some (1, 8, some Value.nilFunc) := by kernel_rfl
theorem agg_124 : aggT Try.prog 124 = some false := by kernel_rfl
theorem tinfo_125 : tinfo Try.prog 125 = some (1, 8, some (Value.int IntKind.u64 (0))) := by kernel_rfl
theorem agg_125 : aggT Try.prog 125 = some false := by kernel_rfl
theorem tinfo_126 : tinfo Try.prog 126 = some (1, 8, some Value.nilFunc) := by kernel_rfl
theorem agg_126 : aggT Try.prog 126 = some false := by kernel_rfl
theorem tinfo_127 : tinfo Try.prog 127 = some (1, 8, some Value.nilFunc) := by kernel_rfl
theorem agg_127 : aggT Try.prog 127 = some false := by kernel_rfl
theorem tinfo_128 : tinfo Try.prog 128 = some (1, 8, some Value.nilFunc) := by kernel_rfl
theorem agg_128 : aggT Try.prog 128 = some false := by kernel_rfl
theorem tinfo_129 : tinfo Try.prog 129 = some (1, 8, some (Value.pointer none)) := by kernel_rfl
theorem agg_129 : aggT Try.prog 129 = some false := by kernel_rfl
theorem tinfo_130 : tinfo Try.prog 130 = some (1, 8, some Value.nilFunc) := by kernel_rfl
theorem agg_130 : aggT Try.prog 130 = some false := by kernel_rfl
theorem tinfo_131 : tinfo Try.prog 131 = some (1, 8, some Value.nilFunc) := by kernel_rfl
theorem agg_131 : aggT Try.prog 131 = some false := by kernel_rfl
theorem tinfo_132 : tinfo Try.prog 132 = some (1, 8, some Value.nilFunc) := by kernel_rfl
theorem agg_132 : aggT Try.prog 132 = some false := by kernel_rfl
theorem tinfo_133 : tinfo Try.prog 133 = some (1, 8, some Value.nilFunc) := by kernel_rfl
theorem agg_133 : aggT Try.prog 133 = some false := by kernel_rfl
theorem tinfo_134 : tinfo Try.prog 134 = some (1, 8, some Value.nilFunc) := by kernel_rfl
theorem agg_134 : aggT Try.prog 134 = some false := by kernel_rfl
theorem tinfo_135 : tinfo Try.prog 135 = some (1, 8, some (Value.pointer none)) := by kernel_rfl
theorem agg_135 : aggT Try.prog 135 = some false := by kernel_rfl
theorem tinfo_136 : tinfo Try.prog 136 = some (1, 0, some (Value.tuple (List.toArray [Value.int IntKind.i64 (0), Value.int IntKind.i64 (0)]))) := by kernel_rfl
theorem agg_136 : aggT Try.prog 136 = some false := by kernel_rfl
theorem tinfo_137 : tinfo Try.prog 137 = some (1, 8, some Value.nilFunc) := by kernel_rfl
theorem agg_137 : aggT Try.prog 137 = some false := by kernel_rfl
theorem tinfo_138 : tinfo Try.prog 138 = some (4, 40, some (Value.agg (List.toArray [Value.pointer none, Value.pointer none, Value.pointer none, Value.string (ByteArray.mk (List.toArray []))]))) := by kernel_rfl
theorem agg_138 : aggT Try.prog 138 = some true := by kernel_rfl
theorem tinfo_139 : tinfo Try.prog 139 = some (4, 40, some (Value.agg (List.toArray [Value.pointer none, Value.pointer none, Value.pointer none, Value.string (ByteArray.mk (List.toArray []))]))) := by kernel_rfl
theorem agg_139 : aggT Try.prog 139 = some true := by kernel_rfl
theorem tinfo_140 : tinfo Try.prog 140 = some (0, 0, some (Value.agg (List.toArray []))) := by kernel_rfl
theorem agg_140 : aggT Try.prog 140 = some true := by kernel_rfl
theorem tinfo_141 : tinfo Try.prog 141 = some (0, 0, some (Value.agg (List.toArray []))) := by kernel_rfl
theorem agg_141 : aggT Try.prog 141 = some true := by kernel_rfl
theorem tinfo_142 : tinfo Try.prog 142 = some (0, 0, some (Value.agg (List.toArray []))) := by kernel_rfl
theorem agg_142 : aggT Try.prog 142 = some true := by kernel_rfl
theorem tinfo_143 : tinfo Try.prog 143 = some (1, 8, some Value.nilFunc) := by kernel_rfl
theorem agg_143 : aggT Try.prog 143 = some false := by kernel_rfl
theorem tinfo_144 : tinfo Try.prog 144 = some (1, 1, some (Value.int IntKind.u8 (0))) := by kernel_rfl
theorem agg_144 : aggT Try.prog 144 = some false := by kernel_rfl
theorem tinfo_145 : tinfo Try.prog 145 = some (1, 1, some (Value.int IntKind.u8 (0))) := by kernel_rfl
theorem agg_145 : aggT Try.prog 145 = some false := by kernel_rfl
theorem tinfo_146 : tinfo Try.prog 146 = some (1, 8, some Value.nilFunc) := by kernel_rfl
theorem agg_146 : aggT Try.prog 146 = some false := by kernel_rfl
theorem tinfo_147 : tinfo Try.prog 147 = some (1, 8, some (Value.pointer none)) := by kernel_rfl
theorem agg_147 : aggT Try.prog 147 = some false := by kernel_rfl
theorem tinfo_148 : tinfo Try.prog 148 = some (1, 4, some (Value.int IntKind.i32 (0))) := by kernel_rfl
theorem agg_148 : aggT Try.prog 148 = some false := by kernel_rfl
theorem tinfo_149 : tinfo Try.prog 149 = some (1, 4, some (Value.int IntKind.i32 (0))) := by kernel_rfl
theorem agg_149 : aggT Try.prog 149 = some false := by kernel_rfl
theorem tinfo_150 : tinfo Try.prog 150 = some (11, 48, some (Value.agg (List.toArray [Value.int IntKind.u64 (0), Value.int IntKind.u64 (0), Value.int IntKind.u32 (0), Value.int IntKind.u8 (0), Value.int IntKind.u8 (0), Value.int IntKind.u8 (0), Value.int IntKind.u8 (0), Value.nilFunc, Value.pointer none, Value.int IntKind.i32 (0), Value.int IntKind.i32 (0)]))) := by kernel_rfl
theorem agg_150 : aggT Try.prog 150 = some true := by kernel_rfl
theorem tinfo_151 : tinfo Try.prog 151 = some (11, 48, some (Value.agg (List.toArray [Value.int IntKind.u64 (0), Value.int IntKind.u64 (0), Value.int IntKind.u32 (0), Value.int IntKind.u8 (0), Value.int IntKind.u8 (0), Value.int IntKind.u8 (0), Value.int IntKind.u8 (0), Value.nilFunc, Value.pointer none, Value.int IntKind.i32 (0), Value.int IntKind.i32 (0)]))) := by kernel_rfl
theorem agg_151 : aggT Try.prog 151 = some true := by kernel_rfl
theorem tinfo_152 : tinfo Try.prog 152 = some (1, 8, some (Value.pointer none)) := by kernel_rfl
theorem agg_152 : aggT Try.prog 152 = some false := by kernel_rfl
theorem places_7 : placesOf Try.prog 7 = some [(0, 1), (1, 1), (2, 1), (3, 1)] := by kernel_rfl
theorem field_7_0 : fieldOf Try.prog 7 0 = some (0, 2) := by kernel_rfl
theorem field_7_1 : fieldOf Try.prog 7 1 = some (1, 3) := by kernel_rfl
theorem field_7_2 : fieldOf Try.prog 7 2 = some (2, 4) := by kernel_rfl
theorem field_7_3 : fieldOf Try.prog 7 3 = some (3, 6) := by kernel_rfl
theorem places_8 : placesOf Try.prog 8 = some [(0, 1), (1, 1), (2, 1), (3, 1)] := by kernel_rfl
theorem field_8_0 : fieldOf Try.prog 8 0 = some (0, 2) := by kernel_rfl
theorem field_8_1 : fieldOf Try.prog 8 1 = some (1, 3) := by kernel_rfl
theorem field_8_2 : fieldOf Try.prog 8 2 = some (2, 4) := by kernel_rfl
theorem field_8_3 : fieldOf Try.prog 8 3 = some (3, 6) := by kernel_rfl
theorem places_13 : placesOf Try.prog 13 = some [(0, 1), (1, 1)] := by kernel_rfl
theorem field_13_0 : fieldOf Try.prog 13 0 = some (0, 9) := by kernel_rfl
theorem field_13_1 : fieldOf Try.prog 13 1 = some (1, 12) := by kernel_rfl
theorem places_14 : placesOf Try.prog 14 = some [(0, 1), (1, 1)] := by kernel_rfl
theorem field_14_0 : fieldOf Try.prog 14 0 = some (0, 9) := by kernel_rfl
theorem field_14_1 : fieldOf Try.prog 14 1 = some (1, 12) := by kernel_rfl
theorem places_18 : placesOf Try.prog 18 = some [(0, 1)] := by kernel_rfl
theorem field_18_0 : fieldOf Try.prog 18 0 = some (0, 17) := by kernel_rfl
theorem places_19 : placesOf Try.prog 19 = some [(0, 1)] := by kernel_rfl
theorem field_19_0 : fieldOf Try.prog 19 0 = some (0, 17) := by kernel_rfl
theorem places_27 : placesOf Try.prog 27 = some [(0, 1)] := by kernel_rfl
theorem field_27_0 : fieldOf Try.prog 27 0 = some (0, 26) := by kernel_rfl
theorem places_28 : placesOf Try.prog 28 = some [(0, 1)] := by kernel_rfl
theorem field_28_0 : fieldOf Try.prog 28 0 = some (0, 26) := by kernel_rfl
theorem places_46 : placesOf Try.prog 46 = some [(0, 1), (1, 1)] := by kernel_rfl
theorem field_46_0 : fieldOf Try.prog 46 0 = some (0, 3) := by kernel_rfl
theorem field_46_1 : fieldOf Try.prog 46 1 = some (1, 3) := by kernel_rfl
theorem places_47 : placesOf Try.prog 47 = some [(0, 1), (1, 1)] := by kernel_rfl
theorem field_47_0 : fieldOf Try.prog 47 0 = some (0, 3) := by kernel_rfl
theorem field_47_1 : fieldOf Try.prog 47 1 = some (1, 3) := by kernel_rfl
theorem places_49 : placesOf Try.prog 49 = some [(0, 1), (1, 1)] := by kernel_rfl
theorem field_49_0 : fieldOf Try.prog 49 0 = some (0, 48) := by kernel_rfl
theorem field_49_1 : fieldOf Try.prog 49 1 = some (1, 26) := by kernel_rfl
theorem places_50 : placesOf Try.prog 50 = some [(0, 1), (1, 1)] := by kernel_rfl
theorem field_50_0 : fieldOf Try.prog 50 0 = some (0, 48) := by kernel_rfl
theorem field_50_1 : fieldOf Try.prog 50 1 = some (1, 26) := by kernel_rfl
theorem places_62 : placesOf Try.prog 62 = some [(0, 1), (1, 1)] := by kernel_rfl
theorem field_62_0 : fieldOf Try.prog 62 0 = some (0, 22) := by kernel_rfl
theorem field_62_1 : fieldOf Try.prog 62 1 = some (1, 3) := by kernel_rfl
theorem places_63 : placesOf Try.prog 63 = some [(0, 1), (1, 1)] := by kernel_rfl
theorem field_63_0 : fieldOf Try.prog 63 0 = some (0, 22) := by kernel_rfl
theorem field_63_1 : fieldOf Try.prog 63 1 = some (1, 3) := by kernel_rfl
theorem places_66 : placesOf Try.prog 66 = some [(0, 1), (1, 1), (2, 1)] := by kernel_rfl
theorem field_66_0 : fieldOf Try.prog 66 0 = some (0, 33) := by kernel_rfl
theorem field_66_1 : fieldOf Try.prog 66 1 = some (1, 65) := by kernel_rfl
theorem field_66_2 : fieldOf Try.prog 66 2 = some (2, 65) := by kernel_rfl
theorem places_67 : placesOf Try.prog 67 = some [(0, 1), (1, 1), (2, 1)] := by kernel_rfl
theorem field_67_0 : fieldOf Try.prog 67 0 = some (0, 33) := by kernel_rfl
theorem field_67_1 : fieldOf Try.prog 67 1 = some (1, 65) := by kernel_rfl
theorem field_67_2 : fieldOf Try.prog 67 2 = some (2, 65) := by kernel_rfl
theorem places_79 : placesOf Try.prog 79 = some [(0, 1), (1, 1)] := by kernel_rfl
theorem field_79_0 : fieldOf Try.prog 79 0 = some (0, 3) := by kernel_rfl
theorem field_79_1 : fieldOf Try.prog 79 1 = some (1, 48) := by kernel_rfl
theorem places_80 : placesOf Try.prog 80 = some [(0, 1), (1, 1)] := by kernel_rfl
theorem field_80_0 : fieldOf Try.prog 80 0 = some (0, 3) := by kernel_rfl
theorem field_80_1 : fieldOf Try.prog 80 1 = some (1, 48) := by kernel_rfl
theorem places_88 : placesOf Try.prog 88 = some [(0, 1), (1, 1), (2, 1)] := by kernel_rfl
theorem field_88_0 : fieldOf Try.prog 88 0 = some (0, 33) := by kernel_rfl
theorem field_88_1 : fieldOf Try.prog 88 1 = some (1, 33) := by kernel_rfl
theorem field_88_2 : fieldOf Try.prog 88 2 = some (2, 33) := by kernel_rfl
theorem places_89 : placesOf Try.prog 89 = some [(0, 1), (1, 1), (2, 1)] := by kernel_rfl
theorem field_89_0 : fieldOf Try.prog 89 0 = some (0, 33) := by kernel_rfl
theorem field_89_1 : fieldOf Try.prog 89 1 = some (1, 33) := by kernel_rfl
theorem field_89_2 : fieldOf Try.prog 89 2 = some (2, 33) := by kernel_rfl
theorem places_138 : placesOf Try.prog 138 = some [(0, 1), (1, 1), (2, 1), (3, 1)] := by kernel_rfl
theorem field_138_0 : fieldOf Try.prog 138 0 = some (0, 17) := by kernel_rfl
theorem field_138_1 : fieldOf Try.prog 138 1 = some (1, 17) := by kernel_rfl
theorem field_138_2 : fieldOf Try.prog 138 2 = some (2, 17) := by kernel_rfl
theorem field_138_3 : fieldOf Try.prog 138 3 = some (3, 9) := by kernel_rfl
theorem places_139 : placesOf Try.prog 139 = some [(0, 1), (1, 1), (2, 1), (3, 1)] := by kernel_rfl
theorem field_139_0 : fieldOf Try.prog 139 0 = some (0, 17) := by kernel_rfl
theorem field_139_1 : fieldOf Try.prog 139 1 = some (1, 17) := by kernel_rfl
theorem field_139_2 : fieldOf Try.prog 139 2 = some (2, 17) := by kernel_rfl
theorem field_139_3 : fieldOf Try.prog 139 3 = some (3, 9) := by kernel_rfl
theorem places_140 : placesOf Try.prog 140 = some [] := by kernel_rfl
theorem places_141 : placesOf Try.prog 141 = some [(0, 0)] := by kernel_rfl
theorem field_141_0 : fieldOf Try.prog 141 0 = some (0, 140) := by kernel_rfl
theorem places_142 : placesOf Try.prog 142 = some [(0, 0)] := by kernel_rfl
theorem field_142_0 : fieldOf Try.prog 142 0 = some (0, 140) := by kernel_rfl
theorem places_150 : placesOf Try.prog 150 = some [(0, 1), (1, 1), (2, 1), (3, 1), (4, 1), (5, 1), (6, 1), (7, 1), (8, 1), (9, 1), (10, 1)] := by kernel_rfl
theorem field_150_0 : fieldOf Try.prog 150 0 = some (0, 12) := by kernel_rfl
theorem field_150_1 : fieldOf Try.prog 150 1 = some (1, 12) := by kernel_rfl
theorem field_150_2 : fieldOf Try.prog 150 2 = some (2, 104) := by kernel_rfl
theorem field_150_3 : fieldOf Try.prog 150 3 = some (3, 144) := by kernel_rfl
theorem field_150_4 : fieldOf Try.prog 150 4 = some (4, 5) := by kernel_rfl
theorem field_150_5 : fieldOf Try.prog 150 5 = some (5, 5) := by kernel_rfl
theorem field_150_6 : fieldOf Try.prog 150 6 = some (6, 145) := by kernel_rfl
theorem field_150_7 : fieldOf Try.prog 150 7 = some (7, 146) := by kernel_rfl
theorem places_151 : placesOf Try.prog 151 = some [(0, 1), (1, 1), (2, 1), (3, 1), (4, 1), (5, 1), (6, 1), (7, 1), (8, 1), (9, 1), (10, 1)] := by kernel_rfl
theorem field_151_0 : fieldOf Try.prog 151 0 = some (0, 12) := by kernel_rfl
theorem field_151_1 : fieldOf Try.prog 151 1 = some (1, 12) := by kernel_rfl
theorem field_151_2 : fieldOf Try.prog 151 2 = some (2, 104) := by kernel_rfl
theorem field_151_3 : fieldOf Try.prog 151 3 = some (3, 144) := by kernel_rfl
theorem field_151_4 : fieldOf Try.prog 151 4 = some (4, 5) := by kernel_rfl
theorem field_151_5 : fieldOf Try.prog 151 5 = some (5, 5) := by kernel_rfl
theorem field_151_6 : fieldOf Try.prog 151 6 = some (6, 145) := by kernel_rfl
theorem field_151_7 : fieldOf Try.prog 151 7 = some (7, 146) := by kernel_rfl
theorem mixed : Try.prog.follows .mixedOrders = true := by kernel_rfl
attribute [go_sem] tinfo_0 agg_0 Try.underlying0 tinfo_1 agg_1 Try.underlying1 tinfo_2 agg_2 Try.underlying2 tinfo_3 agg_3 Try.underlying3 tinfo_4 agg_4 Try.underlying4 tinfo_5 agg_5 Try.underlying5 tinfo_6 agg_6 Try.underlying6 tinfo_7 agg_7 Try.underlying7 tinfo_8 agg_8 Try.underlying8 tinfo_9 agg_9 Try.underlying9 tinfo_10 agg_10 Try.underlying10 tinfo_11 agg_11 Try.underlying11 tinfo_12 agg_12 Try.underlying12 tinfo_13 agg_13 Try.underlying13 tinfo_14 agg_14 Try.underlying14 tinfo_15 agg_15 Try.underlying15 tinfo_16 agg_16 Try.underlying16 tinfo_17 agg_17 Try.underlying17 tinfo_18 agg_18 Try.underlying18 tinfo_19 agg_19 Try.underlying19 tinfo_20 agg_20 Try.underlying20 tinfo_21 agg_21 Try.underlying21 tinfo_22 agg_22 Try.underlying22 tinfo_23 agg_23 Try.underlying23 tinfo_24 agg_24 Try.underlying24 tinfo_25 agg_25 Try.underlying25 tinfo_26 agg_26 Try.underlying26 tinfo_27 agg_27 Try.underlying27 tinfo_28 agg_28 Try.underlying28 tinfo_29 agg_29 Try.underlying29 tinfo_30 agg_30 Try.underlying30 tinfo_31 agg_31 Try.underlying31 tinfo_32 agg_32 Try.underlying32 tinfo_33 agg_33 Try.underlying33 tinfo_34 agg_34 Try.underlying34 tinfo_35 agg_35 Try.underlying35 tinfo_36 agg_36 Try.underlying36 tinfo_37 agg_37 Try.underlying37 tinfo_38 agg_38 Try.underlying38 tinfo_39 agg_39 Try.underlying39 tinfo_40 agg_40 Try.underlying40 tinfo_41 agg_41 Try.underlying41 tinfo_42 agg_42 Try.underlying42 tinfo_43 agg_43 Try.underlying43 tinfo_44 agg_44 Try.underlying44 tinfo_45 agg_45 Try.underlying45 tinfo_46 agg_46 Try.underlying46 tinfo_47 agg_47 Try.underlying47 tinfo_48 agg_48 Try.underlying48 tinfo_49 agg_49 Try.underlying49 tinfo_50 agg_50 Try.underlying50 tinfo_51 agg_51 Try.underlying51 tinfo_52 agg_52 Try.underlying52 tinfo_53 agg_53 Try.underlying53 tinfo_54 agg_54 Try.underlying54 tinfo_55 agg_55 Try.underlying55 tinfo_56 agg_56 Try.underlying56 tinfo_57 agg_57 Try.underlying57 tinfo_58 agg_58 Try.underlying58 tinfo_59 agg_59 Try.underlying59 tinfo_60 agg_60 Try.underlying60 tinfo_61 agg_61 Try.underlying61 tinfo_62 agg_62 Try.underlying62 tinfo_63 agg_63 Try.underlying63 tinfo_64 agg_64 Try.underlying64 tinfo_65 agg_65 Try.underlying65 tinfo_66 agg_66 Try.underlying66 tinfo_67 agg_67 Try.underlying67 tinfo_68 agg_68 Try.underlying68 tinfo_69 agg_69 Try.underlying69 tinfo_70 agg_70 Try.underlying70 tinfo_71 agg_71 Try.underlying71 tinfo_72 agg_72 Try.underlying72 tinfo_73 agg_73 Try.underlying73 tinfo_74 agg_74 Try.underlying74 tinfo_75 agg_75 Try.underlying75 tinfo_76 agg_76 Try.underlying76 tinfo_77 agg_77 Try.underlying77 tinfo_78 agg_78 Try.underlying78 tinfo_79 agg_79 Try.underlying79 tinfo_80 agg_80 Try.underlying80 tinfo_81 agg_81 Try.underlying81 tinfo_82 agg_82 Try.underlying82 tinfo_83 agg_83 Try.underlying83 tinfo_84 agg_84 Try.underlying84 tinfo_85 agg_85 Try.underlying85 tinfo_86 agg_86 Try.underlying86 tinfo_87 agg_87 Try.underlying87 tinfo_88 agg_88 Try.underlying88 tinfo_89 agg_89 Try.underlying89 tinfo_90 agg_90 Try.underlying90 tinfo_91 agg_91 Try.underlying91 tinfo_92 agg_92 Try.underlying92 tinfo_93 agg_93 Try.underlying93 tinfo_94 agg_94 Try.underlying94 tinfo_95 agg_95 Try.underlying95 tinfo_96 agg_96 Try.underlying96 tinfo_97 agg_97 Try.underlying97 tinfo_98 agg_98 Try.underlying98 tinfo_99 agg_99 Try.underlying99 tinfo_100 agg_100 Try.underlying100 tinfo_101 agg_101 Try.underlying101 tinfo_102 agg_102 Try.underlying102 tinfo_103 agg_103 Try.underlying103 tinfo_104 agg_104 Try.underlying104 tinfo_105 agg_105 Try.underlying105 tinfo_106 agg_106 Try.underlying106 tinfo_107 agg_107 Try.underlying107 tinfo_108 agg_108 Try.underlying108 tinfo_109 agg_109 Try.underlying109 tinfo_110 agg_110 Try.underlying110 tinfo_111 agg_111 Try.underlying111 tinfo_112 agg_112 Try.underlying112 tinfo_113 agg_113 Try.underlying113 tinfo_114 agg_114 Try.underlying114 tinfo_115 agg_115 Try.underlying115 tinfo_116 agg_116 Try.underlying116 tinfo_117 agg_117 Try.underlying117 tinfo_118 agg_118 Try.underlying118 tinfo_119 agg_119 Try.underlying119 tinfo_120 agg_120 Try.underlying120 tinfo_121 agg_121 Try.underlying121 tinfo_122 agg_122 Try.underlying122 tinfo_123 agg_123 Try.underlying123 tinfo_124 agg_124 Try.underlying124 tinfo_125 agg_125 Try.underlying125 tinfo_126 agg_126 Try.underlying126 tinfo_127 agg_127 Try.underlying127 tinfo_128 agg_128 Try.underlying128 tinfo_129 agg_129 Try.underlying129 tinfo_130 agg_130 Try.underlying130 tinfo_131 agg_131 Try.underlying131 tinfo_132 agg_132 Try.underlying132 tinfo_133 agg_133 Try.underlying133 tinfo_134 agg_134 Try.underlying134 tinfo_135 agg_135 Try.underlying135 tinfo_136 agg_136 Try.underlying136 tinfo_137 agg_137 Try.underlying137 tinfo_138 agg_138 Try.underlying138 tinfo_139 agg_139 Try.underlying139 tinfo_140 agg_140 Try.underlying140 tinfo_141 agg_141 Try.underlying141 tinfo_142 agg_142 Try.underlying142 tinfo_143 agg_143 Try.underlying143 tinfo_144 agg_144 Try.underlying144 tinfo_145 agg_145 Try.underlying145 tinfo_146 agg_146 Try.underlying146 tinfo_147 agg_147 Try.underlying147 tinfo_148 agg_148 Try.underlying148 tinfo_149 agg_149 Try.underlying149 tinfo_150 agg_150 Try.underlying150 tinfo_151 agg_151 Try.underlying151 tinfo_152 agg_152 Try.underlying152 places_7 field_7_0 field_7_1 field_7_2 field_7_3 places_8 field_8_0 field_8_1 field_8_2 field_8_3 places_13 field_13_0 field_13_1 places_14 field_14_0 field_14_1 places_18 field_18_0 places_19 field_19_0 places_27 field_27_0 places_28 field_28_0 places_46 field_46_0 field_46_1 places_47 field_47_0 field_47_1 places_49 field_49_0 field_49_1 places_50 field_50_0 field_50_1 places_62 field_62_0 field_62_1 places_63 field_63_0 field_63_1 places_66 field_66_0 field_66_1 field_66_2 places_67 field_67_0 field_67_1 field_67_2 places_79 field_79_0 field_79_1 places_80 field_80_0 field_80_1 places_88 field_88_0 field_88_1 field_88_2 places_89 field_89_0 field_89_1 field_89_2 places_138 field_138_0 field_138_1 field_138_2 field_138_3 places_139 field_139_0 field_139_1 field_139_2 field_139_3 places_140 places_141 field_141_0 places_142 field_142_0 places_150 field_150_0 field_150_1 field_150_2 field_150_3 field_150_4 field_150_5 field_150_6 field_150_7 places_151 field_151_0 field_151_1 field_151_2 field_151_3 field_151_4 field_151_5 field_151_6 field_151_7
end Go.AM

/-! ## W1 -/
namespace Go.AM
open Go Go.Proofs Go.RowKit
theorem wrap_in {n : Int} (h1 : -9223372036854775808 ≤ n) (h2 : n ≤ 9223372036854775807) : IntKind.i64.wrap n = n := by rw [IntKind.wrap_i64]; omega

def vi (x : Int) : AV := .sc (.int .i64 x)
def vu (x : Int) : AV := .sc (.int .u8 x)
def vs (t : Nat) (l : List Int) : AV := .sl t 1 (l.map vi)
attribute [go_sem] vi vu vs
theorem getv {l : List Int} {i : Nat} (h : i < l.length) : (l.map vi)[i]? = some (.sc (.int .i64 l[i]!)) := by simp [vi, h]
theorem getu {l : List Int} {i : Nat} (h : i < l.length) : (l.map vu)[i]? = some (.sc (.int .u8 l[i]!)) := by simp [vu, h]

/-- the dice, as they lie in memory -/
def diceA (l : List Int) (at_ : Nat) : List AV := [.sl 0 1 (l.map vu), .sc (.int .i64 at_)]
attribute [go_sem] diceA
/-- seeds -/
def Seeds (l : List Int) : Prop := l.length ≤ 200 ∧ ∀ x ∈ l, 0 ≤ x ∧ x < 256

set_option maxRecDepth 100000 in
theorem con_new (l : List Int) (hl : l.length ≤ 9223372036854775807) : Con Try.prog 10 [.sl 0 1 (l.map vu)] [] fun r b => r = .pb 0 0 ∧ b = [diceA (l.take 200) 0] := by
  refine Con.intro Try.func10 rfl Try.ntmps10 Try.results10 (by kernel_rfl) (by simp) 1 (by simp) ?_
  by_cases h : (200 : Int) < l.length
  · have h2 : 200 ≤ l.length := by omega
    simp only [go_sem, h, h2]
    simp [List.map_take]
  · have e : l.take 200 = l := List.take_of_length_le (by omega)
    simp only [go_sem, h, e]

set_option maxRecDepth 100000 in
theorem con_pick (l : List Int) (at_ : Nat) (n : Int) (hs : Seeds l) (ha : at_ ≤ l.length) (hn : 1 ≤ n) : Con Try.prog 18 [.pb 0 0, vi n] [diceA l at_]
    fun r b => ∃ v at', r = vi v ∧ 0 ≤ v ∧ v < n ∧ at' ≤ l.length ∧ b = [diceA l at'] := by
  refine Con.intro Try.func18 rfl Try.ntmps18 Try.results18 (by kernel_rfl) (by simp) 1 (by simp) ?_
  have hl := hs.1
  simp only [go_sem]
  refine DrawK.walk 9 mixed (by kernel_rfl) ?_
  by_cases hh : l.length ≤ at_
  · simp only [go_sem, hh]
    exact ⟨0, at_, rfl, by omega, by omega, ha, rfl⟩
  · have h : at_ < l.length := by omega
    have hg := getu h
    have hw : IntKind.i64.wrap (at_ + 1) = at_ + 1 := wrap_in (by omega) (by omega)
    have hw2 : IntKind.i64.wrap ((at_ : Int) + 1 - 1) = at_ := by rw [wrap_in (by omega) (by omega)]; omega
    have hx := hs.2 l[at_]! (by simp [h])
    have hw3 : IntKind.i64.wrap l[at_]! = l[at_]! := wrap_in (by omega) (by omega)
    simp only [go_sem, hh, hw]
    refine DrawK.walk 14 mixed (by kernel_rfl) ?_
    simp only [go_sem, h, hg, hw2, hw3]
    refine ⟨by omega, _, at_ + 1, rfl, Int.tmod_nonneg _ hx.1, ?_, by omega, rfl⟩
    rw [Int.tmod_eq_emod_of_nonneg hx.1]
    exact Int.emod_lt_of_pos _ (by omega)
end Go.AM

/-! ## B0 -/
namespace Go.Proofs.Ythmjnbmooedfjaa
open Go.ChangeShapes Go.WideShapes Go.ChangeAt Go.RowKit Go.AM

theorem own : ownKnob Try.prog.godebug = none := by kernel_rfl
theorem laidOut : laidOutB Try.prog = true := by kernel_rfl
theorem read22 : Try.prog.readableRec 22 = true ∧ 22 < Try.prog.types.size := ⟨by kernel_rfl, of_decide_eq_true (by kernel_rfl)⟩
theorem reads22 (n : Nat) : ∀ t ∈ List.replicate n 22, Try.prog.readableRec t = true ∧ t < Try.prog.types.size := fun t ht => by rw [List.eq_of_mem_replicate ht]; exact read22

section
variable {H : Type} {enc : TypeId × Value → H} {P : Program} {w : World} {base : Nat} {spare : Nat → Bool} {held : Bool}
/-- a byte -/
def numU (d : DataW H) : Int := IntKind.u8.wrap (numI d)
theorem numU_range (d : DataW H) : 0 ≤ numU d ∧ numU d < 256 := by unfold numU; rw [IntKind.wrap_u8]; omega
theorem stands_u8 {e : TypeId} (he : P.underlying e = some (.int .u8)) : Stands enc P w base spare held e fun d => vu (numU d) := by
  intro n v d ps h
  obtain ⟨x, e0, e1, wx⟩ := DataW.trod_int he h
  simp only [List.cons.injEq, and_true] at e0
  simp only [Prod.mk.injEq] at e1
  obtain ⟨rfl, _⟩ := e1
  subst e0
  have e2 : numU (.lit (.int .u8 x) : DataW H) = x := by
    have : IntKind.u8.wrap x = x := by
      have h1 : 0 ≤ x ∧ x ≤ 255 := by simpa [Lit.wf, IntKind.min, IntKind.max, IntKind.signed, IntKind.bits] using wx
      rw [IntKind.wrap_u8]; omega
    exact this
  simp only [e2, vu]
  exact ⟨.sc _, rfl, rfl⟩
theorem row_len {α : Type} {t e : TypeId} {f : DataW H → α} {v : Value} {d : DataW H} {ps : List MemPlace} (ht : P.underlying t = some (.slice e)) (hc : P.cellsOf e = 1) (h1 : v.cells.toList = [v]) (h : DataW.Trod enc P w base spare held t v d ps) : (rowOf f d).length ≤ 9223372036854775807 := by
  obtain ⟨n, h⟩ := h
  rw [h1] at h
  rcases Go.Deep.open_slice1 ht hc h with ⟨_, h2⟩ | ⟨a, len, cap, m, n', V, D, Pl, _, _, hl, hm, _, h2, _⟩
  · simp only [Prod.mk.injEq] at h2
    obtain ⟨rfl, _⟩ := h2
    simp [rowOf]
  · simp only [Prod.mk.injEq] at h2
    obtain ⟨rfl, _⟩ := h2
    simp only [rowOf, List.length_map, List.length_range]
    unfold maxLen at hm; omega
theorem rowU_range (d : DataW H) : ∀ x ∈ rowOf numU d, 0 ≤ x ∧ x < 256 := fun x hx => by
  cases d <;> simp only [rowOf, List.not_mem_nil] at hx
  obtain ⟨y, _, rfl⟩ := List.mem_map.1 hx
  exact numU_range y
end
end Go.Proofs.Ythmjnbmooedfjaa

/-! ## W2 -/
namespace Go.AM
open Go Go.Proofs Go.RowKit

def va (a : Int × Int) : AV := .ag [vi a.1, vi a.2]
def vl (t : Nat) (l : List (Int × Int)) : AV := .sl t 2 (l.map va)
def vy (t : Nat) (s : List (List (Int × Int))) : AV := .ag [.sl t 1 (s.map (vl 0))]
def cfg (i : Nat) : AV := .ag [vi i, .nil]
attribute [go_sem] va vl vy cfg

set_option maxRecDepth 100000 in
theorem con_graph (l : List Int) (at_ : Nat) (hs : Seeds l) (ha : at_ ≤ l.length) : Con Try.prog 19 [.pb 0 0] [diceA l at_]
    fun r b => ∃ (s : List (List (Int × Int))) (at' : Nat), r = .ag [.sl 2 2 ((List.range s.length).map cfg), .sl 3 1 (s.map (vl 0))] ∧ 1 ≤ s.length ∧ s.length ≤ 6 ∧ (∀ x ∈ s, x.length ≤ 3 ∧ ∀ a ∈ x, 0 ≤ a.1 ∧ a.1 < 3 ∧ 0 ≤ a.2 ∧ a.2 < s.length) ∧ at' ≤ l.length ∧ b = [diceA l at'] := by
  refine Con.intro Try.func19 rfl Try.ntmps19 Try.results19 (by kernel_rfl) (by simp) 1 (by simp) ?_
  simp only [go_sem]
  refine CallU.boxes (i := 0) (is := []) (bx0 := [diceA l at_]) (con_pick l at_ 6 hs ha (by omega)) (by simp only [go_sem]) (by simp only [go_sem]) (by simp only [go_sem]) (by simp only [go_sem]) (by simp only [go_sem]) ?_
  rintro r b ⟨n, at1, rfl, hn0, hn6, ha1, rfl⟩
  obtain ⟨N, hN, hN1, hN6⟩ : ∃ N : Nat, 1 + n = N ∧ 1 ≤ N ∧ N ≤ 6 := ⟨(1 + n).toNat, by omega, by omega, by omega⟩
  have hw : IntKind.i64.wrap (1 + n) = N := by rw [wrap_in (by omega) (by omega)]; exact hN
  simp only [go_sem, hw]
  refine LoopK.intro (fun p : List (List (Int × Int)) × Nat => ⟨45, [(0, .pb 0 0), (2, .pb 1 0), (3, .pb 2 0), (4, .sc (.int .i64 N)), (5, .sc (.int .i64 p.1.length))], [diceA l p.2, [.nil, .nil], [.sl 1408 2 ((List.range p.1.length).map cfg), .sl 2752 1 (p.1.map (vl 0))]]⟩)
    (fun p => N - p.1.length) (fun p => p.1.length ≤ N ∧ (∀ x ∈ p.1, x.length ≤ 3 ∧ ∀ a ∈ x, 0 ≤ a.1 ∧ a.1 < 3 ∧ 0 ≤ a.2 ∧ a.2 < N) ∧ p.2 ≤ l.length) ([], at1) ⟨by simp, by simp, ha1⟩ ?_ ?_
  · simp only [go_sem, List.length_nil, List.range_zero]
  rintro ⟨s, at2⟩ ⟨h1, h2, h3⟩
  simp only at h1 h2 h3
  by_cases h : s.length < N
  case' pos => skip
  case neg =>
    simp only [go_sem, h]
    have e : s.length = N := by omega
    refine ⟨s, at2, rfl, by omega, by omega, fun x hx => ?_, h3, rfl⟩
    rw [e]; exact h2 x hx
  have hw2 : IntKind.i64.wrap (s.length + 1) = s.length + 1 := wrap_in (by omega) (by omega)
  simp only [go_sem, h, List.length_range]
  refine ⟨by simp [roomFor]; omega, ?_⟩
  refine CallU.boxes (i := 0) (is := []) (bx0 := [diceA l at2]) (con_pick l at2 4 hs h3 (by omega)) (by simp only [go_sem]) (by simp only [go_sem]) (by simp only [go_sem]) (by simp only [go_sem]) (by simp only [go_sem]) ?_
  rintro r b ⟨k, at3, rfl, hk0, hk4, ha3, rfl⟩
  simp only [go_sem]
  refine LoopK.intro (fun p : List (Int × Int) × Nat × Nat => ⟨45, [(0, .pb 0 0), (2, .pb 1 0), (3, .pb 2 0), (4, .sc (.int .i64 N)), (5, .sc (.int .i64 s.length)), (6, .sl 448 2 (p.1.map va)), (7, .sc (.int .i64 p.2.1))], [diceA l p.2.2, [.nil, .nil], [.sl 1408 2 ((List.range (s.length + 1)).map cfg), .sl 2752 1 (s.map (vl 0))]]⟩)
    (fun p => p.2.1) (fun p => p.1.length + p.2.1 ≤ 3 ∧ (∀ a ∈ p.1, 0 ≤ a.1 ∧ a.1 < 3 ∧ 0 ≤ a.2 ∧ a.2 < N) ∧ p.2.2 ≤ l.length) ([], k.toNat, at3) ⟨by simp; omega, by simp, ha3⟩ ?_ ?_
  · simp only [go_sem, List.range_succ, List.map_append, List.map_cons, List.map_nil]
    exact leV_int (by omega)
  rintro ⟨row, j, at4⟩ ⟨g1, g2, g3⟩
  simp only at g1 g2 g3
  by_cases hj : (0 : Int) < j
  case' pos => skip
  case neg =>
    simp only [go_sem, hj, hw2]
    refine ⟨by simp [roomFor]; omega, roundK.intro (s ++ [row], at4) ⟨by simp; omega, fun x hx => ?_, g3⟩ (by simp; omega) ?_⟩
    · rcases List.mem_append.1 hx with hx | hx
      · exact h2 x hx
      · simp at hx; subst hx; exact ⟨by omega, g2⟩
    · simp only [go_sem, List.range_succ, List.length_append, List.length_cons, List.length_nil, List.map_append]
  have hw3 : IntKind.i64.wrap (j - 1) = (j - 1 : Nat) := by rw [wrap_in (by omega) (by omega)]; omega
  simp only [go_sem, hj]
  refine CallU.boxes (i := 0) (is := []) (bx0 := [diceA l at4]) (con_pick l at4 3 hs g3 (by omega)) (by simp only [go_sem]) (by simp only [go_sem]) (by simp only [go_sem]) (by simp only [go_sem]) (by simp only [go_sem]) ?_
  rintro r b ⟨a, at5, rfl, hb0, hb3, ha5, rfl⟩
  simp only [go_sem]
  refine CallU.boxes (i := 0) (is := []) (bx0 := [diceA l at5]) (con_pick l at5 N hs ha5 (by omega)) (by simp only [go_sem]) (by simp only [go_sem]) (by simp only [go_sem]) (by simp only [go_sem]) (by simp only [go_sem]) ?_
  rintro r b ⟨c, at6, rfl, hc0, hc3, ha6, rfl⟩
  simp only [go_sem, hw3]
  refine ⟨by simp [roomFor]; omega, roundK.intro (row ++ [(a, c)], j - 1, at6) ⟨by simp; omega, fun x hx => ?_, ha6⟩ (by simp; omega) ?_⟩
  · rcases List.mem_append.1 hx with hx | hx
    · exact g2 x hx
    · simp at hx; subst hx; exact ⟨hb0, hb3, hc0, hc3⟩
  · simp only [go_sem, List.range_succ]
    exact leV_sl (by simp [va, vi])

/-- a system as the dice deal it -/
def Dealt (s : List (List (Int × Int))) : Prop := 1 ≤ s.length ∧ s.length ≤ 6 ∧ ∀ x ∈ s, x.length ≤ 3 ∧ ∀ a ∈ x, 0 ≤ a.1 ∧ a.1 < 3 ∧ 0 ≤ a.2 ∧ a.2 < s.length

set_option maxRecDepth 100000 in
theorem con_system (l : List Int) (at_ : Nat) (hs : Seeds l) (ha : at_ ≤ l.length) : Con Try.prog 11 [.pb 0 0] [diceA l at_]
    fun r b => ∃ (s : List (List (Int × Int))) (at' : Nat), r = vy 2 s ∧ Dealt s ∧ at' ≤ l.length ∧ b = [diceA l at'] := by
  refine Con.intro Try.func11 rfl Try.ntmps11 Try.results11 (by kernel_rfl) (by simp) 1 (by simp) ?_
  simp only [go_sem]
  refine CallU.boxes (i := 0) (is := []) (bx0 := [diceA l at_]) (con_graph l at_ hs ha) (by simp only [go_sem]) (by simp only [go_sem]) (by simp only [go_sem]) (by simp only [go_sem]) (by simp only [go_sem]) ?_
  rintro r b ⟨s, at', rfl, h1, h2, h3, h4, rfl⟩
  simp only [go_sem]
  exact ⟨s, at', rfl, ⟨h1, h2, h3⟩, h4, rfl⟩

set_option maxRecDepth 100000 in
theorem con_all : Con Try.prog 15 [] [] fun r _ => r = vy 2 [[(0, 0), (1, 0), (2, 0)]] := by
  refine Con.intro Try.func15 rfl Try.ntmps15 Try.results15 (by kernel_rfl) (by simp) 0 (by simp) ?_
  simp only [go_sem]
end Go.AM

/-! ## W3 -/
namespace Go.AM
open Go Go.Proofs Go.RowKit

/-- where the first is of which p holds; -1 where none is -/
def findI {α : Type} (p : α → Bool) (l : List α) : Int := match l.findIdx? p with | some i => i | none => -1

theorem findI_stop {α : Type} [Inhabited α] {p : α → Bool} {l : List α} {i : Nat} (h : i < l.length) (hb : ∀ j, j < i → p l[j]! = false) (hp : p l[i]! = true) : findI p l = i := by
  have : l.findIdx? p = some i := by
    rw [List.findIdx?_eq_some_iff_getElem]
    refine ⟨h, by simpa [h] using hp, fun j hj => ?_⟩
    have := hb j hj
    have hjl : j < l.length := by omega
    simpa [hjl] using this
  simp [findI, this]
theorem findI_none {α : Type} [Inhabited α] {p : α → Bool} {l : List α} (hb : ∀ j, j < l.length → p l[j]! = false) : findI p l = -1 := by
  have : l.findIdx? p = none := by
    rw [List.findIdx?_eq_none_iff]
    intro x hx
    obtain ⟨j, hj⟩ := List.getElem?_of_mem hx
    have hjl := (List.getElem?_eq_some_iff.1 hj).1
    have := hb j hjl
    have e : l[j]! = x := by simp [hj]
    rw [e] at this; exact this
  simp [findI, this]
theorem findI_ge {α : Type} (p : α → Bool) (l : List α) : decide (0 ≤ findI p l) = l.any p := by
  unfold findI
  cases h : l.findIdx? p with
  | none =>
    rw [List.findIdx?_eq_none_iff] at h
    have : l.any p = false := by simpa using h
    simp [this]
  | some i =>
    rw [List.findIdx?_eq_some_iff_getElem] at h
    obtain ⟨h1, h2, _⟩ := h
    have : l.any p = true := List.any_eq_true.2 ⟨l[i], List.getElem_mem _, h2⟩
    simp [this]

theorem getva {l : List (Int × Int)} {i : Nat} (h : i < l.length) : (l.map va)[i]? = some (.ag [.sc (.int .i64 l[i]!.1), .sc (.int .i64 l[i]!.2)]) := by simp [va, vi, h]
theorem getvl {s : List (List (Int × Int))} {i : Nat} (h : i < s.length) : (s.map (vl 0))[i]? = some (.sl 0 2 (s[i]!.map va)) := by simp [vl, h]

/-- a function value that tells by p, one call at a time -/
def TellsA (f : FuncId) (caps : List AV) (l : List (Int × Int)) (p : Int × Int → Bool) : Prop := ∀ x ∈ l, Con Try.prog f ([va x] ++ caps) [] fun r _ => r = .sc (.bool (p x))

set_option maxRecDepth 100000 in
theorem con_indexArc (l : List (Int × Int)) (f : FuncId) (caps : List AV) (p : Int × Int → Bool) (hc : mapTops (viewV []) caps = caps) (hf : TellsA f caps l p) (hl : l.length ≤ 9223372036854775806) : Con Try.prog 62 [vl 0 l, .fn f caps] [] fun r _ => r = vi (findI p l) := by
  refine Con.intro Try.func62 rfl Try.ntmps62 Try.results62 (by kernel_rfl) (by simp) 0 (by simp) ?_
  simp only [go_sem]
  refine LoopK.intro (fun i : Nat => ⟨19, [(0, .sl 0 2 (l.map va)), (1, .fn f caps), (7, .sc (.int .i64 l.length)), (8, .sc (.int .i64 i))], []⟩)
    (fun i => l.length - i) (fun i => i ≤ l.length ∧ ∀ j, j < i → p l[j]! = false) 0 ⟨by omega, fun j hj => by omega⟩ ?_ ?_
  · simp only [go_sem]
  · rintro i ⟨hi, hb⟩
    by_cases h : i < l.length
    · have hg := getva h
      have hw : IntKind.i64.wrap (i + 1) = i + 1 := wrap_in (by omega) (by omega)
      simp only [go_sem, h, hg]
      refine CallU.look (hf l[i]! (by simp [h])) (by simp only [go_sem]) (by simp only [go_sem, hc]) ?_
      rintro r bx rfl
      cases hp : p l[i]!
      · simp only [go_sem, hw]
        refine roundK.intro (i + 1) ⟨by omega, fun j hj => ?_⟩ (by omega) ?_
        · by_cases hji : j = i
          · subst hji; exact hp
          · exact hb j (by omega)
        · simp only [go_sem]
      · simp only [go_sem]
        rw [findI_stop h hb hp]
    · simp only [go_sem, h]
      rw [findI_none (fun j hj => hb j (by omega))]

set_option maxRecDepth 100000 in
theorem con_containsArc (l : List (Int × Int)) (f : FuncId) (caps : List AV) (p : Int × Int → Bool) (hc : mapTops (viewV []) caps = caps) (hf : TellsA f caps l p) (hl : l.length ≤ 9223372036854775806) : Con Try.prog 45 [vl 0 l, .fn f caps] [] fun r _ => r = .sc (.bool (l.any p)) := by
  refine Con.intro Try.func45 rfl Try.ntmps45 Try.results45 (by kernel_rfl) (by simp) 0 (by simp) ?_
  simp only [go_sem]
  refine CallU.look (con_indexArc l f caps p hc hf hl) (by simp only [go_sem]) (by simp only [go_sem]) ?_
  rintro r bx rfl
  simp only [go_sem, findI_ge]

/-- an arc that leads out of n states -/
def badArc (n : Nat) (a : Int × Int) : Bool := decide (a.2 < 0) || decide ((n : Int) ≤ a.2)

set_option maxRecDepth 100000 in
theorem con_check1 (a : Int × Int) (n : Nat) : Con Try.prog 46 [va a, .fp [vi n] 0] [] fun r _ => r = .sc (.bool (badArc n a)) := by
  refine Con.intro Try.func46 rfl Try.ntmps46 Try.results46 (by kernel_rfl) (by simp) 0 (by simp) ?_
  by_cases h : a.2 < 0 <;> simp only [go_sem, h, badArc]

/-- the error of a system -/
def checkS (s : List (List (Int × Int))) : Int := if decide (s.length < 1) || decide (128 < s.length) || s.any (fun l => l.any (badArc s.length)) || decide (256 < (s.map List.length).sum) then 46 else 0

theorem sumLen_succ {s : List (List (Int × Int))} {i : Nat} (h : i < s.length) : ((s.take (i + 1)).map List.length).sum = ((s.take i).map List.length).sum + s[i]!.length := by
  have e : s[i]? = some s[i]! := by simp [h]
  rw [List.take_add_one, e]; simp
theorem sumLen_le {s : List (List (Int × Int))} {B : Nat} (hl : ∀ l ∈ s, l.length ≤ B) : (s.map List.length).sum ≤ s.length * B := by
  induction s with
  | nil => simp
  | cons a t ih =>
    have h1 := hl a (by simp)
    have h2 := ih fun l h => hl l (by simp [h])
    simp only [List.map_cons, List.sum_cons, List.length_cons, Nat.add_mul, Nat.one_mul]
    omega
theorem sumLen_take {s : List (List (Int × Int))} {i B : Nat} (hi : i ≤ 128) (hl : ∀ l ∈ s, l.length ≤ B) : ((s.take i).map List.length).sum ≤ 128 * B := by
  have h := sumLen_le (s := s.take i) (B := B) fun l h => hl l (List.mem_of_mem_take h)
  have h2 : (s.take i).length ≤ 128 := by rw [List.length_take]; omega
  exact Nat.le_trans h (Nat.mul_le_mul_right _ h2)

set_option maxRecDepth 100000 in
theorem con_check (s : List (List (Int × Int))) (hl : ∀ l ∈ s, l.length ≤ 281474976710656) (hs : s.length ≤ 9223372036854775806) : Con Try.prog 23 [vy 0 s] [] fun r _ => r = vi (checkS s) := by
  refine Con.intro Try.func23 rfl Try.ntmps23 Try.results23 (by kernel_rfl) (by simp) 0 (by simp) ?_
  by_cases h1 : (s.length : Int) < 1
  · have h1' : s.length < 1 := by omega
    have e : checkS s = 46 := by simp only [checkS, h1', decide_true, Bool.true_or, if_true]
    simp only [go_sem, h1, e]
  by_cases h2 : (128 : Int) < s.length
  · have e : checkS s = 46 := by simp [checkS, show 128 < s.length by omega]
    simp only [go_sem, h1, h2, e]
  simp only [go_sem, h1, h2]
  have hs1 : 1 ≤ s.length := by omega
  have hs2 : s.length ≤ 128 := by omega
  have d1 : decide (s.length < 1) = false := decide_eq_false (by omega)
  have d2 : decide (128 < s.length) = false := decide_eq_false (by omega)
  refine LoopK.intro (fun i : Nat => ⟨33, [(1, .pb 0 0), (2, .sc (.int .i64 0)), (3, .pb 1 0), (4, .sc (.int .i64 ((s.take i).map List.length).sum)), (17, .sl 0 1 (s.map (vl 0))), (18, .sc (.int .i64 s.length)), (19, .sc (.int .i64 i))], [[.sl 0 1 (s.map (vl 0))], [.sc (.int .i64 s.length)]]⟩)
    (fun i => s.length - i) (fun i => i ≤ s.length ∧ ∀ j, j < i → s[j]!.any (badArc s.length) = false) 0 ⟨by omega, fun j hj => by omega⟩ ?_ ?_
  · simp only [go_sem, List.take_zero, List.map_nil, List.sum_nil]
  rintro i ⟨hi, hb⟩
  by_cases h : i < s.length
  · have hg := getvl h
    have hw : IntKind.i64.wrap (i + 1) = i + 1 := wrap_in (by omega) (by omega)
    have hm : s[i]! ∈ s := by simp [h]
    have hq := sumLen_take (i := i + 1) (by omega) hl
    have hq2 := sumLen_succ h
    have hw2 : IntKind.i64.wrap (((s.take i).map List.length).sum + s[i]!.length) = ((s.take (i + 1)).map List.length).sum := by
      rw [wrap_in (by omega) (by omega)]; omega
    simp only [go_sem, h, hg, hw2]
    refine CallU.look (con_containsArc s[i]! 46 [.fp [vi s.length] 0] (badArc s.length) (by simp only [go_sem]) (fun x _ => con_check1 x s.length) (by have := hl _ hm; omega)) (by simp only [go_sem]) (by simp only [go_sem]) ?_
    rintro r bx rfl
    cases hp : s[i]!.any (badArc s.length)
    · simp only [go_sem, hw]
      refine roundK.intro (i + 1) ⟨by omega, fun j hj => ?_⟩ (by omega) ?_
      · by_cases hji : j = i
        · subst hji; exact hp
        · exact hb j (by omega)
      · simp only [go_sem]
    · have e : checkS s = 46 := by
        have : s.any (fun l => l.any (badArc s.length)) = true := List.any_eq_true.2 ⟨_, hm, hp⟩
        simp only [checkS, this, Bool.or_true, Bool.true_or, if_true]
      simp only [go_sem, e]
  · have hi2 : i = s.length := by omega
    subst hi2
    have hany : s.any (fun l => l.any (badArc s.length)) = false := by
      rw [List.any_eq_false]
      intro x hx
      obtain ⟨j, hj⟩ := List.getElem?_of_mem hx
      have hjl := (List.getElem?_eq_some_iff.1 hj).1
      have := hb j hjl
      have e : s[j]! = x := by simp [hj]
      rw [e] at this; simp [this]
    by_cases h3 : 256 < (s.map List.length).sum
    · have e : checkS s = 46 := by simp [checkS, h3]
      simp only [go_sem, h, List.take_length, h3, e]
    · have e : checkS s = 0 := by
        simp only [checkS, d1, d2, hany, h3, decide_false, Bool.or_self, if_false, Bool.false_eq_true]
      simp only [go_sem, h, List.take_length, h3, e]
end Go.AM

/-! ## W4 -/
namespace Go.AM
open Go Go.Proofs Go.RowKit

theorem mem_bang {α : Type} [Inhabited α] {l : List α} {i : Nat} (h : i < l.length) : l[i]! ∈ l := by rw [getElem!_pos l i h]; exact List.getElem_mem _
theorem bang_of {α : Type} [Inhabited α] {l : List α} {i : Nat} {x : α} (h : l[i]? = some x) : l[i]! = x := by rw [getElem!_def, h]

abbrev Sys := List (List (Int × Int))
abbrev Rel := List (List Bool)
def vb (b : Bool) : AV := .sc (.bool b)
def vbl (t : Nat) (row : List Bool) : AV := .sl t 1 (row.map vb)
def vr (t : Nat) (r : Rel) : AV := .sl t 1 (r.map (vbl 0))
attribute [go_sem] vb vbl vr
theorem getvb {l : List Bool} {i : Nat} (h : i < l.length) : (l.map vb)[i]? = some (.sc (.bool l[i]!)) := by simp [vb, h]
theorem getvr {r : Rel} {i : Nat} (h : i < r.length) : (r.map (vbl 0))[i]? = some (.sl 0 1 (r[i]!.map vb)) := by simp [vbl, h]

/-- the first error of two systems -/
def bothS (a b : Sys) : Int := if checkS a = 0 then checkS b else checkS a

set_option maxRecDepth 100000 in
theorem con_both (a b : Sys) (ha : ∀ l ∈ a, l.length ≤ 281474976710656) (ha2 : a.length ≤ 9223372036854775806) (hb : ∀ l ∈ b, l.length ≤ 281474976710656) (hb2 : b.length ≤ 9223372036854775806) : Con Try.prog 31 [vy 0 a, vy 0 b] [] fun r _ => r = vi (bothS a b) := by
  refine Con.intro Try.func31 rfl Try.ntmps31 Try.results31 (by kernel_rfl) (by simp) 0 (by simp) ?_
  simp only [go_sem]
  refine CallU.free (con_check a ha ha2) (by simp only [go_sem]) (by simp only [go_sem]) ?_
  rintro r bx rfl
  by_cases h : checkS a = 0
  · simp only [go_sem, h]
    refine CallU.free (con_check b hb hb2) (by simp only [go_sem]) (by simp only [go_sem]) ?_
    rintro r bx rfl
    simp only [go_sem, bothS, h, if_true]
  · have h' : (checkS a != 0) = true := by simpa using h
    simp only [go_sem, h']
    simp only [bothS, h, if_false]

/-- an arc's end lies within the relation -/
def within (r : Rel) (p q : Int × Int) : Bool := r[p.2.toNat]![q.2.toNat]!

set_option maxRecDepth 100000 in
theorem con_match1 (r : Rel) (p q : Int × Int) (hp : 0 ≤ p.2) (hp2 : p.2.toNat < r.length) (hq : 0 ≤ q.2) (hq2 : q.2.toNat < r[p.2.toNat]!.length) : Con Try.prog 58 [va q, .fp [vi p.1, vi p.2] 0, .fp [vr 0 r] 0] [] fun x _ => x = .sc (.bool (q.1 == p.1 && within r p q)) := by
  refine Con.intro Try.func58 rfl Try.ntmps58 Try.results58 (by kernel_rfl) (by simp) 0 (by simp) ?_
  simp only [go_sem]
  refine DrawK.walk 16 mixed (by kernel_rfl) ?_
  obtain ⟨i, hi⟩ := Int.eq_ofNat_of_zero_le hp
  obtain ⟨k, hk⟩ := Int.eq_ofNat_of_zero_le hq
  have e1 : p.2.toNat = i := by omega
  have e2 : q.2.toNat = k := by omega
  rw [e1] at hp2 hq2
  rw [e2] at hq2
  have g1 := getvr hp2
  have g2 := getvb hq2
  have e3 : within r p q = r[i]![k]! := by unfold within; rw [e1, e2]
  by_cases h : q.1 = p.1
  · have h' : (q.1 == p.1) = true := by simpa using h
    simp only [go_sem, h, hi, hk, g1, g2, hp2, hq2, e3]
  · have h' : (q.1 == p.1) = false := by simpa using h
    simp only [go_sem, h']

/-- the variables of the first i rounds -/
def Ax (l : List (Int × Int)) (i : Nat) : List (List AV) := (l.take i).map fun p => [vi p.1, vi p.2]
theorem Ax_len {l : List (Int × Int)} {i : Nat} (h : i ≤ l.length) : (Ax l i).length = i := by simp [Ax]; omega
theorem Ax_free {d : Nat} : ∀ (L : List (Int × Int)), freeB d (L.map fun p => [vi p.1, vi p.2]) = true
  | [] => rfl
  | p :: L => by
    have := Ax_free (d := d) L
    simp only [List.map_cons, freeB, this, Bool.and_true]
    simp [allLeafs, AV.allLeaf, freeLeaf, vi]
@[go_sem] theorem freeB_Ax {d i : Nat} {l : List (Int × Int)} : freeB d (Ax l i) = true := Ax_free _
theorem Ax_map {f : AV → AV} (hf : ∀ x, f (vi x) = vi x) : ∀ (L : List (Int × Int)), mapB f (L.map fun p => [vi p.1, vi p.2]) = L.map fun p => [vi p.1, vi p.2]
  | [] => rfl
  | p :: L => by
    have h1 := hf p.1
    have h2 := hf p.2
    simp only [vi] at h1 h2
    simp only [List.map_cons, mapB, mapTops, AV.mapTop, vi, h1, h2]
    have := Ax_map hf L
    simp only [vi] at this
    rw [this]
theorem leC_refl : ∀ l : List AV, leC l l
  | [] => trivial
  | _ :: l => ⟨leV_refl _, leC_refl l⟩
theorem leB_refl : ∀ l : List (List AV), leB l l
  | [] => trivial
  | x :: l => ⟨leC_refl x, leB_refl l⟩
@[go_sem] theorem leB_Ax {i : Nat} {l : List (Int × Int)} : leB (Ax l i) (Ax l i) = True := eq_true (leB_refl _)
theorem Ax_snoc {l : List (Int × Int)} {i : Nat} (h : i < l.length) {x : List AV} : (Ax l i ++ [x]).set i [.sc (.int .i64 l[i]!.1), .sc (.int .i64 l[i]!.2)] = Ax l (i + 1) := by
  have hl := Ax_len (l := l) (i := i) (by omega)
  have e : (Ax l i ++ [x]).set i [.sc (.int .i64 l[i]!.1), .sc (.int .i64 l[i]!.2)] = Ax l i ++ [[.sc (.int .i64 l[i]!.1), .sc (.int .i64 l[i]!.2)]] := by
    rw [List.set_append_right _ _ (by omega), hl, Nat.sub_self]; rfl
  rw [e]
  unfold Ax
  rw [List.take_add_one, List.map_append, List.getElem?_eq_getElem h, ← getElem!_pos l i h]; rfl
theorem Ax_new {l : List (Int × Int)} {i : Nat} (h : i ≤ l.length) {x : List AV} : (Ax l i ++ [x])[i]? = some x := by
  have hl := Ax_len h
  rw [List.getElem?_append_right (by omega), hl, Nat.sub_self]; rfl
theorem Ax_last {l : List (Int × Int)} {i : Nat} (h : i < l.length) : (Ax l (i + 1))[i]? = some [.sc (.int .i64 l[i]!.1), .sc (.int .i64 l[i]!.2)] := by
  unfold Ax
  rw [List.getElem?_map, List.getElem?_take, if_pos (by omega), List.getElem?_eq_getElem h, ← getElem!_pos l i h]; rfl

/-- each arc of x has one of y with the same label, and leads within the relation -/
def matchesF (r : Rel) (a b : Sys) (x y : Nat) : Bool := a[x]!.all fun p => b[y]!.any fun q => q.1 == p.1 && within r p q

/-- a relation of n and m states -/
def Sized (r : Rel) (n m : Nat) : Prop := r.length = n ∧ ∀ row ∈ r, row.length = m
/-- every arc leads to a state -/
def Closed1 (s : Sys) : Prop := s.length ≤ 128 ∧ ∀ l ∈ s, l.length ≤ 281474976710656 ∧ ∀ q ∈ l, 0 ≤ q.2 ∧ q.2 < s.length

set_option maxRecDepth 100000 in
theorem con_matches (r : Rel) (a b : Sys) (x y : Nat) (hr : Sized r a.length b.length) (ha : Closed1 a) (hb : Closed1 b) (hx : x < a.length) (hy : y < b.length) :
    Con Try.prog 40 [vr 0 r, vy 0 a, vy 0 b, vi x, vi y] [] fun u _ => u = .sc (.bool (matchesF r a b x y)) := by
  refine Con.intro Try.func40 rfl Try.ntmps40 Try.results40 (by kernel_rfl) (by simp) 0 (by simp) ?_
  have g1 := getvl hx
  have g2 := getvl hy
  have hlx : a[x]! ∈ a := by simp [hx]
  have hly : b[y]! ∈ b := by simp [hy]
  have hax := ha.2 _ hlx
  have hby := hb.2 _ hly
  simp only [go_sem, hx, g1]
  refine LoopK.intro (fun i : Nat => ⟨32, [(4, .sc (.int .i64 y)), (5, .pb 0 0), (6, .pb 1 0), (7, .pb 2 0), (17, .sl 0 2 (a[x]!.map va)), (18, .sc (.int .i64 a[x]!.length)), (19, .sc (.int .i64 i))], [.sl 0 1 (r.map (vbl 0))] :: [.sl 0 1 (a.map (vl 0))] :: [.sl 0 1 (b.map (vl 0))] :: Ax a[x]! i⟩)
    (fun i => a[x]!.length - i) (fun i => i ≤ a[x]!.length ∧ ∀ j, j < i → (b[y]!.any fun q => q.1 == a[x]![j]!.1 && within r a[x]![j]! q) = true) 0 ⟨by omega, fun j hj => by omega⟩ ?_ ?_
  · simp only [go_sem, Ax, List.take_zero, List.map_nil]
  rintro i ⟨hi, hb2⟩
  by_cases h : i < a[x]!.length
  · have hg := getva h
    have hw : IntKind.i64.wrap (i + 1) = i + 1 := wrap_in (by omega) (by omega)
    have hBl := Ax_len (l := a[x]!) (i := i) (by omega)
    have hBn := fun z => Ax_new (l := a[x]!) (i := i) (x := z) (by omega)
    have hBs := fun z => Ax_snoc (l := a[x]!) (i := i) (x := z) h
    have hBx := Ax_last h
    simp only [go_sem, h, hg, hBl, hBn, hBs, hy, g2]
    have hmem : a[x]![i]! ∈ a[x]! := mem_bang h
    have hp := (ha.2 _ hlx).2 _ hmem
    have hpn : a[x]![i]!.2.toNat < r.length := by rw [hr.1]; omega
    have hrow := hr.2 r[a[x]![i]!.2.toNat]! (by rw [getElem!_pos r _ hpn]; exact List.getElem_mem _)
    refine CallU.look (con_containsArc b[y]! 58 [.fp [vi a[x]![i]!.1, vi a[x]![i]!.2] 0, .fp [vr 0 r] 0] (fun q => q.1 == a[x]![i]!.1 && within r a[x]![i]! q) (by simp only [go_sem]) (fun q hq => ?_) (by omega)) (by simp only [go_sem]) (by simp only [go_sem, hBx]) ?_
    · have hq2 := (hb.2 _ hly).2 q hq
      exact con_match1 r a[x]![i]! q hp.1 hpn hq2.1 (by rw [hrow]; omega)
    rintro u bx rfl
    cases hu : b[y]!.any fun q => q.1 == a[x]![i]!.1 && within r a[x]![i]! q
    · have e : matchesF r a b x y = false := by
        unfold matchesF
        rw [List.all_eq_false]
        exact ⟨_, hmem, by rw [hu]; exact Bool.false_ne_true⟩
      simp only [go_sem, e]
    · simp only [go_sem, hw]
      refine roundK.intro (i + 1) ⟨by omega, fun j hj => ?_⟩ (by omega) ?_
      · by_cases hji : j = i
        · subst hji; exact hu
        · exact hb2 j (by omega)
      · simp only [go_sem]
  · simp only [go_sem, h]
    have e : matchesF r a b x y = true := by
      unfold matchesF
      rw [List.all_eq_true]
      intro p hp
      obtain ⟨j, hj⟩ := List.getElem?_of_mem hp
      have hjl := (List.getElem?_eq_some_iff.1 hj).1
      have := hb2 j (by omega)
      have e : a[x]![j]! = p := bang_of hj
      rw [e] at this; exact this
    rw [e]
end Go.AM

/-! ## W5 -/
namespace Go.AM
open Go Go.Proofs Go.RowKit

/-- the rows of table t -/
def rowsB (t : Nat) (M : List (List Bool)) : List AV := M.mapIdx fun i r => .sl (subT t i) 1 (r.map vb)
def vtb (t : Nat) (M : List (List Bool)) : AV := .so t (rowsB t M)
attribute [go_sem] vtb

@[go_sem] theorem rowsB_len {t : Nat} {M : List (List Bool)} : (rowsB t M).length = M.length := by simp [rowsB]
theorem rowsB_at {t i : Nat} {M : List (List Bool)} : (rowsB t M)[i]? = (M[i]?).map fun r => .sl (subT t i) 1 (r.map vb) := by simp [rowsB, List.getElem?_mapIdx]
theorem gettb {t i : Nat} {M : List (List Bool)} (h : i < M.length) : (rowsB t M)[i]? = some (.sl (subT t i) 1 (M[i]!.map vb)) := by rw [rowsB_at]; simp [h]
@[go_sem] theorem rowsB_nil {t : Nat} : rowsB t [] = [] := rfl

theorem rowsB_ext {t : Nat} {M : List (List Bool)} {l : List AV} (hl : l.length = M.length) (h : ∀ i, i < M.length → l[i]? = some (.sl (subT t i) 1 (M[i]!.map vb))) : l = rowsB t M := by
  apply List.ext_getElem?
  intro i
  by_cases hi : i < M.length
  · rw [h i hi, gettb hi]
  · rw [List.getElem?_eq_none (by omega), List.getElem?_eq_none (by rw [rowsB_len]; omega)]

theorem rowsB_set {t i : Nat} {M : List (List Bool)} {r : List Bool} : (rowsB t M).set i (.sl (subT t i) 1 (r.map vb)) = rowsB t (M.set i r) := by
  refine rowsB_ext (by simp [rowsB_len]) fun j hj => ?_
  rw [List.length_set] at hj
  rw [List.getElem?_set]
  by_cases h : i = j
  · subst h
    rw [if_pos rfl, if_pos (by rw [rowsB_len]; exact hj)]
    simp [hj]
  · rw [if_neg h, gettb hj]
    rw [getElem!_pos M j hj, getElem!_pos (M.set i r) j (by simpa using hj), List.getElem_set_ne h]

@[go_sem] theorem rowsB_snoc {t : Nat} {M : List (List Bool)} {r : List Bool} : rowsB t M ++ [.sl (subT t M.length) 1 (r.map vb)] = rowsB t (M ++ [r]) := by
  refine rowsB_ext (by simp [rowsB_len]) fun j hj => ?_
  rw [List.length_append, List.length_singleton] at hj
  by_cases h : j < M.length
  · rw [List.getElem?_append_left (by rw [rowsB_len]; exact h), gettb h]
    rw [getElem!_pos M j h, getElem!_pos (M ++ [r]) j (by simp; omega), List.getElem_append_left h]
  · have hjl : j = M.length := by omega
    subst hjl
    rw [List.getElem?_append_right (by rw [rowsB_len]; omega), rowsB_len]
    simp

theorem rowsB_map {t t' : Nat} {M : List (List Bool)} {f : AV → AV} (h : ∀ i r, f (.sl (subT t i) 1 (List.map vb r)) = .sl (subT t' i) 1 (List.map vb r)) : (rowsB t M).map f = rowsB t' M := by
  refine rowsB_ext (by simp [rowsB_len]) fun j hj => ?_
  rw [List.getElem?_map, gettb hj, Option.map_some, h]
theorem rowsB_frz {t : Nat} {M : List (List Bool)} {f : AV → AV} (h : ∀ i r, f (.sl (subT t i) 1 (List.map vb r)) = .sl 0 1 (List.map vb r)) : (rowsB t M).map f = M.map (vbl 0) := by
  apply List.ext_getElem?
  intro j
  rw [List.getElem?_map, rowsB_at, List.getElem?_map]
  cases M[j]? with
  | none => rfl
  | some r => simp [h, vbl]

@[go_sem] theorem rowsB_killlit {t t0 : Nat} {M : List (List Bool)} (h : t0 < 1048576) : (rowsB t M).map (killRow t0) = rowsB t M := rowsB_map fun i r => by simp only [killRow, sub_lit h, if_false]
@[go_sem] theorem rowsB_storelit {t t0 es i o : Nat} {ys : List AV} {M : List (List Bool)} (h : t0 < 1048576) : (rowsB t M).map (storeRow t0 es i o ys) = rowsB t M := rowsB_map fun i r => by simp only [storeRow, sub_lit h, if_false]
@[go_sem] theorem rowsB_view {t : Nat} {M : List (List Bool)} : (rowsB t M).map viewRow = M.map (vbl 0) := rowsB_frz fun i r => by simp only [viewRow, sub_two, if_true]
@[go_sem] theorem rowsB_shift {t k : Nat} {M : List (List Bool)} (h : t + k < 1048576) : (rowsB t M).map (shiftRow k) = rowsB (t + k) M := rowsB_map fun i r => by simp only [shiftRow, shiftTag, sub_lt2, if_false, sub_add h]
@[go_sem] theorem rowsB_ren {t : Nat} {ts : List Nat} {M : List (List Bool)} (h : t < 1048576) (h2 : 2 + ts.idxOf t < 1048576) : (rowsB t M).map (renRow ts) = rowsB (2 + ts.idxOf t) M := rowsB_map fun i r => by simp only [renRow, sub_two, if_true, renT_sub h h2]
theorem rowsB_freeze {t : Nat} {p : Nat → Bool} {M : List (List Bool)} (h : p (root t) = true) : (rowsB t M).map (freezeRow p) = M.map (vbl 0) := rowsB_frz fun i r => by simp only [freezeRow, sub_two, root_sub, h, and_self, if_true]
@[go_sem] theorem rowsB_freezeT {t : Nat} {M : List (List Bool)} : (rowsB t M).map (freezeRow fun _ => true) = M.map (vbl 0) := rowsB_freeze rfl
@[go_sem] theorem rowsB_retaglit {t a s j : Nat} {M : List (List Bool)} (h : a < 1048576) (hs : (t = s) = False) : (rowsB t M).map (retagRow a (subT s j)) = rowsB t M := rowsB_map fun i r => by simp only [retagRow, sub_lit h, if_false, sub_sub, hs, false_and]
/-- a row that is not there yet -/
@[go_sem] theorem rowsB_retagnew {t a : Nat} {M : List (List Bool)} (h : a < 1048576) : (rowsB t M).map (retagRow a (subT t M.length)) = rowsB t M := by
  refine rowsB_ext (by simp [rowsB_len]) fun j hj => ?_
  rw [List.getElem?_map, gettb hj, Option.map_some]
  have : ¬ j = M.length := by omega
  simp only [retagRow, sub_lit h, if_false, sub_sub, true_and, this]
theorem rowsB_retagsub {t s j : Nat} {M : List (List Bool)} (hs : (t = s) = False) : (rowsB t M).map (retagRow (subT s j) (subT t M.length)) = rowsB t M := by
  refine rowsB_ext (by simp [rowsB_len]) fun j' hj => ?_
  rw [List.getElem?_map, gettb hj, Option.map_some]
  have : ¬ j' = M.length := by omega
  simp only [retagRow, sub_sub, hs, false_and, if_false, true_and, this]
attribute [go_sem] rowsB_retagsub
@[go_sem] theorem rowsB_killnew {t : Nat} {M : List (List Bool)} : (rowsB t M).map (killRow (subT t M.length)) = rowsB t M := by
  refine rowsB_ext (by simp [rowsB_len]) fun j hj => ?_
  rw [List.getElem?_map, gettb hj, Option.map_some]
  have : ¬ j = M.length := by omega
  simp only [killRow, sub_sub, true_and, this, if_false]
@[go_sem] theorem rowsB_retagout {t s j : Nat} {M : List (List Bool)} (hs : (t = s) = False) : (rowsB t M).map (retagRow (subT t M.length) (subT s j)) = rowsB t M := by
  refine rowsB_ext (by simp [rowsB_len]) fun j' hj => ?_
  rw [List.getElem?_map, gettb hj, Option.map_some]
  have : ¬ j' = M.length := by omega
  simp only [retagRow, sub_sub, true_and, this, if_false, hs, false_and]
/-- a row forgotten, then laid anew -/
theorem rowsB_killset {t i : Nat} {M : List (List Bool)} {r : List Bool} : ((rowsB t M).map (killRow (subT t i))).set i (.sl (subT t i) 1 (r.map vb)) = rowsB t (M.set i r) := by
  refine rowsB_ext (by simp [rowsB_len]) fun j hj => ?_
  rw [List.length_set] at hj
  rw [List.getElem?_set]
  by_cases h : i = j
  · subst h
    rw [if_pos rfl, if_pos (by simp [rowsB_len]; exact hj)]
    simp [hj]
  · rw [if_neg h, List.getElem?_map, gettb hj, Option.map_some]
    simp only [killRow, sub_sub, true_and, if_neg (Ne.symm h)]
    rw [getElem!_pos M j hj, getElem!_pos (M.set i r) j (by simpa using hj), List.getElem_set_ne h]
theorem modify_vb' {l : List Bool} {i : Nat} {x : Bool} : (l.map vb).modify i (updElem 0 [.sc (.bool x)]) = (l.set i x).map vb := by
  apply List.ext_getElem?
  intro j
  simp only [List.getElem?_modify, List.getElem?_map, List.getElem?_set]
  by_cases h : i = j
  · subst h
    by_cases hi : i < l.length
    · simp [hi, updElem, vb]
    · simp [hi]
  · simp [h]
/-- a number stored into a row -/
@[go_sem] theorem rowsB_store {t i k : Nat} {x : Bool} {M : List (List Bool)} : (rowsB t M).map (storeRow (subT t i) 1 k 0 [.sc (.bool x)]) = rowsB t (M.set i (M[i]!.set k x)) := by
  refine rowsB_ext (by simp [rowsB_len]) fun j hj => ?_
  rw [List.length_set] at hj
  rw [List.getElem?_map, gettb hj, Option.map_some]
  by_cases h : j = i
  · subst h
    simp only [storeRow, if_true, updAt]
    rw [modify_vb']
    simp [hj]
  · simp only [storeRow, sub_sub, true_and, if_neg h]
    rw [getElem!_pos M j hj, getElem!_pos (M.set i _) j (by simpa using hj), List.getElem_set_ne (Ne.symm h)]
/-- empty rows -/
theorem rowsLe_nilsb {t n : Nat} : rowsLe (root t) (List.replicate n .nil) (rowsB t (List.replicate n [])) := by
  refine ⟨by simp [rowsB_len], fun j x y hx hy => ?_⟩
  have hj : j < n := by have := (List.getElem?_eq_some_iff.1 hx).1; simpa using this
  rw [gettb (by simpa using hj)] at hy
  simp only [Option.some.injEq] at hy
  simp [hj] at hx
  subst hx; subst hy
  have e : (List.replicate n ([] : List Bool))[j]! = [] := by rw [getElem!_pos _ _ (by simpa using hj)]; simp
  rw [e]
  exact ⟨rfl, .inr (.inr ⟨rfl, subT t j, 1, by have := sub_big t j; omega, root_sub t j, rfl⟩)⟩
end Go.AM

/-! ## La -/
namespace Go.AM

/-- a pair of the relation -/
def rel (r : Rel) (x y : Nat) : Bool := r[x]![y]!
def cutR (r : Rel) (x y : Nat) : Rel := r.set x (r[x]!.set y false)

/-- pairs that do not match are taken out, one after the other -/
inductive Red (a b : Sys) : Rel → Rel → Prop where
  | refl (r : Rel) : Red a b r r
  | cut (r r' : Rel) (x y : Nat) : Red a b r r' → x < a.length → y < b.length → matchesF r' a b x y = false → Red a b r (cutR r' x y)

theorem Red.trans {a b : Sys} {r s t : Rel} (h1 : Red a b r s) (h2 : Red a b s t) : Red a b r t := by
  induction h2 with
  | refl => exact h1
  | cut t x y _ hx hy hm ih => exact .cut _ _ x y ih hx hy hm

theorem Sized.cut {r : Rel} {n m x y : Nat} (h : Sized r n m) (hx : x < n) : Sized (cutR r x y) n m := by
  refine ⟨by simp [cutR, h.1], fun row hr => ?_⟩
  rcases List.mem_or_eq_of_mem_set hr with hr | rfl
  · exact h.2 row hr
  · rw [List.length_set]; exact h.2 _ (mem_bang (by rw [h.1]; exact hx))
theorem Red.sized {a b : Sys} {r s : Rel} {n m : Nat} (h : Red a b r s) (hn : a.length = n) (hs : Sized r n m) : Sized s n m := by
  induction h with
  | refl => exact hs
  | cut t x y _ hx _ _ ih => exact ih.cut (by omega)

/-- how many pairs there are -/
def tally (r : Rel) : Nat := (r.map fun row => row.count true).sum

theorem sum_set (f : List Bool → Nat) : ∀ (r : Rel) (x : Nat) (row : List Bool), x < r.length → ((r.set x row).map f).sum + f r[x]! = (r.map f).sum + f row
  | [], x, row, h => by simp at h
  | a :: r, 0, row, _ => by simp; omega
  | a :: r, x + 1, row, h => by
    have := sum_set f r x row (by simpa using h)
    simp only [List.set_cons_succ, List.map_cons, List.sum_cons, List.getElem!_cons_succ]
    omega
theorem count_cut : ∀ (l : List Bool) (y : Nat), y < l.length → l[y]! = true → (l.set y false).count true + 1 = l.count true
  | [], y, h, _ => by simp at h
  | c :: l, 0, _, h => by
    have : c = true := by simpa using h
    subst this; simp
  | c :: l, y + 1, h, h2 => by
    have := count_cut l y (by simpa using h) (by simpa using h2)
    simp only [List.set_cons_succ, List.count_cons]
    omega
theorem tally_cut {r : Rel} {x y : Nat} (hx : x < r.length) (hy : y < r[x]!.length) (h : r[x]![y]! = true) : tally (cutR r x y) + 1 = tally r := by
  have h1 := sum_set (fun row => row.count true) r x (r[x]!.set y false) hx
  have h2 := count_cut r[x]! y hy h
  simp only [tally, cutR] at *
  omega

/-- all of the relation holds in the other one -/
def Within (s r : Rel) : Prop := ∀ x y, x < s.length → y < s[x]!.length → rel s x y = true → rel r x y = true
end Go.AM

/-! ## W6 -/
namespace Go.AM
open Go Go.Proofs Go.RowKit

/-- what a pass over the pairs has come to at the pair x, y: -/
structure Pass (a b : Sys) (r : Rel) (x y : Nat) (r' : Rel) (c : Bool) : Prop where
  red : Red a b r r'
  same : c = false → r' = r ∧ (∀ i j, i < x → j < b.length → rel r i j = true → matchesF r a b i j = true) ∧ ∀ j, j < y → rel r x j = true → matchesF r a b x j = true
  less : c = true → tally r' < tally r

theorem Pass.skip {a b : Sys} {r r' : Rel} {x y : Nat} {c : Bool} (h : Pass a b r x y r' c) (hm : r'[x]![y]! = true → matchesF r' a b x y = true) : Pass a b r x (y + 1) r' c := by
  refine ⟨h.red, fun hc => ?_, h.less⟩
  obtain ⟨h1, h2, h3⟩ := h.same hc
  subst h1
  refine ⟨rfl, h2, fun j hj hr => ?_⟩
  by_cases hjy : j = y
  · subst hjy; exact hm hr
  · exact h3 j (by omega) hr
theorem Pass.tally_le {a b : Sys} {r r' : Rel} {x y : Nat} {c : Bool} (h : Pass a b r x y r' c) : tally r' ≤ tally r := by
  cases c
  · rw [(h.same rfl).1]; exact Nat.le_refl _
  · have := h.less rfl; omega
theorem Pass.cut {a b : Sys} {r r' : Rel} {x y : Nat} {c : Bool} (h : Pass a b r x y r' c) (hx : x < a.length) (hy : y < b.length) (hx2 : x < r'.length) (hy2 : y < r'[x]!.length) (hin : r'[x]![y]! = true) (hm : matchesF r' a b x y = false) : Pass a b r x (y + 1) (cutR r' x y) true := by
  refine ⟨.cut _ _ x y h.red hx hy hm, fun hc => (by cases hc), fun _ => ?_⟩
  have h1 := tally_cut hx2 hy2 hin
  have h2 := h.tally_le
  omega
theorem Pass.row {a b : Sys} {r r' : Rel} {x y : Nat} {c : Bool} (h : Pass a b r x y r' c) (hy : b.length ≤ y) : Pass a b r (x + 1) 0 r' c := by
  refine ⟨h.red, fun hc => ?_, h.less⟩
  obtain ⟨h1, h2, h3⟩ := h.same hc
  refine ⟨h1, fun i j hi hj hr => ?_, fun j hj => by omega⟩
  by_cases hix : i = x
  · subst hix; exact h3 j (by omega) hr
  · exact h2 i j (by omega) hj hr

set_option maxRecDepth 100000 in
theorem con_refine (r : Rel) (a b : Sys) (hr : Sized r a.length b.length) (ha : Closed1 a) (hb : Closed1 b) :
    ConW Try.prog 37 [vtb 2 r, vy 0 a, vy 0 b] fun u ys => ∃ r' c, u = .sc (.bool c) ∧ ys = [vtb 2 r', vy 0 a, vy 0 b] ∧ Pass a b r a.length 0 r' c := by
  refine ConW.intro Try.func37 rfl Try.ntmps37 Try.results37 (by kernel_rfl) (by simp) ?_
  simp only [go_sem]
  refine LoopK.intro (fun p : Nat × Rel × Bool => ⟨42, [(0, .so 2 (rowsB 2 p.2.1)), (4, .pb 1 0), (5, .pb 2 0), (7, .sc (.bool p.2.2)), (12, .so 2 (rowsB 2 p.2.1)), (13, .sc (.int .i64 r.length)), (14, .sc (.int .i64 p.1))], [[.so 2 (rowsB 2 p.2.1), vy 0 a, vy 0 b], [.sl 0 1 (a.map (vl 0))], [.sl 0 1 (b.map (vl 0))]]⟩)
    (fun p => r.length - p.1) (fun p => p.1 ≤ r.length ∧ Pass a b r p.1 0 p.2.1 p.2.2) (0, r, false) ⟨by simp, ⟨.refl _, fun _ => ⟨rfl, fun i j h => by omega, fun j h => by omega⟩, fun h => by cases h⟩⟩ ?_ ?_
  · simp only [go_sem]
  rintro ⟨x, r1, c1⟩ ⟨h1, h2⟩
  simp only at h1 h2
  have hs1 : Sized r1 a.length b.length := h2.red.sized rfl hr
  have hl1 : r1.length = r.length := by rw [hs1.1, hr.1]
  by_cases hx : x < r.length
  case' pos => skip
  case neg =>
    simp only [go_sem, hx]
    exact ⟨r1, c1, rfl, rfl, by have : x = a.length := by rw [← hr.1]; omega
                                rw [← this]; exact h2⟩
  have hx1 : x < r1.length := by omega
  have hxa : x < a.length := by rw [← hr.1]; exact hx
  have hwx : IntKind.i64.wrap (x + 1) = x + 1 := wrap_in (by omega) (by have := ha.1; omega)
  have hg := gettb (t := 2) hx1
  simp only [go_sem, hx, hx1, hg]
  have hrow1 : r1[x]!.length = b.length := hs1.2 _ (mem_bang hx1)
  refine LoopK.intro (fun p : Nat × Rel × Bool => ⟨42, [(0, .so 2 (rowsB 2 p.2.1)), (4, .pb 1 0), (5, .pb 2 0), (7, .sc (.bool p.2.2)), (8, .sc (.int .i64 x)), (9, .sl (subT 2 x) 1 (p.2.1[x]!.map vb)), (12, .so 2 (rowsB 2 p.2.1)), (13, .sc (.int .i64 r.length)), (14, .sc (.int .i64 x)), (19, .sl (subT 2 x) 1 (p.2.1[x]!.map vb)), (20, .sc (.int .i64 b.length)), (21, .sc (.int .i64 p.1))], [[.so 2 (rowsB 2 p.2.1), vy 0 a, vy 0 b], [.sl 0 1 (a.map (vl 0))], [.sl 0 1 (b.map (vl 0))]]⟩)
    (fun p => b.length - p.1) (fun p => p.1 ≤ b.length ∧ Pass a b r x p.1 p.2.1 p.2.2) (0, r1, c1) ⟨by simp, h2⟩ ?_ ?_
  · simp only [go_sem, hrow1]
  rintro ⟨y, r2, c2⟩ ⟨k1, k2⟩
  simp only at k1 k2
  have hs2 : Sized r2 a.length b.length := k2.red.sized rfl hr
  have hx2 : x < r2.length := by rw [hs2.1]; exact hxa
  have hrow2 : r2[x]!.length = b.length := hs2.2 _ (mem_bang hx2)
  by_cases hy : y < b.length
  case' pos => skip
  case neg =>
    simp only [go_sem, hy, hwx]
    refine roundK.intro (x + 1, r2, c2) ⟨by show x + 1 ≤ r.length; omega, k2.row (by omega)⟩ (by show r.length - (x + 1) < r.length - x; omega) ?_
    simp only [go_sem]
  have hy2 : y < r2[x]!.length := by omega
  have hwy : IntKind.i64.wrap (y + 1) = y + 1 := wrap_in (by omega) (by have := hb.1; omega)
  have hgy := getvb hy2
  cases hin : r2[x]![y]!
  · simp only [go_sem, hy, hy2, hgy, hin, hwy]
    refine roundK.intro (y + 1, r2, c2) ⟨by show y + 1 ≤ b.length; omega, k2.skip (by rw [hin]; intro h; cases h)⟩ (by show b.length - (y + 1) < b.length - y; omega) ?_
    simp only [go_sem]
  simp only [go_sem, hy, hy2, hgy, hin]
  refine CallU.flat (con_matches r2 a b x y hs2 ha hb hxa hy) (by simp only [go_sem]) (by simp only [go_sem]) ?_
  rintro u bx rfl
  cases hm : matchesF r2 a b x y
  · simp only [go_sem, hy2, hwy]
    refine roundK.intro (y + 1, cutR r2 x y, true) ⟨by show y + 1 ≤ b.length; omega, k2.cut hxa hy hx2 hy2 hin hm⟩ (by show b.length - (y + 1) < b.length - y; omega) ?_
    have e1 : (cutR r2 x y)[x]! = r2[x]!.set y false := by
      unfold cutR
      rw [getElem!_pos _ x (by simpa using hx2)]; simp
    have e2 : r2.set x (r2[x]!.set y false) = cutR r2 x y := rfl
    simp only [go_sem, modify_vb', e1, e2]
    trace_state
  · simp only [go_sem, hwy]
    refine roundK.intro (y + 1, r2, c2) ⟨by show y + 1 ≤ b.length; omega, k2.skip (fun _ => hm)⟩ (by show b.length - (y + 1) < b.length - y; omega) ?_
    simp only [go_sem]
end Go.AM

/-! ## AmU -/
namespace Go.AM
open Go.RowKit

section
variable {P : Program} {ops : Array Oper}

/-! ### what an operation reads -/
theorem exec_congr {ρ ρ' : Operand → Value} {o : Oper} (hs : ∀ cs b, o.op ≠ .select cs b) (h : ∀ x ∈ o.op.operands, ρ x = ρ' x) : execOp ρ o = execOp ρ' o := by
  obtain ⟨d, op, T, pos, af, g⟩ := o
  have hm : ∀ {l : Array Operand}, (∀ x ∈ l, ρ x = ρ' x) → l.map ρ = l.map ρ' := fun h => Array.map_congr_left h
  have hr : ∀ {c : Call}, (∀ x ∈ c.operands, ρ x = ρ' x) → resolve ρ c T = resolve ρ' c T := by
    intro c hc
    obtain ⟨cl, args, As⟩ := c
    have ha : args.map ρ = args.map ρ' := hm fun x hx => hc x (by simp [Call.operands, hx])
    cases cl with
    | value f => simp only [resolve, ha, hc f (by simp [Call.operands])]
    | invoke r nm => simp only [resolve, ha, hc r (by simp [Call.operands])]
    | builtin b => simp only [resolve, ha]
  have hp : ∀ {ps : Array (Nat × Operand)}, (∀ x ∈ (ps.toList.map (·.2)).toArray, ρ x = ρ' x) → (ps.map fun (i, x) => (i, ρ x)) = ps.map fun (i, x) => (i, ρ' x) := by
    intro ps h
    refine Array.map_congr_left fun p hp => ?_
    obtain ⟨i, x⟩ := p
    have e := h x (by simp only [List.mem_toArray, List.mem_map, Array.mem_toList_iff]; exact ⟨(i, x), hp, rfl⟩)
    simp only [e]
  have ho : ∀ {x : Option Operand}, (∀ y ∈ x, ρ y = ρ' y) → x.map ρ = x.map ρ' := by
    intro x h; cases x with
    | none => rfl
    | some y => simp [h y rfl]
  cases op with
  | alloc | ready | waits => rfl
  | build _ ps => simp only [execOp]; rw [hp (ps := ps) h]
  | buildSlice _ _ ps => simp only [execOp]; rw [hp (ps := ps) h]
  | makeFunc fn f c =>
    simp only [Op.operands, Array.mem_append] at h
    simp only [execOp]; rw [hm (l := f) fun x hx => h x (.inl hx), hm (l := c) fun x hx => h x (.inr hx)]
  | makeMap t r =>
    simp only [execOp]; rw [ho (x := r) fun y hy => h y (by simp [Op.operands]; exact hy)]
  | slice t x l h' m =>
    simp only [execOp]
    rw [h x (by simp [Op.operands]), ho (x := l) fun y hy => h y (by simp [Op.operands]; exact .inr (.inl hy)), ho (x := h') fun y hy => h y (by simp [Op.operands]; exact .inr (.inr (.inl hy))), ho (x := m) fun y hy => h y (by simp [Op.operands]; exact .inr (.inr (.inr hy)))]
  | call c => simp only [execOp]; rw [hr (c := c) h]
  | go c => simp only [execOp]; rw [hr (c := c) h]
  | defer c => simp only [execOp]; rw [hr (c := c) h]
  | select cs b => exact absurd rfl (hs cs b)
  | _ => simp [Op.operands] at h <;> simp [execOp, h]

theorem eval_put {a : Act} {d : Nat} {v : Value} {x : Operand} (h : x ≠ .tmp d) : (a.put (some d) v).eval x = a.eval x := by
  cases x with
  | tmp s =>
    have : d ≠ s := fun h' => h (by rw [h'])
    simp [Act.eval, Act.put, Array.getElem?_setIfInBounds_ne this]
  | _ => rfl

theorem put_put {a : Act} {d : Nat} {o : Option Tmp} {v x : Value} (h : o ≠ some d) : (a.put (some d) v).put o x = (a.put o x).put (some d) v := by
  cases o with
  | none => rfl
  | some e =>
    have : d ≠ e := fun h' => h (by rw [h'])
    simp only [Act.put]
    rw [Array.setIfInBounds_comm _ _ this]

structure Front (ops : Array Oper) (j : Nat) (p : Oper) (d : Nat) : Prop where
  here : ops[j]? = some p
  guard : p.guard = none
  dst : p.dst = some d
  sel : ∀ cs b, p.op ≠ .select cs b
  other : ∀ i o, ops[i]? = some o → i ≠ j → (∀ cs b, o.op ≠ .select cs b) ∧ o.dst ≠ some d ∧ (d ∈ slotsOf o → reach ops ops.size i j = true) ∧ (∀ s, o.dst = some s → s ∈ slotsOf p → reach ops ops.size j i = true ∨ reach ops ops.size i j = true) ∧ (∀ g b, o.guard = some (g, b) → guardSlot ops g ≠ some d)

theorem mem_slots {o : Oper} {s : Nat} (h : Operand.tmp s ∈ o.op.operands) : s ∈ slotsOf o := by
  unfold slotsOf
  exact List.mem_filterMap.2 ⟨.tmp s, by simpa using h, rfl⟩

theorem wanted_put {o : Oper} {a : Act} {d : Nat} {v : Value} (h : ∀ g b, o.guard = some (g, b) → guardSlot ops g ≠ some d) : Region.wanted o (yielded ops (a.put (some d) v).tmps) = Region.wanted o (yielded ops a.tmps) := by
  unfold Region.wanted
  cases hg : o.guard with
  | none => rfl
  | some p =>
    obtain ⟨g, b⟩ := p
    have := h g b hg
    have e : yielded ops (a.put (some d) v).tmps g = yielded ops a.tmps g := by
      unfold guardSlot at this
      unfold yielded
      cases hs : (ops[g]?).bind (·.dst) with
      | none => rfl
      | some s =>
        rw [hs] at this
        have hds : d ≠ s := fun h' => this (by rw [h'])
        simp only [Act.put, Option.bind_some, Array.getElem?_setIfInBounds_ne hds]
    simp [e]

/-- another operation, with the name's slot filled or not -/
theorem wpOp_swap {Q : Exit → Act → World → Prop} (hQ : ∀ e a w, e ≠ .normal → ¬ Q e a w) {i d : Nat} {o : Oper} {a : Act} {w : World} {v : Value} {K K' : Act → World → Prop}
    (ho : ops[i]? = some o) (hs : ∀ cs b, o.op ≠ .select cs b) (hd : o.dst ≠ some d) (hr : d ∉ slotsOf o) (hg : ∀ g b, o.guard = some (g, b) → guardSlot ops g ≠ some d)
    (hK : ∀ ds x w', K (({ a with defers := ds } : Act).put o.dst x |>.put (some d) v) w' → K' (({ a with defers := ds } : Act).put o.dst x) w')
    (h : Go.wpOp P ops Q i K (a.put (some d) v) w) : Go.wpOp P ops Q i K' a w := by
  have he : execOp (a.put (some d) v).eval o = execOp a.eval o := exec_congr hs fun x hx => eval_put fun hxd => hr (mem_slots (by rw [← hxd]; exact hx))
  have hout : ¬ LetsOut Q := fun ⟨a, w, h⟩ => hQ _ _ _ (by simp) h
  have hk : ∀ x w', K ((a.put (some d) v).put o.dst x) w' → K' (a.put o.dst x) w' := fun x w' h => hK a.defers x w' (by rw [put_put hd] at h; exact h)
  simp only [Go.wpOp, ho, wanted_put hg] at h ⊢
  split
  · rename_i hw
    simp only [hw, if_true] at h
    rcases h with h | ⟨_, h⟩
    · refine .inl ?_
      simp only [Oper.wp, he] at h ⊢
      generalize (execOp a.eval o).run P w = r at *
      cases r with
      | ok n w' =>
        cases n <;> simp only [Oper.upon] at h ⊢
        case value => exact hk _ _ h
        case skip => exact hk _ _ h
        case defer D =>
          refine hK (D :: a.defers) _ _ ?_
          have : ({ (a.put (some d) v) with defers := D :: (a.put (some d) v).defers } : Act) = ({ a with defers := D :: a.defers } : Act).put (some d) v := rfl
          rw [this, put_put hd] at h; exact h
        case enter =>
          refine Calls.mono h fun e w'' h => ?_
          rcases e with _ | _ | _
          · exact hk _ _ h
          · exact absurd h (hQ _ _ _ (by simp))
          · exact absurd h hout
        case row => exact Rows.mono h fun _ _ h => hk _ _ h
      | halt x w' =>
        cases x <;> simp only [Oper.upon] at h ⊢
        exact absurd h (hQ _ _ _ (by simp))
    · exact absurd h hout
  · rename_i hw
    simp only [hw] at h
    exact hk _ _ h

/-- a name, taken first -/
theorem front_run {Q : Exit → Act → World → Prop} (hQ : ∀ e a w, e ≠ .normal → ¬ Q e a w) {j d : Nat} {p : Oper} (hf : Front ops j p d) :
    ∀ (fuel : Nat) (listed : Array Bool) (a : Act) (w : World) (v : Value), listed.size = ops.size → Closed ops (fun k => listed.getD k false) → j ∈ Region.ready .any ops listed →
      (∀ w', (execOp a.eval p).run P w' = .ok (.value v) w') → wpAny P .any ops Q fuel (listed.setIfInBounds j true) (a.put (some d) v) w → wpAny P .any ops Q (fuel + 1) listed a w := by
  intro fuel
  have key : ∀ {listed : Array Bool} {i : Nat}, listed.size = ops.size → i ∈ Region.ready .any ops listed → j ∈ Region.ready .any ops listed → i ≠ j → i ∈ Region.ready .any ops (listed.setIfInBounds j true) := by
    intro listed i hsz hi hj hij
    obtain ⟨o, ho, h1, h2⟩ := (ready_iff hsz).1 hi
    obtain ⟨p', hp', _⟩ := (ready_iff hsz).1 hj
    have hjl : j < listed.size := by rw [hsz]; exact (Array.getElem?_eq_some_iff.1 hp').1
    refine (ready_iff (by simpa using hsz)).2 ⟨o, ho, ?_, fun k hk => ?_⟩
    · rw [set_getD hjl, if_neg (Ne.symm hij)]; exact h1
    · rw [set_getD hjl]; split
      · rfl
      · exact h2 k hk
  have first : ∀ (fuel : Nat) (listed : Array Bool) (a : Act) (w : World) (v : Value), (∀ w', (execOp a.eval p).run P w' = .ok (.value v) w') → wpAny P .any ops Q fuel (listed.setIfInBounds j true) (a.put (some d) v) w →
      Go.wpOp P ops Q j (wpAny P .any ops Q fuel (listed.setIfInBounds j true)) a w := by
    intro fuel listed a w v hex h
    simp only [Go.wpOp, hf.here]
    rw [if_pos (by simp [Region.wanted, hf.guard])]
    refine .inl ?_
    simp only [Oper.wp, hex w, Oper.upon, hf.dst]
    exact h
  induction fuel with
  | zero =>
    intro listed a w v hsz hc hj hex h
    refine ⟨fun hr => absurd hj (by rw [hr]; simp), fun i hi => ?_⟩
    by_cases hij : i = j
    · subst hij; exact first 0 listed a w v hex h
    · exact absurd (key hsz hi hj hij) (by rw [h.1]; simp)
  | succ fuel ih =>
    intro listed a w v hsz hc hj hex h
    refine ⟨fun hr => absurd hj (by rw [hr]; simp), fun i hi => ?_⟩
    by_cases hij : i = j
    · subst hij; exact first (fuel + 1) listed a w v hex h
    · obtain ⟨o, ho, h1, h2⟩ := (ready_iff hsz).1 hi
      obtain ⟨p', hp', k1, k2⟩ := (ready_iff hsz).1 hj
      rw [hf.here] at hp'; cases hp'
      have hjl : j < listed.size := by rw [hsz]; exact (Array.getElem?_eq_some_iff.1 hf.here).1
      have hil : i < listed.size := by rw [hsz]; exact (Array.getElem?_eq_some_iff.1 ho).1
      obtain ⟨s1, s2, s3, s4, s5⟩ := hf.other i o ho hij
      have hr : d ∉ slotsOf o := fun hm => by
        have := reach_listed hc ops.size i j o ho h2 (s3 hm)
        rw [k1] at this; cases this
      have hr' : ∀ s, o.dst = some s → s ∉ slotsOf p := fun s hs hm => by
        rcases s4 s hs hm with s4 | s4
        · have := reach_listed hc ops.size j i p hf.here k2 s4
          rw [h1] at this; cases this
        · have := reach_listed hc ops.size i j o ho h2 s4
          rw [k1] at this; cases this
      refine wpOp_swap hQ ho s1 s2 hr s5 (fun ds x w' hk => ?_) (h.2 i (key hsz hi hj hij))
      rw [Array.setIfInBounds_comm _ _ (Ne.symm hij)] at hk
      refine ih _ _ _ v (by simpa using hsz) (hc.step hil ho h2) ((ready_iff (by simpa using hsz)).2 ⟨p, hf.here, by rw [set_getD hil, if_neg hij]; exact k1, fun k hk' => ?_⟩) (fun w' => ?_) hk
      · rw [set_getD hil]; split
        · rfl
        · exact k2 k hk'
      · rw [← hex w']
        congr 1
        refine exec_congr hf.sel fun x hx => ?_
        cases hod : o.dst with
        | none => cases x <;> rfl
        | some e =>
          rw [eval_put (fun hxe => hr' e hod (mem_slots (by rw [← hxe]; exact hx)))]
          cases x <;> rfl

/-! ### the names' values -/
def isSlice : AV → Bool
  | .sl _ _ _ => true
  | .so _ _ => true
  | _ => false

def frontV (P : Program) (op : Op) (σ : St) (K : AV → Prop) : Prop :=
  match op with
  | .move x => K (σ.ev x)
  | .indexAddr T x i => isSlice (σ.ev x) = true ∧ evIndexAddr P T (σ.ev x) (σ.ev i) K
  | _ => False

theorem frontV_sound {p : Oper} {σ : St} {K : AV → Prop} (h : frontV P p.op σ K) :
    ∃ y, K y ∧ ∀ (G : Nat → Status) (a : Act) (w : World), Good G w → (∀ x, VRel G w (σ.ev x) (a.eval x)) → ∃ v, VRel G w y v ∧ ∀ w', (execOp a.eval p).run P w' = .ok (.value v) w' := by
  unfold frontV at h
  split at h
  · rename_i x ho
    exact ⟨_, h, fun G a w _ hv => ⟨_, hv x, fun w' => by simp [execOp, ho]⟩⟩
  · rename_i T x i ho
    obtain ⟨hsl, h⟩ := h
    unfold evIndexAddr at h
    split at h
    · rename_i k n hi
      split at h
      · rename_i E t es xs hT hx
        obtain ⟨⟨⟨sz, by_, z⟩, hq, rfl⟩, h0, h1, hK⟩ := h
        refine ⟨_, hK, fun G a w hg hv => ?_⟩
        have hu := hv i; rw [hi] at hu
        have hu := hu.sc_inv
        have hv' := hv x; rw [hx] at hv'
        obtain ⟨ao, c, hvx, h2, h3, _, h4⟩ := hv'.sl_inv
        rcases h4 with rfl | ⟨b, off, vals, rfl, hs⟩
        · simp at h1; omega
        · refine ⟨.pointer (some ⟨b, off + n.toNat * sz + 0, none⟩), .pe _ _ _ _ _ _ _ c (by rw [hvx] at hv'; exact hv') (by omega), fun w' => ?_⟩
          simp [execOp, ho, hvx, hu, Instr.indexAt, asIntOf, run_underlying hT, h0, h1, run_sizeOf hq, Addr.add_none]
      · rename_i E t xs hT hx
        obtain ⟨⟨⟨sz, by_, z⟩, hq, rfl⟩, h0, h1, hK⟩ := h
        refine ⟨_, hK, fun G a w hg hv => ?_⟩
        have hu := hv i; rw [hi] at hu
        have hu := hu.sc_inv
        have hv' := hv x; rw [hx] at hv'
        obtain ⟨ao, c, hvx, h3, _, h4⟩ := hv'.so_inv
        rcases h4 with rfl | ⟨b, vals, rfl, hs⟩
        · simp at h1; omega
        · refine ⟨.pointer (some ⟨b, 0 + n.toNat, none⟩), .po _ _ _ _ _ c (by rw [hvx] at hv'; exact hv') (by omega), fun w' => ?_⟩
          simp [execOp, ho, hvx, hu, Instr.indexAt, asIntOf, run_underlying hT, h0, h1, run_sizeOf hq, Addr.add_none]
      · rename_i hx
        rw [hx] at hsl; simp [isSlice] at hsl
      · rename_i len E hT
        exfalso
        obtain ⟨hp, _⟩ := h
        generalize σ.ev x = y at hsl hp
        cases y <;> simp [isSlice, isPtr] at hsl hp
      · exact h.elim
    · exact h.elim
  · exact h.elim

/-! ### the walk -/
/-- what the check says -/
structure PlanX (ops : Array Oper) (F : List Nat) (m : Nat) : Prop where
  le : m ≤ ops.size
  lt : ∀ i o, ops[i]? = some o → ∀ k ∈ edges o, k < i
  head : ∀ i o, ops[i]? = some o → i < m → F.contains i = false → o.guard = none ∧ ∃ d, o.dst = some d ∧ d ∉ slotsOf o ∧ ∀ j p s, j < m → j ≠ i → ops[j]? = some p → p.dst = some s → s ≠ d ∧ (s ∈ slotsOf o → if j < i then reach ops ops.size i j = true else reach ops ops.size j i = true)
  tail : ∀ i o, ops[i]? = some o → m ≤ i → F.contains i = false → ∀ j, j < i → F.contains j = false → reach ops ops.size i j = true
  front : ∀ i o, ops[i]? = some o → F.contains i = true → ∃ d, Front ops i o d

def walkT (P : Program) (ops : Array Oper) (F : List Nat) : Nat → List Oper → St → (St → Prop) → Prop
  | _, [], σ, K => K σ
  | k, o :: l, σ, K => if F.contains k = true then walkT P ops F (k + 1) l σ K else opsA P ops [o] σ fun σ' => walkT P ops F (k + 1) l σ' K

theorem tail_runX {F : List Nat} {m : Nat} {G0 : Orig} {w0 : World} {K : St → Prop} {Q : Exit → Act → World → Prop} (hp : PlanX ops F m) (h0 : True) (hQ : ∀ σ' G' a' w', K σ' → SRel G0 w0 σ' G' a' w' → Q .normal a' w') :
    ∀ (r fuel k : Nat) (listed : Array Bool) (U : List Nat) (σ : St) (G : Nat → Status) (a : Act) (w : World), k + r = ops.size → Left ops listed U → U.length = fuel → m ≤ k → (∀ i, i < ops.size → (listed.getD i false = true ↔ i < k ∨ F.contains i = true)) →
      Closed ops (fun k => listed.getD k false) → walkT P ops F k (ops.toList.drop k) σ K → SRel G0 w0 σ G a w → wpAny P .any ops Q fuel listed a w := by
  intro r
  induction r with
  | zero =>
    intro fuel k listed U σ G a w hkr hl hU hmk hk hc hw h
    have hUn : U = [] := by
      apply List.eq_nil_iff_forall_not_mem.2
      intro i hi
      obtain ⟨h1, h2⟩ := (hl.mem i).1 hi
      have := (hk i h1).2 (.inl (by omega))
      rw [h2] at this; cases this
    subst hUn
    simp at hU; subst hU
    have hkk : k = ops.size := by omega
    subst hkk
    refine ⟨?_, ?_⟩
    · apply List.eq_nil_iff_forall_not_mem.2
      intro i hi
      obtain ⟨o, ho, h1, _⟩ := (ready_iff hl.size).1 hi
      have := (hl.mem i).2 ⟨(Array.getElem?_eq_some_iff.1 ho).1, h1⟩
      simp at this
    · have hd : ops.toList.drop ops.size = [] := by simp
      rw [hd] at hw
      exact hQ σ G a w hw h
  | succ r ih =>
    intro fuel k listed U σ G a w hkr hl hU hmk hk hc hw h
    have hltk : k < ops.size := by omega
    obtain ⟨ok, hok⟩ : ∃ o, ops[k]? = some o := ⟨ops[k], by simp [hltk]⟩
    have hdrop : ops.toList.drop k = ok :: ops.toList.drop (k + 1) := by
      have hlt' : k < ops.toList.length := by simpa using hltk
      rw [List.drop_eq_getElem_cons hlt']
      have : ops.toList[k] = ok := by
        have := Array.getElem?_eq_some_iff.1 hok
        simpa using this.2
      rw [this]
    rw [hdrop] at hw
    simp only [walkT] at hw
    split at hw
    · rename_i hF
      refine ih fuel (k + 1) listed U σ G a w (by omega) hl hU (by omega) (fun i hi => ?_) hc hw h
      rw [hk i hi]
      constructor
      · rintro (h | h)
        · exact .inl (by omega)
        · exact .inr h
      · rintro (h | h)
        · by_cases hik : i = k
          · subst hik; exact .inr hF
          · exact .inl (by omega)
        · exact .inr h
    · rename_i hF
      have hF' : F.contains k = false := by simpa using hF
      have hkf : listed.getD k false = false := by
        cases hb : listed.getD k false
        · rfl
        · rcases (hk k hltk).1 hb with h | h
          · omega
          · rw [hF'] at h; cases h
      have hmem : k ∈ U := (hl.mem k).2 ⟨hltk, hkf⟩
      have hUn : U ≠ [] := by intro h; rw [h] at hmem; simp at hmem
      obtain ⟨l1, l2⟩ := hl.step hmem
      obtain ⟨f, rfl⟩ : ∃ f, fuel = f + 1 := ⟨fuel - 1, by omega⟩
      refine ⟨fun hr => absurd hr (some_ready hl hp.lt hUn), fun i hi => ?_⟩
      obtain ⟨o, ho, h1, h2⟩ := (ready_iff hl.size).1 hi
      have hlt := (Array.getElem?_eq_some_iff.1 ho).1
      have hni : ¬ (i < k ∨ F.contains i = true) := fun h => by have := (hk i hlt).2 h; rw [h1] at this; cases this
      have hiF : F.contains i = false := by
        cases hb : F.contains i
        · rfl
        · exact absurd (.inr hb) hni
      have hik : i = k := by
        apply Classical.byContradiction
        intro hne
        have hlk : k < i := by
          have : ¬ i < k := fun h => hni (.inl h)
          omega
        have := reach_listed hc ops.size i k o ho h2 (hp.tail i o ho (by omega) hiF k hlk hF')
        rw [hkf] at this; cases this
      subst hik
      obtain rfl : o = ok := by rw [ho] at hok; exact Option.some.inj hok
      have hsz : i < listed.size := by rw [hl.size]; exact hlt
      have hk' : ∀ j, j < ops.size → ((listed.setIfInBounds i true).getD j false = true ↔ j < i + 1 ∨ F.contains j = true) := fun j hj => by
        rw [set_getD hsz]
        by_cases hij : i = j
        · subst hij; simp
        · rw [if_neg hij, hk j hj]
          constructor
          · rintro (h | h)
            · exact .inl (by omega)
            · exact .inr h
          · rintro (h | h)
            · exact .inl (by omega)
            · exact .inr h
      have hcont : ∀ {σ' G' a' w'}, walkT P ops F (i + 1) (ops.toList.drop (i + 1)) σ' K → SRel G0 w0 σ' G' a' w' → wpAny P .any ops Q f (listed.setIfInBounds i true) a' w' := fun hk2 hs2 =>
        ih f (i + 1) _ _ _ _ _ _ (by omega) l1 (by omega) (by omega) hk' (hc.step hsz ho h2) hk2 hs2
      simp only [opsA] at hw
      simp only [Go.wpOp, ho]
      have run : ∀ {σ}, AM.wpOp P o σ (fun σ' => walkT P ops F (i + 1) (ops.toList.drop (i + 1)) σ' K) → SRel G0 w0 σ G a w → o.wp P a w (wpAny P .any ops Q f (listed.setIfInBounds i true)) Q := fun hw h =>
        wpOp_sound hw h h0 _ _ fun σ' G' a' w' hk hs => hcont hk hs
      cases hg : o.guard with
      | none =>
        simp only [hg] at hw
        rw [if_pos (by simp [Region.wanted, hg])]
        exact .inl (run hw h)
      | some p =>
        obtain ⟨j, want⟩ := p
        simp only [hg] at hw
        cases hgs : guardSlot ops j with
        | none => simp [hgs] at hw
        | some g =>
          simp only [hgs] at hw
          split at hw
          · rename_i b hb
            have hv := h.slots g
            rw [hb] at hv
            have hy := yielded_bool hgs hv.sc_inv
            by_cases hbw : b = want
            · subst hbw
              rw [if_pos (by simp [Region.wanted, hg, hy])]
              exact .inl (run (hw.1 rfl) (h.same hb))
            · rw [if_neg (by simp [Region.wanted, hg, hy, hbw])]
              have hbn : b = !want := by cases b <;> cases want <;> simp_all
              obtain ⟨hdst, hw⟩ := hw.2 hbn
              have hs := (h.same (g := g) (x := .sc (.bool (!want))) (by rw [hb, hbn])).add (.refl G w) h.good (fun _ _ h => h) (d := o.dst) (x := .sc undef) (v := undef) (by rw [put_n]; exact hdst) (.froz (.sc _))
              exact hcont hw hs
          · rename_i vs hb
            have hv := h.slots g
            rw [hb] at hv
            have hy := yielded_none hgs hv.sc_inv
            rw [if_neg (by simp [Region.wanted, hg, hy])]
            obtain ⟨hdst, hw⟩ := hw
            have hs := h.add (.refl G w) h.good (fun _ _ h => h) (d := o.dst) (x := .sc undef) (v := undef) hdst (.froz (.sc _))
            exact hcont hw hs
          · exact hw.elim
theorem head_runX {F : List Nat} {m : Nat} {G0 : Orig} {w0 : World} {σ : St} {K : St → Prop} {Q : Exit → Act → World → Prop} {vs : List (Nat × AV)} (hp : PlanX ops F m) (h0 : True) (hQ : ∀ σ' G' a' w', K σ' → SRel G0 w0 σ' G' a' w' → Q .normal a' w') (hvl : vs.length = m) (hap : Apart vs)
    (hK : walkT P ops F m (ops.toList.drop m) (puts σ vs) K)
    (hst : ∀ i o, i < m → ops[i]? = some o → ∃ d y, vs[i]? = some (d, y) ∧ o.dst = some d ∧ d < σ.n ∧ (F.contains i = false → StepOk P o d (puts σ (vs.take i)).ev σ.boxes y)) :
    ∀ (fuel : Nat) (listed : Array Bool) (U : List Nat) (τ : St) (G : Nat → Status) (a : Act) (w : World), Left ops listed U → U.length = fuel → (∀ i, i < ops.size → m ≤ i → (listed.getD i false = true ↔ F.contains i = true)) → (∀ i, i < ops.size → F.contains i = true → listed.getD i false = true) →
      Closed ops (fun k => listed.getD k false) → At vs (fun i => listed.getD i false) σ τ → SRel G0 w0 τ G a w →
      (∀ i o d, ops[i]? = some o → i < m → o.dst = some d → creates o.op = true → listed.getD i false = false → Fresh d G) → wpAny P .any ops Q fuel listed a w := by
  intro fuel
  induction fuel with
  | zero =>
    intro listed U τ G a w hl hU hm hF hc hat h hfr
    have hUn : U = [] := List.eq_nil_of_length_eq_zero hU
    subst hUn
    have hall : ∀ i, i < ops.size → listed.getD i false = true := fun i hi => by
      cases hb : listed.getD i false
      · have := (hl.mem i).2 ⟨hi, hb⟩; simp at this
      · rfl
    have heq : SRel G0 w0 (puts σ vs) G a w := by
      have hpa := puts_at m vs σ hap
      rw [List.take_of_length_le (by omega)] at hpa
      refine h.slotsEq (by rw [hpa.n, hat.n]) (by rw [hpa.boxes, hat.boxes]) fun s => ?_
      by_cases hs : ∀ (i d : Nat) (y : AV), vs[i]? = some (d, y) → d ≠ s
      · rw [hpa.rest s hs, hat.rest s hs]
      · have : ∃ (i : Nat) (y : AV), vs[i]? = some (s, y) := by
          apply Classical.byContradiction
          intro hcon
          exact hs fun i d y hi hds => hcon ⟨i, y, by rw [← hds]; exact hi⟩
        obtain ⟨i, y, hi⟩ := this
        have hil : i < m := by rw [← hvl]; exact (List.getElem?_eq_some_iff.1 hi).1
        rw [hpa.dst i s y hi, hat.dst i s y hi]
        simp [hil, hall i (by have := hp.le; omega)]
    refine tail_runX (P := P) hp h0 hQ (ops.size - m) 0 m listed [] (puts σ vs) G a w (by have := hp.le; omega) hl rfl (Nat.le_refl m) (fun i hi => ⟨fun hb => ?_, fun _ => hall i hi⟩) hc hK heq
    by_cases him : i < m
    · exact .inl him
    · exact .inr ((hm i hi (by omega)).1 hb)
  | succ fuel ih =>
    intro listed U τ G a w hl hU hm hF hc hat h hfr
    have hUn : U ≠ [] := by intro h; rw [h] at hU; simp at hU
    by_cases hdone : ∀ i, i < m → listed.getD i false = true
    · have heq : SRel G0 w0 (puts σ vs) G a w := by
        have hpa := puts_at m vs σ hap
        rw [List.take_of_length_le (by omega)] at hpa
        refine h.slotsEq (by rw [hpa.n, hat.n]) (by rw [hpa.boxes, hat.boxes]) fun s => ?_
        by_cases hs : ∀ (i d : Nat) (y : AV), vs[i]? = some (d, y) → d ≠ s
        · rw [hpa.rest s hs, hat.rest s hs]
        · have : ∃ (i : Nat) (y : AV), vs[i]? = some (s, y) := by
            apply Classical.byContradiction
            intro hcon
            exact hs fun i d y hi hds => hcon ⟨i, y, by rw [← hds]; exact hi⟩
          obtain ⟨i, y, hi⟩ := this
          have hil : i < m := by rw [← hvl]; exact (List.getElem?_eq_some_iff.1 hi).1
          rw [hpa.dst i s y hi, hat.dst i s y hi]
          simp [hil, hdone i hil]
      refine tail_runX (P := P) hp h0 hQ (ops.size - m) (fuel + 1) m listed U (puts σ vs) G a w (by have := hp.le; omega) hl hU (Nat.le_refl m) (fun i hi => ⟨fun hb => ?_, fun hor => ?_⟩) hc hK heq
      · by_cases him : i < m
        · exact .inl him
        · exact .inr ((hm i hi (by omega)).1 hb)
      · rcases hor with hor | hor
        · exact hdone i hor
        · exact hF i hi hor
    · refine ⟨fun hr => absurd hr (some_ready hl hp.lt hUn), fun i hi => ?_⟩
      obtain ⟨o, ho, h1, h2⟩ := (ready_iff hl.size).1 hi
      have hlt := (Array.getElem?_eq_some_iff.1 ho).1
      have hiF : F.contains i = false := by
        cases hb : F.contains i
        · rfl
        · have := hF i hlt hb; rw [h1] at this; cases this
      have him : i < m := by
        apply Classical.byContradiction
        intro hge
        refine hdone fun j hj => ?_
        cases hjF : F.contains j
        · exact reach_listed hc ops.size i j o ho h2 (hp.tail i o ho (by omega) hiF j (by omega) hjF)
        · exact hF j (by have := hp.le; omega) hjF
      obtain ⟨d, y, hv, hd, hdn, hstep⟩ := hst i o him ho
      have hstep := hstep hiF
      obtain ⟨hg, d', hd', hself, hpair⟩ := hp.head i o ho him hiF
      rw [hd] at hd'; cases hd'
      have hmem : i ∈ U := (hl.mem i).2 ⟨hlt, h1⟩
      obtain ⟨l1, l2⟩ := hl.step hmem
      have hsz : i < listed.size := by rw [hl.size]; exact hlt
      have hops : ∀ x ∈ o.op.operands, VRel G w ((puts σ (vs.take i)).ev x) (a.eval x) := by
        intro x hx
        have hrel := h.ev x
        suffices (puts σ (vs.take i)).ev x = τ.ev x by rw [this]; exact hrel
        cases x with
        | tmp s =>
          simp only [St.ev]
          have hpa := puts_at i vs σ hap
          have hsm : s ∈ slotsOf o := by
            unfold slotsOf
            exact List.mem_filterMap.2 ⟨.tmp s, by simpa using hx, rfl⟩
          by_cases hs : ∀ (i d : Nat) (y : AV), vs[i]? = some (d, y) → d ≠ s
          · rw [hpa.rest s hs, hat.rest s hs]
          · have : ∃ (j : Nat) (y : AV), vs[j]? = some (s, y) := by
              apply Classical.byContradiction
              intro hcon
              exact hs fun i d y hi hds => hcon ⟨i, y, by rw [← hds]; exact hi⟩
            obtain ⟨j, y', hj⟩ := this
            have hjl : j < m := by rw [← hvl]; exact (List.getElem?_eq_some_iff.1 hj).1
            obtain ⟨p, hpj⟩ : ∃ p, ops[j]? = some p := ⟨ops[j]'(by have := hp.le; omega), by have := hp.le; simp [show j < ops.size by omega]⟩
            obtain ⟨d'', y'', hv'', hds'', _⟩ := hst j p hjl hpj
            rw [hj] at hv''; cases hv''
            have hji : j ≠ i := fun hji => by subst hji; rw [hv] at hj; cases hj; exact hself hsm
            have hre := (hpair j p s hjl hji hpj hds'').2 hsm
            rw [hpa.dst j s y' hj, hat.dst j s y' hj]
            by_cases hjlt : j < i
            · rw [if_pos hjlt] at hre
              have := reach_listed hc ops.size i j o ho h2 hre
              simp [hjlt, this]
            · rw [if_neg hjlt] at hre
              have hjf : listed.getD j false = false := by
                cases hb : listed.getD j false
                · rfl
                · have := reach_listed hc ops.size j i p hpj (fun k hk => hc j p hpj hb k hk) hre
                  rw [h1] at this; cases this
              simp [hjlt, hjf]
        | const v => rfl
        | func f => rfl
        | global g => rfl
      simp only [Go.wpOp, ho]
      rw [if_pos (by simp [Region.wanted, hg])]
      refine .inl (hstep _ G a w h.good (by rw [← hat.boxes]; exact h.boxes) (fun hcr => hfr i o d ho him hd hcr h1) hops _ _ fun v w' G' g1 g2 g3 g4 => ?_)
      have hs' : SRel G0 w0 (τ.put (some d) y) G' (a.put o.dst v) w' := by
        rw [hd]
        exact h.add g2 g3 g4.boxes (by simp [dstOk, hat.n, hdn]) g1
      refine ih _ _ _ G' _ _ l1 (by omega) (fun j hjs hj => ?_) (fun j hjs hj => ?_) (hc.step hsz ho h2) (hat.step hap hv (fun j hj => ?_) ?_) hs' (fun j oj dj hoj hjm hdj hcr hjf => ?_)
      · rw [set_getD hsz, if_neg (by omega)]; exact hm j hjs hj
      · rw [set_getD hsz]; split
        · rfl
        · exact hF j hjs hj
      · simp only [set_getD hsz]; rw [if_neg (Ne.symm hj)]
      · simp only [set_getD hsz]; simp
      · rw [set_getD hsz] at hjf
        by_cases hij : i = j
        · rw [if_pos hij] at hjf; cases hjf
        · rw [if_neg hij] at hjf
          have hne := (hpair j oj dj hjm (Ne.symm hij) hoj hdj).1
          exact g4.fresh (Ne.symm hne) (hfr j oj dj hoj hjm hdj hcr hjf)


/-- the head in a row; what was taken first is put once more -/
def walkX (P : Program) (ops : Array Oper) (F : List Nat) (m : Nat) : Nat → List Oper → St → (St → Prop) → Prop
  | k, [], σ, K => walkT P ops F k [] σ K
  | k, o :: l, σ, K => if k < m then
      (if F.contains k = true then match o.dst with
        | some d => d < σ.n ∧ walkX P ops F m (k + 1) l (σ.put (some d) (σ.ev (.tmp d))) K
        | none => False
      else headOp P o σ fun σ' => walkX P ops F m (k + 1) l σ' K)
    else walkT P ops F k (o :: l) σ K

theorem walkX_vals {F : List Nat} {m : Nat} {K : St → Prop} : ∀ (l : List Oper) (k : Nat) (σ : St), k ≤ m → m ≤ k + l.length → walkX P ops F m k l σ K → ∃ vs : List (Nat × AV), vs.length = m - k ∧ walkT P ops F m (l.drop (m - k)) (puts σ vs) K ∧
    ∀ i o, k + i < m → l[i]? = some o → ∃ d y, vs[i]? = some (d, y) ∧ o.dst = some d ∧ d < σ.n ∧ (F.contains (k + i) = true → y = (puts σ (vs.take i)).get d) ∧ (F.contains (k + i) = false → StepOk P o d (puts σ (vs.take i)).ev σ.boxes y)
  | [], k, σ, h1, h2, h => by
    have : m = k := by simp at h2; omega
    subst this
    exact ⟨[], by simp, by simpa [walkX, puts] using h, fun i o hi ho => by simp at ho⟩
  | o :: l, k, σ, h1, h2, h => by
    simp only [walkX] at h
    split at h
    · rename_i hkm
      have e : m - k = (m - (k + 1)) + 1 := by omega
      have wrap : ∀ {d : Nat} {y : AV}, o.dst = some d → d < σ.n → (F.contains k = true → y = σ.get d) → (F.contains k = false → StepOk P o d σ.ev σ.boxes y) → walkX P ops F m (k + 1) l (σ.put (some d) y) K →
          ∃ vs : List (Nat × AV), vs.length = m - k ∧ walkT P ops F m ((o :: l).drop (m - k)) (puts σ vs) K ∧
            ∀ i o', k + i < m → (o :: l)[i]? = some o' → ∃ d y, vs[i]? = some (d, y) ∧ o'.dst = some d ∧ d < σ.n ∧ (F.contains (k + i) = true → y = (puts σ (vs.take i)).get d) ∧ (F.contains (k + i) = false → StepOk P o' d (puts σ (vs.take i)).ev σ.boxes y) := by
        intro d y g1 g2 g3 g4 g5
        obtain ⟨vs, k1, k2, k3⟩ := walkX_vals l (k + 1) _ (by omega) (by simp at h2; omega) g5
        refine ⟨(d, y) :: vs, by simp [k1]; omega, by rw [e, List.drop_succ_cons]; exact k2, fun i o' hi ho => ?_⟩
        cases i with
        | zero =>
          simp at ho; subst ho
          exact ⟨d, y, rfl, g1, g2, g3, g4⟩
        | succ i =>
          obtain ⟨d', y', f1, f2, f3, f4, f5⟩ := k3 i o' (by omega) (by simpa using ho)
          rw [put_n] at f3; rw [put_boxes] at f5
          rw [show k + 1 + i = k + (i + 1) by omega] at f4 f5
          exact ⟨d', y', by simpa using f1, f2, f3, f4, f5⟩
      split at h
      · rename_i hF
        split at h
        · rename_i d hd
          exact wrap hd h.1 (fun _ => rfl) (fun hf => by rw [hF] at hf; cases hf) h.2
        · exact h.elim
      · rename_i hF
        obtain ⟨d, y, g1, g2, g3, g4⟩ := headOp_sound h
        exact wrap g1 g2 (fun hf => absurd hf hF) (fun _ => g4) g3
    · have : m = k := by omega
      subst this
      exact ⟨[], by simp, by simpa [puts] using h, fun i o hi ho => by omega⟩

/-- the names, taken first -/
def frontsA (P : Program) (ops : Array Oper) : List Nat → St → (St → Prop) → Prop
  | [], σ, K => K σ
  | j :: F, σ, K => match ops[j]? with
    | some ⟨some d, op, _, _, _, _⟩ => d < σ.n ∧ frontV P op σ fun y => frontsA P ops F (σ.put (some d) y) K
    | _ => False

def noSel (o : Oper) : Bool :=
  match o.op with
  | .select _ _ => false
  | _ => true
theorem noSel_of {o : Oper} (h : noSel o = true) : ∀ cs b, o.op ≠ .select cs b := fun cs b he => by simp [noSel, he] at h

def frontOk (ops : Array Oper) (j : Nat) (p : Oper) : Bool :=
  p.guard.isNone && noSel p && match p.dst with
  | none => false
  | some d => (List.range ops.size).all fun i => i == j || match ops[i]? with
    | none => false
    | some o => noSel o && (o.dst != some d && ((!(slotsOf o).contains d || reach ops ops.size i j) && ((match o.dst with
      | none => true
      | some s => !(slotsOf p).contains s || (reach ops ops.size j i || reach ops ops.size i j)) && match o.guard with
      | none => true
      | some (g, _) => guardSlot ops g != some d)))
/-- the names come in a row that their edges allow -/
def namesOk (ops : Array Oper) : List Nat → List Nat → Bool
  | _, [] => true
  | done, j :: F => !done.contains j && (match ops[j]? with | some p => (edges p).all (fun k => done.contains k) | none => false) && namesOk ops (done ++ [j]) F
def drawOkX (ops : Array Oper) (F : List Nat) (m : Nat) : Bool :=
  decide (m ≤ ops.size) && (namesOk ops [] F && (List.range ops.size).all fun i => match ops[i]? with
    | none => false
    | some o => (edges o).all (fun k => decide (k < i)) && if F.contains i then frontOk ops i o else if i < m then headOk ops m i o else (List.range i).all fun j => F.contains j || reach ops ops.size i j)

theorem frontOk_front {j : Nat} {p : Oper} (hj : ops[j]? = some p) (h : frontOk ops j p = true) : ∃ d, Front ops j p d := by
  simp only [frontOk, Bool.and_eq_true] at h
  obtain ⟨⟨h1, h2⟩, h3⟩ := h
  split at h3
  · cases h3
  · rename_i d hd
    refine ⟨d, hj, by simpa using h1, hd, noSel_of h2, fun i o ho hij => ?_⟩
    simp only [List.all_eq_true, List.mem_range] at h3
    have := h3 i (Array.getElem?_eq_some_iff.1 ho).1
    simp only [ho, Bool.or_eq_true, beq_iff_eq, hij, false_or, Bool.and_eq_true, bne_iff_ne, ne_eq, Bool.not_eq_true'] at this
    obtain ⟨g1, g2, g3, g4, g5⟩ := this
    refine ⟨noSel_of g1, g2, fun hm => ?_, fun s hs hm => ?_, fun g b hg => ?_⟩
    · exact g3.resolve_left (by simpa using hm)
    · rw [hs] at g4
      simp only [Bool.or_eq_true, Bool.not_eq_true'] at g4
      exact g4.resolve_left (by simpa using hm)
    · rw [hg] at g5; simpa using g5

theorem drawOkX_plan {F : List Nat} {m : Nat} (h : drawOkX ops F m = true) : PlanX ops F m ∧ namesOk ops [] F = true := by
  simp only [drawOkX, Bool.and_eq_true, decide_eq_true_eq, List.all_eq_true, List.mem_range] at h
  obtain ⟨h1, h0, h2⟩ := h
  have hof : ∀ i o, ops[i]? = some o → (∀ k ∈ edges o, k < i) ∧ (if F.contains i = true then frontOk ops i o else if i < m then headOk ops m i o else (List.range i).all fun j => F.contains j || reach ops ops.size i j) = true := fun i o ho => by
    have := h2 i (Array.getElem?_eq_some_iff.1 ho).1
    rw [ho] at this
    simp only [Bool.and_eq_true, List.all_eq_true, decide_eq_true_eq] at this
    exact this
  refine ⟨⟨h1, fun i o ho => (hof i o ho).1, fun i o ho hi hF => ?_, fun i o ho hi hF j hj hjF => ?_, fun i o ho hF => ?_⟩, h0⟩
  · have := (hof i o ho).2
    rw [if_neg (by rw [hF]; simp), if_pos hi] at this
    simp only [headOk, Bool.and_eq_true] at this
    obtain ⟨⟨g1, _⟩, g3⟩ := this
    refine ⟨by simpa using g1, ?_⟩
    split at g3
    · cases g3
    · rename_i d hd
      simp only [Bool.and_eq_true, List.all_eq_true, List.mem_range, Bool.not_eq_true', Bool.or_eq_true, beq_iff_eq] at g3
      refine ⟨d, hd, by simpa using g3.1, fun j p s hj hji hp hs => ?_⟩
      have := (g3.2 j hj).resolve_left hji
      simp only [hp, hs, Bool.and_eq_true, bne_iff_ne, ne_eq, Bool.or_eq_true, Bool.not_eq_true'] at this
      refine ⟨this.1, fun hm => ?_⟩
      have h' := this.2.resolve_left (by simpa using hm)
      split at h'
      · rename_i hlt; rw [if_pos hlt]; exact h'
      · rename_i hlt; rw [if_neg hlt]; exact h'
  · have := (hof i o ho).2
    rw [if_neg (by rw [hF]; simp), if_neg (by omega)] at this
    simp only [List.all_eq_true, List.mem_range, Bool.or_eq_true] at this
    exact (this j hj).resolve_left (by rw [hjF]; simp)
  · have := (hof i o ho).2
    rw [if_pos hF] at this
    exact frontOk_front ho this

theorem fronts_run {Q : Exit → Act → World → Prop} (hlt : ∀ i o, ops[i]? = some o → ∀ k ∈ edges o, k < i) (hQ : ∀ e a w, e ≠ .normal → ¬ Q e a w) {G0 : Orig} {w0 : World} {K : St → Prop} :
    ∀ (F done : List Nat) (σ : St) (G : Nat → Status) (a : Act) (w : World) (listed : Array Bool) (U : List Nat), Left ops listed U → Closed ops (fun k => listed.getD k false) → (∀ i, i < ops.size → (listed.getD i false = true ↔ done.contains i = true)) →
      namesOk ops done F = true → (∀ j ∈ F, ∀ p, ops[j]? = some p → ∃ d, Front ops j p d) → frontsA P ops F σ K → SRel G0 w0 σ G a w →
      (∀ σ' a' listed' U', K σ' → Left ops listed' U' → Closed ops (fun k => listed'.getD k false) → (∀ i, i < ops.size → (listed'.getD i false = true ↔ (done ++ F).contains i = true)) → SRel G0 w0 σ' G a' w → wpAny P .any ops Q U'.length listed' a' w) →
      wpAny P .any ops Q U.length listed a w
  | [], done, σ, G, a, w, listed, U, hl, hc, hd, _, _, h, hs, hk => hk σ a listed U h hl hc (by simpa using hd) hs
  | j :: F, done, σ, G, a, w, listed, U, hl, hc, hd, hr, hf, h, hs, hk => by
    simp only [frontsA] at h
    split at h
    · rename_i d op T pos af g hj
      obtain ⟨hdn, h⟩ := h
      simp only [namesOk, hj, Bool.and_eq_true, Bool.not_eq_true', List.all_eq_true] at hr
      obtain ⟨⟨hr1, hr2⟩, hr3⟩ := hr
      obtain ⟨d', hfr⟩ := hf j (List.mem_cons_self ..) _ hj
      obtain rfl : d = d' := by simpa using hfr.dst
      have hjs := (Array.getElem?_eq_some_iff.1 hj).1
      have hjf : listed.getD j false = false := by
        cases hb : listed.getD j false
        · rfl
        · rw [hd j hjs, hr1] at hb; cases hb
      have hmem : j ∈ U := (hl.mem j).2 ⟨hjs, hjf⟩
      obtain ⟨l1, l2⟩ := hl.step hmem
      have hsz : j < listed.size := by rw [hl.size]; exact hjs
      have hedge : ∀ k ∈ edges (⟨some d, op, T, pos, af, g⟩ : Oper), listed.getD k false = true := fun k hk => by
        have hkd := hr2 k hk
        exact (hd k (by have := hlt j _ hj k hk; omega)).2 hkd
      obtain ⟨y, hK, hy⟩ := frontV_sound (p := ⟨some d, op, T, pos, af, g⟩) h
      obtain ⟨v, hv, hex⟩ := hy G a w hs.good (fun x => hs.ev x)
      have hrun := fronts_run hlt hQ F (done ++ [j]) (σ.put (some d) y) G (a.put (some d) v) w (listed.setIfInBounds j true) (U.erase j) l1 (hc.step hsz hj hedge) (fun i hi => by
          rw [set_getD hsz]
          by_cases hij : j = i
          · subst hij; simp
          · rw [if_neg hij, hd i hi]; simp [Ne.symm hij]) hr3 (fun j' hj' => hf j' (List.mem_cons_of_mem _ hj')) hK
        (hs.add (.refl G w) hs.good (fun _ _ h => h) (by simp [dstOk, hdn]) hv)
        (fun σ' a' listed' U' k1 k2 k3 k4 k5 => hk σ' a' listed' U' k1 k2 k3 (by simpa using k4) k5)
      rw [← l2]
      exact front_run hQ hfr _ _ _ _ v hl.size hc ((ready_iff hl.size).2 ⟨_, hj, hjf, hedge⟩) hex hrun
    · exact h.elim

theorem wpAny_normal {Q : Exit → Act → World → Prop} : ∀ (fuel : Nat) (listed : Array Bool) (a : Act) (w : World), wpAny P .any ops (fun e a w => e = .normal ∧ Q e a w) fuel listed a w → wpAny P .any ops Q fuel listed a w := by
  have hop : ∀ {i : Nat} {K K' : Act → World → Prop} {a : Act} {w : World}, (∀ a w, K a w → K' a w) → Go.wpOp P ops (fun e a w => e = .normal ∧ Q e a w) i K a w → Go.wpOp P ops Q i K' a w := by
    intro i K K' a w hk h
    have hout : ¬ LetsOut (fun e a w => e = .normal ∧ Q e a w) := fun ⟨_, _, h, _⟩ => by cases h
    unfold Go.wpOp at h ⊢
    split
    · rename_i ho; simp only [ho] at h; exact hk _ _ h
    · rename_i o ho
      simp only [ho] at h
      split
      · rename_i hw
        simp only [hw, if_true] at h
        rcases h with h | ⟨_, h⟩
        · refine .inl ?_
          simp only [Oper.wp] at h ⊢
          generalize (execOp a.eval o).run P w = r at *
          cases r with
          | ok n w' =>
            cases n <;> simp only [Oper.upon] at h ⊢
            case value => exact hk _ _ h
            case skip => exact hk _ _ h
            case defer => exact hk _ _ h
            case enter =>
              refine Calls.mono h fun e w'' h => ?_
              rcases e with _ | _ | _
              · exact hk _ _ h
              · exact absurd h.1 (by simp)
              · exact absurd h hout
            case row => exact Rows.mono h fun _ _ h => hk _ _ h
          | halt x w' =>
            cases x <;> simp only [Oper.upon] at h ⊢
            exact absurd h.1 (by simp)
        · exact absurd h hout
      · rename_i hw
        simp only [hw] at h
        exact hk _ _ h
  intro fuel
  induction fuel with
  | zero => exact fun listed a w h => ⟨h.1, h.2.2⟩
  | succ fuel ih => exact fun listed a w h => ⟨fun hr => (h.1 hr).2, fun i hi => hop (fun a w h => ih _ a w h) (h.2 i hi)⟩

/-- A DRAWN REGION, some of whose operations (those of F) only name places: these are walked first, then the first m others, then the rest. -/
theorem DrawK.front {l : List Oper} {σ : St} {K : St → Prop} (F : List Nat) (m : Nat) (hm : P.follows .mixedOrders = true) (hok : drawOkX l.toArray F m = true)
    (h : andK (freeAll σ (crs (l.take m)) = true) (frontsA P l.toArray F σ fun σ' => walkX P l.toArray F m 0 l σ' K)) : DrawK P l.toArray σ K := by
  intro G0 w0 G a w id Q h0 hs hQ
  obtain ⟨hfree, h⟩ := h
  obtain ⟨hp, hrow⟩ := drawOkX_plan hok
  refine wp_region_any hm (wpAny_normal _ _ _ _ ?_)
  obtain ⟨G', g1, g2, _⟩ := (hs.drawn (w.drawn + 1)).freshAll h0 (crs (l.take m)) G hfree
  have hgd : ∀ i, (Array.replicate l.toArray.size false).getD i false = false := fun i => by
    by_cases hi : i < l.toArray.size
    · simp at hi; simp [hi]
    · simp at hi; simp [hi]
  have hml : m ≤ l.length := by simpa using hp.le
  have := fronts_run (P := P) (ops := l.toArray) (Q := fun e a w => e = .normal ∧ Q e a w) hp.lt (fun e a w he h => he h.1) (G0 := G0) (w0 := w0) (K := fun σ' => walkX P l.toArray F m 0 l σ' K) F [] σ G' a _ (Array.replicate l.toArray.size false) (List.range l.toArray.size)
    ⟨by simp, List.nodup_range, fun i => by rw [List.mem_range, hgd]; simp⟩ (fun i o _ hi => absurd (show (Array.replicate l.toArray.size false).getD i false = true from hi) (by rw [hgd]; simp)) (fun i _ => by rw [hgd]; simp) hrow
    (fun j hj p hjp => hp.front j p hjp (by simpa using hj)) h g1 ?_
  · simpa using this
  intro σ' a' listed' U' hK k1 k2 k3 k4
  obtain ⟨vs, v1, v2, v3⟩ := walkX_vals l 0 σ' (by omega) (by omega) hK
  have hst : ∀ i o, i < m → l.toArray[i]? = some o → ∃ d y, vs[i]? = some (d, y) ∧ o.dst = some d ∧ d < σ'.n ∧ (F.contains i = true → y = (puts σ' (vs.take i)).get d) ∧ (F.contains i = false → StepOk P o d (puts σ' (vs.take i)).ev σ'.boxes y) := fun i o hi ho => by
    have := v3 i o (by omega) (by simpa using ho)
    simpa using this
  have hvl : vs.length = m := by omega
  have hap : Apart vs := by
    intro i j d y d' y' h1 h2 hij
    have hil : i < m := by have := (List.getElem?_eq_some_iff.1 h1).1; omega
    have hjl : j < m := by have := (List.getElem?_eq_some_iff.1 h2).1; omega
    obtain ⟨oi, hoi⟩ : ∃ p, l.toArray[i]? = some p := ⟨l[i]'(by omega), by simp [show i < l.length by omega]⟩
    obtain ⟨oj, hoj⟩ : ∃ p, l.toArray[j]? = some p := ⟨l[j]'(by omega), by simp [show j < l.length by omega]⟩
    obtain ⟨_, _, k1, k2, _⟩ := hst i oi hil hoi
    obtain ⟨_, _, k3, k4, _⟩ := hst j oj hjl hoj
    rw [h1] at k1; cases k1
    rw [h2] at k3; cases k3
    cases hjF : F.contains j
    · obtain ⟨_, d1, e1, _, e2⟩ := hp.head j oj hoj hjl hjF
      rw [k4] at e1; cases e1
      exact (e2 i oi d hil hij hoi k2).1
    · obtain ⟨dj, hfj⟩ := hp.front j oj hoj hjF
      have e1 := hfj.dst
      rw [k4] at e1; cases e1
      have := (hfj.other i oi hoi hij).2.1
      rw [k2] at this
      exact fun h => this (by rw [h])
  refine head_runX (P := P) (σ := σ') (vs := vs) hp h0 (fun σ'' G'' a'' w'' hk hs => ⟨rfl, hQ σ'' G'' a'' w'' hk hs⟩) hvl hap (by simpa using v2) (fun i o hi ho => ?_) U'.length listed' U' σ' G' a' _ k1 rfl (fun i hi _ => by simpa using k3 i hi) (fun i hi hF => (k3 i hi).2 (by simpa using hF)) k2
    ⟨rfl, rfl, fun i d y hi => ?_, fun _ _ => rfl⟩ k4 (fun i o d ho hi hd hcr _ => ?_)
  · obtain ⟨d, y, e1, e2, e3, _, e4⟩ := hst i o hi ho
    exact ⟨d, y, e1, e2, e3, e4⟩
  · have him : i < m := by have := (List.getElem?_eq_some_iff.1 hi).1; omega
    obtain ⟨oi, hoi⟩ : ∃ p, l.toArray[i]? = some p := ⟨l[i]'(by omega), by simp [show i < l.length by omega]⟩
    obtain ⟨d', y', e1, e2, e3, e4, _⟩ := hst i oi him hoi
    rw [hi] at e1; cases e1
    split
    · rename_i hli
      have hF : F.contains i = true := by simpa using (k3 i (by simp; omega)).1 hli
      have := (puts_at i vs σ' hap).dst i d y hi
      rw [if_neg (by simp)] at this
      rw [← this]; exact (e4 hF).symm
    · rfl
  · refine g2 d ?_
    rw [crs_eq]
    refine List.mem_filterMap.2 ⟨o, ?_, by rw [if_pos hcr]; exact hd⟩
    refine List.mem_of_getElem? (i := i) ?_
    rw [List.getElem?_take, if_pos hi]; simpa using ho
end

/-! ### rules -/
section
variable {P : Program} {n : Nat} {t : List (Nat × AV)} {b : List (List AV)} {F : List Nat} {m k j : Nat} {ops : Array Oper} {l : List Oper}
variable {d : Nat} {T : TypeId} {pos : String} {af : Array Edge} {g : Option (Nat × Bool)} {K : St → Prop}
def fAt (P : Program) (o : Option Oper) (σ : St) (K : St → Prop) : Prop :=
  match o with
  | some ⟨some d, op, _, _, _, _⟩ => d < σ.n ∧ frontV P op σ fun y => K (σ.put (some d) y)
  | _ => False
@[congr] theorem fAt_congr {o o' : Option Oper} {K : St → Prop} {σ σ' : St} (h1 : o = o') (h : mkd σ = σ') : fAt P o σ K = fAt P o' σ' K := by subst_vars; rfl
@[congr] theorem frontsA_congr {K : St → Prop} {σ σ' : St} (h : mkd σ = σ') : frontsA P ops F σ K = frontsA P ops F σ' K := by subst_vars; rfl
@[congr] theorem walkX_congr {K : St → Prop} {σ σ' : St} {k' : Nat} (h1 : k = k') (h : mkd σ = σ') : walkX P ops F m k l σ K = walkX P ops F m k' l σ' K := by subst_vars; rfl
@[congr] theorem walkT_congr {K : St → Prop} {σ σ' : St} {k' : Nat} (h1 : k = k') (h : mkd σ = σ') : walkT P ops F k l σ K = walkT P ops F k' l σ' K := by subst_vars; rfl
@[go_sem] theorem frontsA_nil : frontsA P ops [] ⟨n, t, b⟩ K = K ⟨n, t, b⟩ := rfl
@[go_sem] theorem frontsA_cons : frontsA P l.toArray (j :: F) ⟨n, t, b⟩ K = fAt P l[j]? ⟨n, t, b⟩ fun σ' => frontsA P l.toArray F σ' K := by
  simp only [frontsA, fAt, List.getElem?_toArray]
@[go_sem] theorem fAt_move {x : Operand} : fAt P (some ⟨some d, .move x, T, pos, af, g⟩) ⟨n, t, b⟩ K = andK (d < n) (K (St.put ⟨n, t, b⟩ (some d) (St.ev ⟨n, t, b⟩ x))) := rfl
@[go_sem] theorem fAt_indexAddr {T' : TypeId} {x i : Operand} : fAt P (some ⟨some d, .indexAddr T' x i, T, pos, af, g⟩) ⟨n, t, b⟩ K = andK (d < n) (andK (isSlice (St.ev ⟨n, t, b⟩ x) = true) (evIndexAddr P T' (St.ev ⟨n, t, b⟩ x) (St.ev ⟨n, t, b⟩ i) fun r => K (St.put ⟨n, t, b⟩ (some d) r))) := by simp [fAt, frontV, andK]

def selK (c : Bool) (p q : Prop) : Prop := match c with | true => p | false => q
@[congr] theorem selK_congr {c c' : Bool} {p q : Prop} (h : mkd c = c') : selK c p q = selK c' p q := by subst_vars; rfl
@[go_sem] theorem selK_true {p q : Prop} : selK true p q = p := rfl
@[go_sem] theorem selK_false {p q : Prop} : selK false p q = q := rfl
theorem selK_ite {c : Bool} {p q : Prop} : selK c p q = if c = true then p else q := by cases c <;> simp [selK]
theorem selK_dec {c : Prop} [Decidable c] {p q : Prop} : selK (decide c) p q = if c then p else q := by by_cases c <;> simp [selK, *]
@[go_sem] theorem walkT_nil : walkT P ops F k [] ⟨n, t, b⟩ K = K ⟨n, t, b⟩ := rfl
@[go_sem] theorem walkT_cons {o : Oper} : walkT P ops F k (o :: l) ⟨n, t, b⟩ K = selK (F.contains k) (walkT P ops F (k + 1) l ⟨n, t, b⟩ K) (opsA P ops [o] ⟨n, t, b⟩ fun σ' => walkT P ops F (k + 1) l σ' K) := by rw [selK_ite]; rfl
@[go_sem] theorem walkX_nil : walkX P ops F m k [] ⟨n, t, b⟩ K = K ⟨n, t, b⟩ := rfl
@[go_sem] theorem walkX_some {op : Op} : walkX P ops F m k (⟨some d, op, T, pos, af, g⟩ :: l) ⟨n, t, b⟩ K = selK (decide (k < m)) (selK (F.contains k) (andK (d < n) (walkX P ops F m (k + 1) l (St.put ⟨n, t, b⟩ (some d) (St.ev ⟨n, t, b⟩ (.tmp d))) K)) (headOp P ⟨some d, op, T, pos, af, g⟩ ⟨n, t, b⟩ fun σ' => walkX P ops F m (k + 1) l σ' K)) (walkT P ops F k (⟨some d, op, T, pos, af, g⟩ :: l) ⟨n, t, b⟩ K) := by rw [selK_dec, selK_ite]; rfl
@[go_sem] theorem walkX_none {op : Op} : walkX P ops F m k (⟨none, op, T, pos, af, g⟩ :: l) ⟨n, t, b⟩ K = selK (decide (k < m)) (selK (F.contains k) False (headOp P ⟨none, op, T, pos, af, g⟩ ⟨n, t, b⟩ fun σ' => walkX P ops F m (k + 1) l σ' K)) (walkT P ops F k (⟨none, op, T, pos, af, g⟩ :: l) ⟨n, t, b⟩ K) := by rw [selK_dec, selK_ite]; rfl
attribute [go_sem] decide_true decide_false isSlice List.getElem?_cons_succ List.getElem?_cons_zero
end
end Go.AM

/-! ## W7 -/
namespace Go.AM
open Go Go.Proofs Go.RowKit

def vq (x : Int) : AV := .sc (.int .u64 x)
attribute [go_sem] vq

set_option maxRecDepth 100000 in
theorem con_mul64 (n : Nat) (hn : n ≤ 8) : Con Try.prog 66 [vq 1, vq n] [] fun r _ => r = .tup [vq 0, vq n] := by
  refine Con.intro Try.func66 rfl Try.ntmps66 Try.results66 (by kernel_rfl) (by simp) 0 (by simp) ?_
  simp only [go_sem]
  have h : n = 0 ∨ n = 1 ∨ n = 2 ∨ n = 3 ∨ n = 4 ∨ n = 5 ∨ n = 6 ∨ n = 7 ∨ n = 8 := by omega
  rcases h with rfl | rfl | rfl | rfl | rfl | rfl | rfl | rfl | rfl <;> (show AV.tup _ = AV.tup _; first | rfl | kernel_rfl)

set_option maxRecDepth 100000 in
theorem con_mul (n : Nat) (hn : n ≤ 8) : Con Try.prog 56 [vq 1, vq n] [] fun r _ => r = .tup [vq 0, vq n] := by
  refine Con.intro Try.func56 rfl Try.ntmps56 Try.results56 (by kernel_rfl) (by simp) 0 (by simp) ?_
  simp only [go_sem]
  refine CallU.free (con_mul64 n hn) (by simp only [go_sem]) (by simp only [go_sem]) ?_
  rintro r bx rfl
  simp only [go_sem]

theorem rep_false (n : Nat) : List.replicate n (AV.sc (.bool false)) = (List.replicate n false).map vb := by simp [vb]
theorem leafAll_vb (l : List Bool) : leafAll (l.map vb) = true := by simp [leafAll, vb, AV.leafy]

theorem setSeg_true {l m : List Bool} {k : Nat} (hf : k + m.length ≤ l.length) (hl : ∀ j, j < k → l[j]! = true) (hm : ∀ x ∈ m, x = true) : ∀ j, j < k + m.length → (setSeg l k m)[j]! = true := by
  intro j hj
  rw [setSeg_eq _ _ _ hf]
  have hk : k ≤ l.length := by omega
  by_cases h : j < k
  · have h2 := hl j h
    rw [getElem!_pos l j (by omega)] at h2
    rw [List.append_assoc, getElem!_pos _ j (by simp; omega), List.getElem_append_left (by simp; omega), List.getElem_take]; exact h2
  · rw [getElem!_pos _ j (by simp; omega), List.getElem_append_left (by simp; omega), List.getElem_append_right (by simp; omega)]
    exact hm _ (List.getElem_mem _)

set_option maxRecDepth 100000 in
theorem con_repeat (n : Nat) (h1 : 1 ≤ n) (hn : n ≤ 8) : Con Try.prog 36 [vbl 0 [true], vi n] [] fun r _ => r = .sl 2 1 ((List.replicate n true).map vb) := by
  refine Con.intro Try.func36 rfl Try.ntmps36 Try.results36 (by kernel_rfl) (by simp) 0 (by simp) ?_
  have g0 : ¬ (n : Int) < 0 := by omega
  have w1 : IntKind.u64.wrap (1 : Int) = 1 := by kernel_rfl
  have w2 : IntKind.u64.wrap (n : Int) = n := by rw [IntKind.wrap_u64]; omega
  have w3 : IntKind.i64.wrap (n : Int) = n := wrap_in (by omega) (by omega)
  have g1 : ¬ (9223372036854775807 : Int) < n := by omega
  simp only [go_sem, g0, w1, w2]
  refine CallU.free (con_mul n hn) (by simp only [go_sem]) (by simp only [go_sem]) ?_
  rintro r bx rfl
  have t1 : List.take (n - 0) [AV.sc (Value.bool true)] = [true].map vb := by
    rw [List.take_of_length_le (by simp; omega)]; simp [vb]
  have hl1 : leafAll [AV.sc (Value.bool true)] = true := rfl
  have m1 : min 1 (n - 0) = 1 := by omega
  simp only [go_sem, g1, w3, rep_false, List.length_replicate, t1, m1]
  refine ⟨Nat.le_refl _, by omega, by omega, by omega, ?_⟩
  refine LoopK.intro (fun p : List Bool × Nat => ⟨48, [(4, .nil), (7, .sl 1984 1 (p.1.map vb)), (8, .sc (.int .i64 p.2))], []⟩)
    (fun p => n - p.2) (fun p => 1 ≤ p.2 ∧ p.2 ≤ n ∧ p.1.length = n ∧ ∀ j, j < p.2 → p.1[j]! = true) (setSeg (List.replicate n false) 0 [true], 1) ⟨by simp, h1, by simp [setSeg_length], fun j hj => ?_⟩ ?_ ?_
  · have : j = 0 := by simp at hj; exact hj
    subst this
    have h0 : 0 < n := by omega
    simp [setSeg, h0]
  · simp only [go_sem, setSeg, List.map_set]
  rintro ⟨l, k⟩ ⟨k1, k2, k3, k4⟩
  simp only at k1 k2 k3 k4
  by_cases hk : k < n
  case neg =>
    have e : l = List.replicate n true := by
      apply List.ext_getElem?
      intro j
      by_cases hj : j < n
      · have := k4 j (by omega)
        rw [List.getElem?_replicate, if_pos hj, ← this]; simp [k3, hj]
      · rw [List.getElem?_eq_none (by omega), List.getElem?_eq_none (by simp; omega)]
    simp only [go_sem, hk, k3]
    rw [e]
  simp only [go_sem, hk, k3]
  refine DrawK.front [0] 7 mixed (by kernel_rfl) ?_
  have q0 : ¬ k = 0 := by omega
  have tk : ∀ m : Nat, List.take m (List.map vb l) = (List.take m l).map vb := fun m => List.map_take.symm
  have tk2 : List.take (n - k) (List.map vb (List.take k l)) = ((l.take k).take (n - k)).map vb := List.map_take.symm
  have hmin : min (min k n) (n - k) = min k (n - k) := by omega
  have hw : IntKind.i64.wrap (k + (min k (n - k) : Nat)) = (k + min k (n - k) : Nat) := by rw [wrap_in (by omega) (by omega)]; omega
  simp only [go_sem, hk, k3, k2, List.length_take, tk, tk2, setSeg_map, hmin, hw]
  have hml : ((l.take k).take (n - k)).length = min k (n - k) := by simp only [List.length_take]; omega
  have hmt : ∀ x ∈ (l.take k).take (n - k), x = true := fun x hx => by
    have hx := List.mem_of_mem_take hx
    obtain ⟨j, hj⟩ := List.getElem?_of_mem hx
    rw [List.getElem?_take] at hj
    split at hj
    · rename_i hjk
      have := k4 j hjk
      rw [bang_of hj] at this; exact this
    · cases hj
  have hset := setSeg_true (l := l) (m := (l.take k).take (n - k)) (k := k) (by rw [hml]; omega) k4 hmt
  rw [hml] at hset
  refine ⟨by omega, leafAll_vb _, roundK.intro (setSeg l k ((l.take k).take (n - k)), k + min k (n - k)) ⟨by show 1 ≤ k + min k (n - k); omega, by show k + min k (n - k) ≤ n; omega, by show (setSeg _ _ _).length = n; rw [setSeg_length]; exact k3, hset⟩ (by show n - (k + min k (n - k)) < n - k; omega) ?_⟩
  simp only [go_sem]
end Go.AM
