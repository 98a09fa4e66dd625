/-
  The abstract machine: a drawn region's head, and calls, as rules.
-/
import Derived.Test.YthmjnbmooedfjaaAmQ
namespace Go.AM
open Go.RowKit

section
variable {P : Program} {n : Nat} {t : List (Nat × AV)} {b : List (List AV)}
variable {d : Nat} {T : TypeId} {pos : String} {af : Array Edge} {g : Option (Nat × Bool)} {K : St → Prop}
@[congr] theorem headOp_congr {o : Oper} {K : St → Prop} {σ σ' : St} (h : mkd σ = σ') : headOp P o σ K = headOp P o σ' K := by subst_vars; rfl
@[congr] theorem CallY_congr {f : FuncId} {args args' : List AV} {d : Nat} {K : St → Prop} {σ σ' : St} (h1 : mkd args = args') (h : σ = σ') : CallY P f args d σ K = CallY P f args' d σ' K := by subst_vars; rfl
@[go_sem] theorem knownB_bool {c : Bool} : knownB (.sc (.bool c)) = some c := rfl
@[go_sem] theorem headOp_move {x : Operand} : headOp P ⟨some d, .move x, T, pos, af, g⟩ ⟨n, t, b⟩ K = andK (d < n) (K (St.put ⟨n, t, b⟩ (some d) (typed P d T (St.ev ⟨n, t, b⟩ x)))) := rfl
@[go_sem] theorem headOp_assign {x : Operand} : headOp P ⟨some d, .assign x, T, pos, af, g⟩ ⟨n, t, b⟩ K = andK (d < n) (K (St.put ⟨n, t, b⟩ (some d) (typed P d T (St.ev ⟨n, t, b⟩ x)))) := rfl
@[go_sem] theorem headOp_pick {c x y : Operand} : headOp P ⟨some d, .pick c x y, T, pos, af, g⟩ ⟨n, t, b⟩ K = andK (d < n) (onBool (St.ev ⟨n, t, b⟩ c) fun v => both v (K (St.put ⟨n, t, b⟩ (some d) (St.ev ⟨n, t, b⟩ x))) (K (St.put ⟨n, t, b⟩ (some d) (St.ev ⟨n, t, b⟩ y)))) := by
  simp only [headOp, evOp, andK, onBool, both]
  cases St.ev ⟨n, t, b⟩ c <;> simp
  rename_i v; cases v <;> simp
  rename_i v; intro _; cases v <;> simp
@[go_sem] theorem headOp_load {T' : TypeId} {x : Operand} : headOp P ⟨some d, .load T' x, T, pos, af, g⟩ ⟨n, t, b⟩ K = andK (d < n) (evLoad P b T' (St.ev ⟨n, t, b⟩ x) fun r => K (St.put ⟨n, t, b⟩ (some d) r)) := by simp [headOp, evOp, andK, evParts_eq, evAll_eq, allFz_eq, List.all_map, Function.comp_def]
@[go_sem] theorem headOp_nilCheck {x : Operand} : headOp P ⟨some d, .nilCheck x, T, pos, af, g⟩ ⟨n, t, b⟩ K = andK (d < n) (andK ((isPtr (St.ev ⟨n, t, b⟩ x) || isFn (St.ev ⟨n, t, b⟩ x)) = true) (K (St.put ⟨n, t, b⟩ (some d) (St.ev ⟨n, t, b⟩ x)))) := by simp [headOp, evOp, andK, evParts_eq, evAll_eq, allFz_eq, List.all_map, Function.comp_def]
@[go_sem] theorem headOp_binOp {op : BinOp} {T' T'' : TypeId} {x y : Operand} : headOp P ⟨some d, .binOp op T' x y T'', T, pos, af, g⟩ ⟨n, t, b⟩ K = andK (d < n) (evBinOp P op T' (St.ev ⟨n, t, b⟩ x) (St.ev ⟨n, t, b⟩ y) fun r => K (St.put ⟨n, t, b⟩ (some d) r)) := by simp [headOp, evOp, andK, evParts_eq, evAll_eq, allFz_eq, List.all_map, Function.comp_def]
@[go_sem] theorem headOp_unOp {op : UnOp} {T' : TypeId} {x : Operand} : headOp P ⟨some d, .unOp op T' x, T, pos, af, g⟩ ⟨n, t, b⟩ K = andK (d < n) (evUn op (St.ev ⟨n, t, b⟩ x) fun r => K (St.put ⟨n, t, b⟩ (some d) r)) := by simp [headOp, evOp, andK, evParts_eq, evAll_eq, allFz_eq, List.all_map, Function.comp_def]
@[go_sem] theorem headOp_convert {T' T'' : TypeId} {x : Operand} : headOp P ⟨some d, .convert T' T'' x, T, pos, af, g⟩ ⟨n, t, b⟩ K = andK (d < n) (evConv P T' T'' (St.ev ⟨n, t, b⟩ x) fun r => K (St.put ⟨n, t, b⟩ (some d) r)) := by simp [headOp, evOp, andK, evParts_eq, evAll_eq, allFz_eq, List.all_map, Function.comp_def]
@[go_sem] theorem headOp_slice {T' : TypeId} {x : Operand} {lo hi mx : Option Operand} : headOp P ⟨some d, .slice T' x lo hi mx, T, pos, af, g⟩ ⟨n, t, b⟩ K = andK (d < n) (evSlice P T' (St.ev ⟨n, t, b⟩ x) (lo.map (St.ev ⟨n, t, b⟩)) (hi.map (St.ev ⟨n, t, b⟩)) (mx.map (St.ev ⟨n, t, b⟩)) fun r => K (St.put ⟨n, t, b⟩ (some d) r)) := by simp [headOp, evOp, andK, evParts_eq, evAll_eq, allFz_eq, List.all_map, Function.comp_def]
@[go_sem] theorem headOp_fieldAddr {T' : TypeId} {x : Operand} {f : Nat} : headOp P ⟨some d, .fieldAddr T' x f, T, pos, af, g⟩ ⟨n, t, b⟩ K = andK (d < n) (evFieldAddr P T' (St.ev ⟨n, t, b⟩ x) f fun r => K (St.put ⟨n, t, b⟩ (some d) r)) := by simp [headOp, evOp, andK, evParts_eq, evAll_eq, allFz_eq, List.all_map, Function.comp_def]
@[go_sem] theorem headOp_field {T' : TypeId} {x : Operand} {f : Nat} : headOp P ⟨some d, .field T' x f, T, pos, af, g⟩ ⟨n, t, b⟩ K = andK (d < n) (evField P T' (St.ev ⟨n, t, b⟩ x) f fun r => K (St.put ⟨n, t, b⟩ (some d) r)) := by simp [headOp, evOp, andK, evParts_eq, evAll_eq, allFz_eq, List.all_map, Function.comp_def]
@[go_sem] theorem headOp_indexAddr {T' : TypeId} {x i : Operand} : headOp P ⟨some d, .indexAddr T' x i, T, pos, af, g⟩ ⟨n, t, b⟩ K = andK (d < n) (evIndexAddr P T' (St.ev ⟨n, t, b⟩ x) (St.ev ⟨n, t, b⟩ i) fun r => K (St.put ⟨n, t, b⟩ (some d) r)) := by simp [headOp, evOp, andK, evParts_eq, evAll_eq, allFz_eq, List.all_map, Function.comp_def]
@[go_sem] theorem headOp_index {T' : TypeId} {x i : Operand} : headOp P ⟨some d, .index T' x i, T, pos, af, g⟩ ⟨n, t, b⟩ K = andK (d < n) (evIndex P T' (St.ev ⟨n, t, b⟩ x) (St.ev ⟨n, t, b⟩ i) fun r => K (St.put ⟨n, t, b⟩ (some d) r)) := by simp [headOp, evOp, andK, evParts_eq, evAll_eq, allFz_eq, List.all_map, Function.comp_def]
@[go_sem] theorem headOp_extract {x : Operand} {i : Nat} : headOp P ⟨some d, .extract x i, T, pos, af, g⟩ ⟨n, t, b⟩ K = andK (d < n) (evExtract (St.ev ⟨n, t, b⟩ x) i fun r => K (St.put ⟨n, t, b⟩ (some d) r)) := by simp [headOp, evOp, andK, evParts_eq, evAll_eq, allFz_eq, List.all_map, Function.comp_def]
@[go_sem] theorem headOp_build {T' : TypeId} {ps : List (Nat × Operand)} : headOp P ⟨some d, .build T' ps.toArray, T, pos, af, g⟩ ⟨n, t, b⟩ K = andK (d < n) (evBuild P T' (evParts ⟨n, t, b⟩ ps) fun r => K (St.put ⟨n, t, b⟩ (some d) r)) := by simp [headOp, evOp, andK, evParts_eq, evAll_eq, allFz_eq, List.all_map, Function.comp_def]
@[go_sem] theorem headOp_buildSlice {T' : TypeId} {len : Nat} {ps : List (Nat × Operand)} : headOp P ⟨some d, .buildSlice T' len ps.toArray, T, pos, af, g⟩ ⟨n, t, b⟩ K = andK (d < n) (evBuildSlice P d T' len (evParts ⟨n, t, b⟩ ps) fun r => K (St.put ⟨n, t, b⟩ (some d) r)) := by simp [headOp, evOp, andK, evParts_eq, evAll_eq, allFz_eq, List.all_map, Function.comp_def]
@[go_sem] theorem headOp_makeSlice {T' : TypeId} {l c : Operand} : headOp P ⟨some d, .makeSlice T' l c, T, pos, af, g⟩ ⟨n, t, b⟩ K = andK (d < n) ((evMake P d T' (St.ev ⟨n, t, b⟩ l) (St.ev ⟨n, t, b⟩ c) fun r => K (St.put ⟨n, t, b⟩ (some d) r))) := by simp [headOp, evOp, andK, evParts_eq, evAll_eq, allFz_eq, List.all_map, Function.comp_def]
@[go_sem] theorem headOp_makeFunc {f : FuncId} {caps : List Operand} : headOp P ⟨some d, .makeFunc (.func f) (List.toArray []) caps.toArray, T, pos, af, g⟩ ⟨n, t, b⟩ K = andK (d < n) (onB (allFz (evAll ⟨n, t, b⟩ caps)) (K (St.put ⟨n, t, b⟩ (some d) (.fn f (evAll ⟨n, t, b⟩ caps)))) (andK (allCap (evAll ⟨n, t, b⟩ caps) = true) (K (St.put ⟨n, t, b⟩ (some d) (.cl f (evAll ⟨n, t, b⟩ caps)))))) := by simp [headOp, evOp, andK, onB, allCap_eq, evParts_eq, evAll_eq, allFz_eq, List.all_map, Function.comp_def]
@[go_sem] theorem headOp_alloc {T' : TypeId} : headOp P ⟨some d, .alloc T', T, pos, af, g⟩ ⟨n, t, b⟩ K = andK (d < n) (caseO (tinfo P T') fun q => caseO q.2.2 fun z => andK (zeroOk q.1 z = true) (K (St.put ⟨n, t, b⟩ (some d) (.pe (64 * (d + 1)) q.1 [ofConst z] 0 0)))) := by
  simp [headOp, evOp, evAllocE, andK, caseO]
@[go_sem] theorem headOp_makeMap {T' : TypeId} : headOp P ⟨some d, .makeMap T' none, T, pos, af, g⟩ ⟨n, t, b⟩ K = andK (d < n) (evMakeMap P d T' fun r => K (St.put ⟨n, t, b⟩ (some d) r)) := by simp [headOp, evOp, andK]
@[go_sem] theorem headOp_lookup {T' : TypeId} {x y : Operand} : headOp P ⟨some d, .lookup T' x y false, T, pos, af, g⟩ ⟨n, t, b⟩ K = andK (d < n) (evLookup P T' (St.ev ⟨n, t, b⟩ x) (St.ev ⟨n, t, b⟩ y) fun r => K (St.put ⟨n, t, b⟩ (some d) r)) := by simp [headOp, evOp, andK]
@[go_sem] theorem headOp_len {x : Operand} {T' : TypeId} : headOp P ⟨some d, .call ⟨.builtin .len, [x].toArray, [T'].toArray⟩, T, pos, af, g⟩ ⟨n, t, b⟩ K = andK (d < n) (evLenM P T' (St.ev ⟨n, t, b⟩ x) fun r => K (St.put ⟨n, t, b⟩ (some d) r)) := by simp [headOp, evOp, andK, evParts_eq, evAll_eq, allFz_eq, List.all_map, Function.comp_def]
@[go_sem] theorem headOp_cap {x : Operand} {T' : TypeId} : headOp P ⟨some d, .call ⟨.builtin .cap, [x].toArray, [T'].toArray⟩, T, pos, af, g⟩ ⟨n, t, b⟩ K = andK (d < n) (evCap P T' (St.ev ⟨n, t, b⟩ x) fun r => K (St.put ⟨n, t, b⟩ (some d) r)) := by simp [headOp, evOp, andK, evParts_eq, evAll_eq, allFz_eq, List.all_map, Function.comp_def]
@[go_sem] theorem headOp_max {x y : Operand} {As : Array TypeId} : headOp P ⟨some d, .call ⟨.builtin .max, [x, y].toArray, As⟩, T, pos, af, g⟩ ⟨n, t, b⟩ K = andK (d < n) (evMax (St.ev ⟨n, t, b⟩ x) (St.ev ⟨n, t, b⟩ y) fun r => K (St.put ⟨n, t, b⟩ (some d) r)) := by simp [headOp, evOp, andK, evParts_eq, evAll_eq, allFz_eq, List.all_map, Function.comp_def]
@[go_sem] theorem headOp_min {x y : Operand} {As : Array TypeId} : headOp P ⟨some d, .call ⟨.builtin .min, [x, y].toArray, As⟩, T, pos, af, g⟩ ⟨n, t, b⟩ K = andK (d < n) (evMin (St.ev ⟨n, t, b⟩ x) (St.ev ⟨n, t, b⟩ y) fun r => K (St.put ⟨n, t, b⟩ (some d) r)) := by simp [headOp, evOp, andK, evParts_eq, evAll_eq, allFz_eq, List.all_map, Function.comp_def]
@[go_sem] theorem headOp_append {x y : Operand} {T' T'' : TypeId} : headOp P ⟨some d, .call ⟨.builtin .append, [x, y].toArray, [T', T''].toArray⟩, T, pos, af, g⟩ ⟨n, t, b⟩ K = andK (d < n) (evAppendX P d T' T'' (St.ev ⟨n, t, b⟩ x) (St.ev ⟨n, t, b⟩ y) fun r => K (St.put ⟨n, t, b⟩ (some d) r)) := by simp [headOp, evOp, andK]
@[go_sem] theorem headOp_call {f : FuncId} {args : List Operand} {As : Array TypeId} : headOp P ⟨some d, .call ⟨.value (.func f), args.toArray, As⟩, T, pos, af, g⟩ ⟨n, t, b⟩ K = andK (d < n) (CallY P f (evAll ⟨n, t, b⟩ args) d ⟨n, t, b⟩ K) := by simp [headOp, andK, St.ev, evAll_eq]

/-- a drawn region, as a frame for the rules -/
def crs : List Oper → List Nat
  | [] => []
  | o :: r => if creates o.op = true then (match o.dst with | some d => d :: crs r | none => crs r) else crs r
theorem crs_eq : ∀ l : List Oper, crs l = l.filterMap fun o => if creates o.op = true then o.dst else none
  | [] => rfl
  | o :: r => by
    rw [crs, crs_eq r, List.filterMap_cons]
    split
    · cases o.dst <;> rfl
    · rfl
attribute [go_sem] crs creates needsFresh
def headT (P : Program) (ops : Array Oper) : Nat → List Oper → St → (St → Prop) → Prop
  | 0, l, σ, K => opsA P ops l σ K
  | _ + 1, [], σ, K => K σ
  | m + 1, o :: l, σ, K => headG P ops o σ fun σ' => headT P ops m l σ' K
theorem headT_eq {ops : Array Oper} {K : St → Prop} : ∀ (m : Nat) (l : List Oper) (σ : St), headT P ops m l σ K = headA P ops (l.take m) σ fun σ' => opsA P ops (l.drop m) σ' K
  | 0, l, σ => by cases l <;> rfl
  | _ + 1, [], σ => rfl
  | m + 1, o :: l, σ => by
    show (headG P ops o σ fun σ' => headT P ops m l σ' K) = headG P ops o σ fun σ' => headA P ops (l.take m) σ' fun σ' => opsA P ops (l.drop m) σ' K
    have : (fun σ' => headT P ops m l σ' K) = fun σ' => headA P ops (l.take m) σ' fun σ' => opsA P ops (l.drop m) σ' K := funext fun σ' => headT_eq m l σ'
    rw [this]
@[congr] theorem headT_congr {ops : Array Oper} {m : Nat} {l : List Oper} {K : St → Prop} {σ σ' : St} (h : mkd σ = σ') : headT P ops m l σ K = headT P ops m l σ' K := by subst_vars; rfl
@[go_sem] theorem headT_zero {ops : Array Oper} {l : List Oper} {K : St → Prop} : headT P ops 0 l ⟨n, t, b⟩ K = opsA P ops l ⟨n, t, b⟩ K := rfl
@[go_sem] theorem headT_succ {ops : Array Oper} {m : Nat} {dst : Option Tmp} {op : Op} {l : List Oper} {K : St → Prop} : headT P ops (m + 1) (⟨dst, op, T, pos, af, none⟩ :: l) ⟨n, t, b⟩ K = headOp P ⟨dst, op, T, pos, af, none⟩ ⟨n, t, b⟩ fun σ' => headT P ops m l σ' K := rfl
@[go_sem] theorem headT_guard {ops : Array Oper} {m : Nat} {op : Op} {l : List Oper} {K : St → Prop} {j : Nat} {want : Bool} : headT P ops (m + 1) (⟨some d, op, T, pos, af, some (j, want)⟩ :: l) ⟨n, t, b⟩ K = caseO (guardSlot ops j) fun g => caseO (knownB (lookT t g)) fun c =>
    both (c == want) (headOp P ⟨some d, op, T, pos, af, some (j, want)⟩ ⟨n, t, b⟩ fun σ' => headT P ops m l σ' K) (andK (d < n) (headT P ops m l (St.put ⟨n, t, b⟩ (some d) (.sc undef)) K)) := by
  simp only [headT, headG, caseO, both, andK, St.get]
  apply propext
  constructor
  · rintro ⟨g, c, h1, h2, h3, h4⟩
    refine ⟨g, h1, c, h2, h3, fun hc => ?_⟩
    obtain ⟨d', hd, h5, h6⟩ := h4 hc
    cases hd
    exact ⟨h5, h6⟩
  · rintro ⟨g, h1, c, h2, h3, h4⟩
    exact ⟨g, c, h1, h2, h3, fun hc => ⟨d, rfl, (h4 hc).1, (h4 hc).2⟩⟩
theorem DrawK.walk {l : List Oper} {σ : St} (m : Nat) (hm : P.follows .mixedOrders = true) (hok : drawOk l.toArray m = true)
    (h : andK (freeAll σ (crs (l.take m)) = true) (headT P l.toArray m l σ K)) : DrawK P l.toArray σ K :=
  DrawK.intro m hm hok (by rw [crs_eq] at h; exact h.1) (by rw [headT_eq] at h; exact h.2)

/-! ### calls -/
theorem CallU.free {f : FuncId} {args args' : List AV} {post : AV → List (List AV) → Prop} {σ : St} (hcon : Con P f args' [] post) (hc : σ.free d = true ∧ d < σ.n ∧ dedup (pbss args) = [] ∧ tagss args = []) (ha : mapTops viewLeaf args = args')
    (hk : ∀ r bx, post r bx → r.allLeaf lt64 = true ∧ K (σ.put (some d) (r.shift (64 * (d + 1))))) : CallU P f args d σ K := by
  unfold CallU
  rw [hc.2.2.1]
  refine .inl ⟨hc.1, hc.2.1, ?_⟩
  have : args.map AV.view = args' := by rw [← ha, mapTops_eq]; rfl
  rw [this]
  exact hcon.mono fun r bx h => ⟨(hk r bx h).1, .free hc.2.2.2 (hk r bx h).2⟩
theorem CallU.flat {f : FuncId} {args args' : List AV} {post : AV → List (List AV) → Prop} {σ : St} (hcon : Con P f args' [] post) (hc : σ.free d = true ∧ d < σ.n ∧ dedup (pbss args) = []) (ha : mapTops viewLeaf args = args')
    (hk : ∀ r bx, post r bx → r.allLeaf lt64 = true ∧ r.allLeaf flatLeaf = true ∧ K (σ.put (some d) (r.shift (64 * (d + 1))))) : CallU P f args d σ K := by
  unfold CallU
  rw [hc.2.2]
  refine .inl ⟨hc.1, hc.2.1, ?_⟩
  have : args.map AV.view = args' := by rw [← ha, mapTops_eq]; rfl
  rw [this]
  exact hcon.mono fun r bx h => ⟨(hk r bx h).1, .flat (hk r bx h).2.1 (hk r bx h).2.2⟩
theorem CallU.freeze {f : FuncId} {args args' : List AV} {post : AV → List (List AV) → Prop} {σ : St} (hcon : Con P f args' [] post) (hc : σ.free d = true ∧ d < σ.n ∧ dedup (pbss args) = []) (ha : mapTops viewLeaf args = args')
    (hk : ∀ r bx, post r bx → r.allLeaf lt64 = true ∧ K ((σ.map (freezeLeaf fun t => (tagss args).contains t)).put (some d) (r.shift (64 * (d + 1))))) : CallU P f args d σ K := by
  unfold CallU
  rw [hc.2.2]
  refine .inl ⟨hc.1, hc.2.1, ?_⟩
  have : args.map AV.view = args' := by rw [← ha, mapTops_eq]; rfl
  rw [this]
  exact hcon.mono fun r bx h => ⟨(hk r bx h).1, .freeze (hk r bx h).2⟩
theorem CallU.boxes {f : FuncId} {args args' : List AV} {i : Nat} {is : List Nat} {bx0 bx : List (List AV)} {post : AV → List (List AV) → Prop} {σ : St} (hcon : Con P f args' bx post) (hi : dedup (pbss args) = i :: is) (hb : getAll σ.boxes (i :: is) = some bx0)
    (hc : σ.free d = true ∧ d < σ.n ∧ allLeafs noTag args = true ∧ nodupB (i :: is) = true ∧ allNoTags bx0 = true) (ha : mapTops (pbIn (i :: is)) args = args') (hbx : mapB (pbIn (i :: is)) bx0 = bx)
    (hk : ∀ r bx', post r bx' → r.allLeaf lt64b = true ∧ allNoTags bx' = true ∧ K (St.put ⟨σ.n, σ.tmps, setAll (i :: is) (mapB (outLeaf (64 * (d + 1)) (i :: is) σ.boxes.length) (bx'.take (i :: is).length)) σ.boxes ++ mapB (outLeaf (64 * (d + 1)) (i :: is) σ.boxes.length) (bx'.drop (i :: is).length)⟩ (some d) (r.mapTop (outLeaf (64 * (d + 1)) (i :: is) σ.boxes.length)))) : CallU P f args d σ K := by
  unfold CallU
  rw [hi]
  exact .inl ⟨hc.1, hc.2.1, hc.2.2.1, hc.2.2.2.1, bx0, hb, hc.2.2.2.2, by rw [ha, hbx]; exact hcon.mono hk⟩
theorem CallU.news {f : FuncId} {args args' : List AV} {bx0 bx : List (List AV)} {post : AV → List (List AV) → Prop} {σ : St} (hcon : Con P f args' bx post) (hi : dedup (pbss args) = []) (hb : getAll σ.boxes [] = some bx0)
    (hc : σ.free d = true ∧ d < σ.n ∧ allLeafs noTag args = true ∧ nodupB [] = true ∧ allNoTags bx0 = true) (ha : mapTops (pbIn []) args = args') (hbx : mapB (pbIn []) bx0 = bx)
    (hk : ∀ r bx', post r bx' → r.allLeaf lt64b = true ∧ allNoTags bx' = true ∧ K (St.put ⟨σ.n, σ.tmps, setAll [] (mapB (outLeaf (64 * (d + 1)) [] σ.boxes.length) (bx'.take ([] : List Nat).length)) σ.boxes ++ mapB (outLeaf (64 * (d + 1)) [] σ.boxes.length) (bx'.drop ([] : List Nat).length)⟩ (some d) (r.mapTop (outLeaf (64 * (d + 1)) [] σ.boxes.length)))) : CallU P f args d σ K := by
  unfold CallU
  rw [hi]
  exact .inr (.inl ⟨hc.1, hc.2.1, hc.2.2.1, hc.2.2.2.1, bx0, hb, hc.2.2.2.2, by rw [ha, hbx]; exact hcon.mono hk⟩)
theorem CallU.lend {f : FuncId} {args args' : List AV} {post : AV → Prop} {σ : St} (hcon : ConC P f args' post) (hc : σ.free d = true ∧ d < σ.n ∧ dedup (pbss args) = [] ∧ allLeafs (pbLt 0) args = true ∧ (tagss args).length < 60) (ha : mapTops (renLeaf (tagss args)) args = args')
    (hk : ∀ r, post r → r.allLeaf lt64c = true ∧ K ((σ.map (killS (tagss args))).put (some d) (r.shift (64 * (d + 1))))) : CallU P f args d σ K := by
  unfold CallU
  rw [hc.2.2.1]
  exact .inr (.inr (.inl ⟨hc.1, hc.2.1, hc.2.2.2.1, hc.2.2.2.2, by rw [ha]; exact ⟨hcon.1, fun G w vs h1 h2 h3 => (hcon.2 G w vs h1 h2 h3).mono fun e w' ⟨v, r, G', he, hq, rest⟩ => ⟨v, r, G', he, hk r hq, rest⟩⟩⟩))
/-- a call that hands back what it was given -/
theorem CallU.back {f : FuncId} {args args' : List AV} {post : AV → List AV → Prop} {σ : St} (hcon : ConW P f args' post) (hc : σ.free d = true ∧ d < σ.n ∧ dedup (pbss args) = [] ∧ allLeafs (pbLt 0) args = true ∧ (tagss args).length < 60) (ha : mapTops (renLeaf (tagss args)) args = args')
    (hk : ∀ r ys, post r ys → r.allLeaf lt64c = true ∧ allLeafs lt64c ys = true ∧ posG (giveOf args (mapTops (shiftLeaf (64 * (d + 1))) ys)) = true ∧
      K ((σ.map (giveLeaf (tagss args) (giveOf args (mapTops (shiftLeaf (64 * (d + 1))) ys)))).put (some d) (r.shift (64 * (d + 1))))) : CallU P f args d σ K := by
  unfold CallU
  rw [hc.2.2.1]
  exact .inr (.inr (.inr (.inl ⟨hc.1, hc.2.1, hc.2.2.2.1, hc.2.2.2.2, by rw [ha]; exact ⟨hcon.1, fun G w vs h1 h2 h3 => (hcon.2 G w vs h1 h2 h3).mono fun e w' ⟨v, r, ys, G', he, hq, rest⟩ => ⟨v, r, ys, G', he, hk r ys hq, rest⟩⟩⟩)))
/-- a call that looks at the caller's variables (closures and their pointers among the arguments), writes to nothing, and hands back plain data -/
theorem CallU.look {f : FuncId} {args args' : List AV} {post : AV → List (List AV) → Prop} {σ : St} (hcon : Con P f args' [] post) (hc : σ.free d = true ∧ d < σ.n) (ha : mapTops (viewV σ.boxes) args = args')
    (hk : ∀ r bx, post r bx → r.allLeaf lt64 = true ∧ r.allLeaf flatLeaf = true ∧ K (σ.put (some d) (r.shift (64 * (d + 1))))) : CallU P f args d σ K := by
  have h : CallV P f args d σ K := ⟨hc.1, hc.2, by rw [ha]; exact hcon.mono hk⟩
  unfold CallU
  split
  · exact .inr (.inr (.inr (.inr h)))
  · exact .inr h
attribute [go_sem] viewV viewCap allFzV
attribute [go_sem] giveLeaf giveOf lookG posG
theorem CallY.mk {f : FuncId} {args args' : List AV} {r : AV} {σ : St} (hcon : Con P f args' [] fun r' _ => r' = r) (ha : mapTops viewLeaf args = args') (hr : r.allLeaf lt64 = true) (ht : tagss args = [] ∨ r.allLeaf flatLeaf = true) (hk : K (σ.put (some d) (r.shift (64 * (d + 1))))) : CallY P f args d σ K := by
  have : args.map AV.view = args' := by rw [← ha, mapTops_eq]; rfl
  exact ⟨r, by rw [this]; exact hcon, hr, ht, hk⟩
attribute [go_sem] pbIn outLeaf lt64b getAll setAll nodupB allNoTags pbss AV.pbs dedup freeAll
attribute [go_sem] List.take_zero List.drop_zero List.drop_succ_cons List.drop_nil List.contains_cons List.contains_nil List.nil_append List.cons_append List.set_cons_zero List.set_cons_succ List.map_map
/-! ### copy -/
@[go_sem] theorem evCopy_sl {P : Program} {T : TypeId} {d t t' : Nat} {xs ys : List AV} {σ : St} {K : St → Prop} : evCopy P T d σ (.sl t 1 xs) (.sl t' 1 ys) K = onSlice (P.underlying T) fun E => caseO (tinfo P E) fun q => andK (q.1 = 1) (andK (2 ≤ t)
    (0 < xs.length ∧ 0 < ys.length ∧ leafAll ys = true ∧ K ((σ.map (copyLeaf t 0 (ys.take (xs.length - 0)))).put (some d) (.sc (.int .i64 (min ys.length (xs.length - 0) : Nat)))))) := by
  unfold evCopy onSlice caseO andK
  simp only [copyDst]
  apply propext
  constructor
  · rintro ⟨h1, ⟨E, q, h2, h3, h4⟩, h5, h6, h7, h8⟩
    exact ⟨E, h2, q, h3, h4, h1, h5, h6, h7, h8⟩
  · rintro ⟨E, h2, q, h3, h4, h1, h5, h6, h7, h8⟩
    exact ⟨h1, ⟨E, q, h2, h3, h4⟩, h5, h6, h7, h8⟩
@[go_sem] theorem evCopy_tl {P : Program} {T : TypeId} {d t t' i : Nat} {xs ys : List AV} {σ : St} {K : St → Prop} : evCopy P T d σ (.tl t 1 xs i) (.sl t' 1 ys) K = onSlice (P.underlying T) fun E => caseO (tinfo P E) fun q => andK (q.1 = 1) (andK (2 ≤ t)
    (i < xs.length ∧ 0 < ys.length ∧ leafAll ys = true ∧ K ((σ.map (copyLeaf t i (ys.take (xs.length - i)))).put (some d) (.sc (.int .i64 (min ys.length (xs.length - i) : Nat)))))) := by
  unfold evCopy onSlice caseO andK
  simp only [copyDst]
  apply propext
  constructor
  · rintro ⟨h1, ⟨E, q, h2, h3, h4⟩, h5, h6, h7, h8⟩
    exact ⟨E, h2, q, h3, h4, h1, h5, h6, h7, h8⟩
  · rintro ⟨E, h2, q, h3, h4, h1, h5, h6, h7, h8⟩
    exact ⟨h1, ⟨E, q, h2, h3, h4⟩, h5, h6, h7, h8⟩
@[go_sem] theorem evClear_tl {P : Program} {T : TypeId} {t i : Nat} {xs : List AV} {σ : St} {K : St → Prop} : evClear P T σ (.tl t 1 xs i) K = onSlice (P.underlying T) fun E => caseO (tinfo P E) fun q => caseO q.2.2 fun z => andK (q.1 = 1 ∧ 2 ≤ t ∧ z.cells = #[z] ∧ z.oneCell' = true ∧ leafAll [ofConst z] = true)
    (i < xs.length ∧ K (σ.map (copyLeaf t i (List.replicate (xs.length - i) (ofConst z))))) := by
  unfold evClear onSlice caseO andK
  simp only [copyDst]
  apply propext
  constructor
  · rintro ⟨h1, h2, E, q, z, h3, h4, h5, h6, h7, h8, h9, h10⟩
    exact ⟨E, h3, q, h4, z, h6, ⟨h5, h1, h7, h8, h9⟩, h2, h10⟩
  · rintro ⟨E, h3, q, h4, z, h6, ⟨h5, h1, h7, h8, h9⟩, h2, h10⟩
    exact ⟨h1, h2, E, q, z, h3, h4, h5, h6, h7, h8, h9, h10⟩
@[go_sem] theorem modify_one {α : Type} (x : α) (f : α → α) : [x].modify 0 f = [f x] := rfl
theorem setSeg_map {α β : Type} (f : α → β) : ∀ (m l : List α) (i : Nat), setSeg (l.map f) i (m.map f) = (setSeg l i m).map f
  | [], _, _ => rfl
  | x :: m, l, i => by simp only [List.map_cons, setSeg]; rw [← List.map_set, setSeg_map f m]
attribute [go_sem] copyLeaf mvLeaf
end
end Go.AM
