/- AmS AmT Am3 AmU Am2 -/
import Derived.Test.Ytoglpcfaojcmeaag9
import Derived.ProofKit
import Derived.Deep.Slices
import Derived.OpenShut
import Derived.SizedLaws
namespace Go.AM
open Go.RowKit
section
variable {P : Program} {n : Nat} {t : List (Nat × AV)} {b : List (List AV)}
variable {d : Nat} {T : TypeId} {pos : String} {af : Array Edge} {g : Option (Nat × Bool)} {K : St → Prop}
@[congr] theorem headOp_congr {o : Oper} {K : St → Prop} {σ σ' : St} (h : mkd σ = σ') : headOp P o σ K = headOp P o σ' K := by subst_vars; rfl
@[congr] theorem CallY_congr {f : FuncId} {args args' : List AV} {d : Nat} {K : St → Prop} {σ σ' : St} (h1 : mkd args = args') (h : σ = σ') : CallY P f args d σ K = CallY P f args' d σ' K := by subst_vars; rfl
@[go_sem] theorem knownB_bool {c want : Bool} : knownB want (.sc (.bool c)) = some c := rfl
@[go_sem] theorem knownB_undef {want : Bool} : knownB want (.sc undef) = some (!want) := rfl
@[go_sem] theorem headOp_move {x : Operand} : headOp P ⟨some d, .move x, T, pos, af, g⟩ ⟨n, t, b⟩ K = andK (d < n) (K (St.put ⟨n, t, b⟩ (some d) (typed P d T (St.ev ⟨n, t, b⟩ x)))) := rfl
@[go_sem] theorem headOp_assign {x : Operand} : headOp P ⟨some d, .assign x, T, pos, af, g⟩ ⟨n, t, b⟩ K = andK (d < n) (K (St.put ⟨n, t, b⟩ (some d) (typed P d T (St.ev ⟨n, t, b⟩ x)))) := rfl
@[go_sem] theorem headOp_pick {c x y : Operand} : headOp P ⟨some d, .pick c x y, T, pos, af, g⟩ ⟨n, t, b⟩ K = andK (d < n) (onBool (St.ev ⟨n, t, b⟩ c) fun v => both v (K (St.put ⟨n, t, b⟩ (some d) (St.ev ⟨n, t, b⟩ x))) (K (St.put ⟨n, t, b⟩ (some d) (St.ev ⟨n, t, b⟩ y)))) := by
 simp only [headOp, evOp, andK, onBool, both]
 cases St.ev ⟨n, t, b⟩ c <;> simp
 rename_i v; cases v <;> simp
 rename_i v; intro _; cases v <;> simp
@[go_sem] theorem headOp_load {T' : TypeId} {x : Operand} : headOp P ⟨some d, .load T' x, T, pos, af, g⟩ ⟨n, t, b⟩ K = andK (d < n) (evLoad P b T' (St.ev ⟨n, t, b⟩ x) fun r => K (St.put ⟨n, t, b⟩ (some d) r)) := by simp [headOp, evOp, andK]
@[go_sem] theorem headOp_nilCheck {x : Operand} : headOp P ⟨some d, .nilCheck x, T, pos, af, g⟩ ⟨n, t, b⟩ K = andK (d < n) (andK ((isPtr (St.ev ⟨n, t, b⟩ x) || isFn (St.ev ⟨n, t, b⟩ x)) = true) (K (St.put ⟨n, t, b⟩ (some d) (St.ev ⟨n, t, b⟩ x)))) := by simp [headOp, evOp, andK]
@[go_sem] theorem headOp_binOp {op : BinOp} {T' T'' : TypeId} {x y : Operand} : headOp P ⟨some d, .binOp op T' x y T'', T, pos, af, g⟩ ⟨n, t, b⟩ K = andK (d < n) (evBinOp P op T' (St.ev ⟨n, t, b⟩ x) (St.ev ⟨n, t, b⟩ y) fun r => K (St.put ⟨n, t, b⟩ (some d) r)) := by simp [headOp, evOp, andK]
@[go_sem] theorem headOp_unOp {op : UnOp} {T' : TypeId} {x : Operand} : headOp P ⟨some d, .unOp op T' x, T, pos, af, g⟩ ⟨n, t, b⟩ K = andK (d < n) (evUn op (St.ev ⟨n, t, b⟩ x) fun r => K (St.put ⟨n, t, b⟩ (some d) r)) := by simp [headOp, evOp, andK]
@[go_sem] theorem headOp_convert {T' T'' : TypeId} {x : Operand} : headOp P ⟨some d, .convert T' T'' x, T, pos, af, g⟩ ⟨n, t, b⟩ K = andK (d < n) (evConv P T' T'' (St.ev ⟨n, t, b⟩ x) fun r => K (St.put ⟨n, t, b⟩ (some d) r)) := by simp [headOp, evOp, andK]
@[go_sem] theorem headOp_slice {T' : TypeId} {x : Operand} {lo hi mx : Option Operand} : headOp P ⟨some d, .slice T' x lo hi mx, T, pos, af, g⟩ ⟨n, t, b⟩ K = andK (d < n) (evSlice P T' (St.ev ⟨n, t, b⟩ x) (lo.map (St.ev ⟨n, t, b⟩)) (hi.map (St.ev ⟨n, t, b⟩)) (mx.map (St.ev ⟨n, t, b⟩)) fun r => K (St.put ⟨n, t, b⟩ (some d) r)) := by simp [headOp, evOp, andK]
@[go_sem] theorem headOp_fieldAddr {T' : TypeId} {x : Operand} {f : Nat} : headOp P ⟨some d, .fieldAddr T' x f, T, pos, af, g⟩ ⟨n, t, b⟩ K = andK (d < n) (evFieldAddr P T' (St.ev ⟨n, t, b⟩ x) f fun r => K (St.put ⟨n, t, b⟩ (some d) r)) := by simp [headOp, evOp, andK]
@[go_sem] theorem headOp_indexAddr {T' : TypeId} {x i : Operand} : headOp P ⟨some d, .indexAddr T' x i, T, pos, af, g⟩ ⟨n, t, b⟩ K = andK (d < n) (evIndexAddr P T' (St.ev ⟨n, t, b⟩ x) (St.ev ⟨n, t, b⟩ i) fun r => K (St.put ⟨n, t, b⟩ (some d) r)) := by simp [headOp, evOp, andK]
@[go_sem] theorem headOp_buildSlice {T' : TypeId} {len : Nat} {ps : List (Nat × Operand)} : headOp P ⟨some d, .buildSlice T' len ps.toArray, T, pos, af, g⟩ ⟨n, t, b⟩ K = andK (d < n) (evBuildSlice P d T' len (evParts ⟨n, t, b⟩ ps) fun r => K (St.put ⟨n, t, b⟩ (some d) r)) := by simp [headOp, evOp, andK, evParts_eq]
@[go_sem] theorem headOp_len {x : Operand} {T' : TypeId} : headOp P ⟨some d, .call ⟨.builtin .len, [x].toArray, [T'].toArray⟩, T, pos, af, g⟩ ⟨n, t, b⟩ K = andK (d < n) (evLenM P T' (St.ev ⟨n, t, b⟩ x) fun r => K (St.put ⟨n, t, b⟩ (some d) r)) := by simp [headOp, evOp, andK]
@[go_sem] theorem headOp_call {f : FuncId} {args : List Operand} {As : Array TypeId} : headOp P ⟨some d, .call ⟨.value (.func f), args.toArray, As⟩, T, pos, af, g⟩ ⟨n, t, b⟩ K = andK (d < n) (CallY P f (evAll ⟨n, t, b⟩ args) d ⟨n, t, b⟩ K) := by simp [headOp, andK, St.ev, evAll_eq]
def crs : List Oper → List Nat
 | [] => []
 | o :: r => if creates o.op = true then (match o.dst with | some d => d :: crs r | none => crs r) else crs r
theorem crs_eq : ∀ l : List Oper, crs l = l.filterMap fun o => if creates o.op = true then o.dst else none
 | [] => rfl
 | o :: r => by
  rw [crs, crs_eq r, List.filterMap_cons]
  split
  ·cases o.dst <;> rfl
  ·rfl
attribute [go_sem] crs creates needsFresh
def headT (P : Program) (ops : Array Oper) : Nat → List Oper → St → (St → Prop) → Prop
 | 0, l, σ, K => opsA P ops l σ K
 | _ + 1, [], σ, K => K σ
 | m + 1, o :: l, σ, K => headG P ops o σ fun σ' => headT P ops m l σ' K
theorem headT_eq {ops : Array Oper} {K : St → Prop} : ∀ (m : Nat) (l : List Oper) (σ : St), headT P ops m l σ K = headA P ops (l.take m) σ fun σ' => opsA P ops (l.drop m) σ' K
 | 0, l, σ => by cases l <;> rfl
 | _ + 1, [], σ => rfl
 | m + 1, o :: l, σ => by
  show (headG P ops o σ fun σ' => headT P ops m l σ' K) = headG P ops o σ fun σ' => headA P ops (l.take m) σ' fun σ' => opsA P ops (l.drop m) σ' K
  have : (fun σ' => headT P ops m l σ' K) = fun σ' => headA P ops (l.take m) σ' fun σ' => opsA P ops (l.drop m) σ' K := funext fun σ' => headT_eq m l σ'
  rw [this]
@[congr] theorem headT_congr {ops : Array Oper} {m : Nat} {l : List Oper} {K : St → Prop} {σ σ' : St} (h : mkd σ = σ') : headT P ops m l σ K = headT P ops m l σ' K := by subst_vars; rfl
@[go_sem] theorem headT_zero {ops : Array Oper} {l : List Oper} {K : St → Prop} : headT P ops 0 l ⟨n, t, b⟩ K = opsA P ops l ⟨n, t, b⟩ K := rfl
@[go_sem] theorem headT_succ {ops : Array Oper} {m : Nat} {dst : Option Tmp} {op : Op} {l : List Oper} {K : St → Prop} : headT P ops (m + 1) (⟨dst, op, T, pos, af, none⟩ :: l) ⟨n, t, b⟩ K = headOp P ⟨dst, op, T, pos, af, none⟩ ⟨n, t, b⟩ fun σ' => headT P ops m l σ' K := rfl
@[go_sem] theorem headT_guard {ops : Array Oper} {m : Nat} {op : Op} {l : List Oper} {K : St → Prop} {j : Nat} {want : Bool} : headT P ops (m + 1) (⟨some d, op, T, pos, af, some (j, want)⟩ :: l) ⟨n, t, b⟩ K = caseO (guardSlot ops j) fun g => caseO (knownB want (lookT t g)) fun c =>
  both (c == want) (headOp P ⟨some d, op, T, pos, af, some (j, want)⟩ ⟨n, t, b⟩ fun σ' => headT P ops m l σ' K) (andK (d < n) (headT P ops m l (St.put ⟨n, t, b⟩ (some d) (.sc undef)) K)) := by
 simp only [headT, headG, caseO, both, andK, St.get]
 apply propext
 constructor
 ·rintro ⟨g, c, h1, h2, h3, h4⟩
  refine ⟨g, h1, c, h2, h3, fun hc => ?_⟩
  obtain ⟨d', hd, h5, h6⟩ := h4 hc
  cases hd
  exact ⟨h5, h6⟩
 ·rintro ⟨g, h1, c, h2, h3, h4⟩
  exact ⟨g, c, h1, h2, h3, fun hc => ⟨d, rfl, (h4 hc).1, (h4 hc).2⟩⟩
theorem DrawK.walk {l : List Oper} {σ : St} (m : Nat) (hm : P.follows .mixedOrders = true) (hok : drawOk l.toArray m = true)
  (h : andK (freeAll σ (crs (l.take m)) = true) (headT P l.toArray m l σ K)) : DrawK P l.toArray σ K :=
 DrawK.intro m hm hok (by rw [crs_eq] at h; exact h.1) (by rw [headT_eq] at h; exact h.2)
theorem CallU.free {f : FuncId} {args args' : List AV} {post : AV → List (List AV) → Prop} {σ : St} (hcon : Con P f args' [] post) (hc : σ.free d = true ∧ d < σ.n ∧ dedup (pbss args) = [] ∧ tagss args = []) (ha : mapTops viewLeaf args = args')
  (hk : ∀ r bx, post r bx → r.allLeaf lt64 = true ∧ K (σ.put (some d) (r.shift (64 * (d + 1))))) : CallU P f args d σ K := by
 unfold CallU
 rw [hc.2.2.1]
 refine .inl ⟨hc.1, hc.2.1, ?_⟩
 have : args.map AV.view = args' := by rw [← ha, mapTops_eq]; rfl
 rw [this]
 exact hcon.mono fun r bx h => ⟨(hk r bx h).1, .free hc.2.2.2 (hk r bx h).2⟩
theorem CallU.flat {f : FuncId} {args args' : List AV} {post : AV → List (List AV) → Prop} {σ : St} (hcon : Con P f args' [] post) (hc : σ.free d = true ∧ d < σ.n ∧ dedup (pbss args) = []) (ha : mapTops viewLeaf args = args')
  (hk : ∀ r bx, post r bx → r.allLeaf lt64 = true ∧ r.allLeaf flatLeaf = true ∧ K (σ.put (some d) (r.shift (64 * (d + 1))))) : CallU P f args d σ K := by
 unfold CallU
 rw [hc.2.2]
 refine .inl ⟨hc.1, hc.2.1, ?_⟩
 have : args.map AV.view = args' := by rw [← ha, mapTops_eq]; rfl
 rw [this]
 exact hcon.mono fun r bx h => ⟨(hk r bx h).1, .flat (hk r bx h).2.1 (hk r bx h).2.2⟩
theorem CallU.freeze {f : FuncId} {args args' : List AV} {post : AV → List (List AV) → Prop} {σ : St} (hcon : Con P f args' [] post) (hc : σ.free d = true ∧ d < σ.n ∧ dedup (pbss args) = []) (ha : mapTops viewLeaf args = args')
  (hk : ∀ r bx, post r bx → r.allLeaf lt64 = true ∧ K ((σ.map (freezeLeaf fun t => (tagss args).contains t)).put (some d) (r.shift (64 * (d + 1))))) : CallU P f args d σ K := by
 unfold CallU
 rw [hc.2.2]
 refine .inl ⟨hc.1, hc.2.1, ?_⟩
 have : args.map AV.view = args' := by rw [← ha, mapTops_eq]; rfl
 rw [this]
 exact hcon.mono fun r bx h => ⟨(hk r bx h).1, .freeze (hk r bx h).2⟩
theorem CallU.boxes {f : FuncId} {args args' : List AV} {i : Nat} {is : List Nat} {bx0 bx : List (List AV)} {post : AV → List (List AV) → Prop} {σ : St} (hcon : Con P f args' bx post) (hi : dedup (pbss args) = i :: is) (hb : getAll σ.boxes (i :: is) = some bx0)
  (hc : σ.free d = true ∧ d < σ.n ∧ allLeafs noTag args = true ∧ nodupB (i :: is) = true ∧ allNoTags bx0 = true) (ha : mapTops (pbIn (i :: is)) args = args') (hbx : mapB (pbIn (i :: is)) bx0 = bx)
  (hk : ∀ r bx', post r bx' → r.allLeaf lt64b = true ∧ allNoTags bx' = true ∧ K (St.put ⟨σ.n, σ.tmps, setAll (i :: is) (mapB (outLeaf (64 * (d + 1)) (i :: is) σ.boxes.length) (bx'.take (i :: is).length)) σ.boxes ++ mapB (outLeaf (64 * (d + 1)) (i :: is) σ.boxes.length) (bx'.drop (i :: is).length)⟩ (some d) (r.mapTop (outLeaf (64 * (d + 1)) (i :: is) σ.boxes.length)))) : CallU P f args d σ K := by
 unfold CallU
 rw [hi]
 exact .inl ⟨hc.1, hc.2.1, hc.2.2.1, hc.2.2.2.1, bx0, hb, hc.2.2.2.2, by rw [ha, hbx]; exact hcon.mono hk⟩
theorem CallU.news {f : FuncId} {args args' : List AV} {bx0 bx : List (List AV)} {post : AV → List (List AV) → Prop} {σ : St} (hcon : Con P f args' bx post) (hi : dedup (pbss args) = []) (hb : getAll σ.boxes [] = some bx0)
  (hc : σ.free d = true ∧ d < σ.n ∧ allLeafs noTag args = true ∧ nodupB [] = true ∧ allNoTags bx0 = true) (ha : mapTops (pbIn []) args = args') (hbx : mapB (pbIn []) bx0 = bx)
  (hk : ∀ r bx', post r bx' → r.allLeaf lt64b = true ∧ allNoTags bx' = true ∧ K (St.put ⟨σ.n, σ.tmps, setAll [] (mapB (outLeaf (64 * (d + 1)) [] σ.boxes.length) (bx'.take ([] : List Nat).length)) σ.boxes ++ mapB (outLeaf (64 * (d + 1)) [] σ.boxes.length) (bx'.drop ([] : List Nat).length)⟩ (some d) (r.mapTop (outLeaf (64 * (d + 1)) [] σ.boxes.length)))) : CallU P f args d σ K := by
 unfold CallU
 rw [hi]
 exact .inr (.inl ⟨hc.1, hc.2.1, hc.2.2.1, hc.2.2.2.1, bx0, hb, hc.2.2.2.2, by rw [ha, hbx]; exact hcon.mono hk⟩)
theorem CallU.back {f : FuncId} {args args' : List AV} {post : AV → List AV → Prop} {σ : St} (hcon : ConW P f args' post) (hc : σ.free d = true ∧ d < σ.n ∧ dedup (pbss args) = [] ∧ allLeafs (pbLt 0) args = true ∧ (tagss args).length < 60) (ha : mapTops (renLeaf (tagss args)) args = args')
  (hk : ∀ r ys, post r ys → r.allLeaf lt64c = true ∧ allLeafs lt64c ys = true ∧ posG (giveOf args (mapTops (shiftLeaf (64 * (d + 1))) ys)) = true ∧
   K ((σ.map (giveLeaf (tagss args) (giveOf args (mapTops (shiftLeaf (64 * (d + 1))) ys)))).put (some d) (r.shift (64 * (d + 1))))) : CallU P f args d σ K := by
 unfold CallU
 rw [hc.2.2.1]
 exact .inr (.inr (.inr (.inl ⟨hc.1, hc.2.1, hc.2.2.2.1, hc.2.2.2.2, by rw [ha]; exact ⟨hcon.1, fun G w vs h1 h2 h3 => (hcon.2 G w vs h1 h2 h3).mono fun e w' ⟨v, r, ys, G', he, hq, rest⟩ => ⟨v, r, ys, G', he, hk r ys hq, rest⟩⟩⟩)))
theorem CallU.look {f : FuncId} {args args' : List AV} {post : AV → List (List AV) → Prop} {σ : St} (hcon : Con P f args' [] post) (hc : σ.free d = true ∧ d < σ.n) (ha : mapTops (viewV σ.boxes) args = args')
  (hk : ∀ r bx, post r bx → r.allLeaf lt64 = true ∧ r.allLeaf flatLeaf = true ∧ K (σ.put (some d) (r.shift (64 * (d + 1))))) : CallU P f args d σ K := by
 have h : CallV P f args d σ K := ⟨hc.1, hc.2, by rw [ha]; exact hcon.mono hk⟩
 unfold CallU
 split
 ·exact .inr (.inr (.inr (.inr h)))
 ·exact .inr (.inl h)
attribute [go_sem] inX okX
attribute [go_sem] viewV viewCap allFzV
attribute [go_sem] giveLeaf giveOf lookG posG
theorem CallY.mk {f : FuncId} {args args' : List AV} {r : AV} {σ : St} (hcon : Con P f args' [] fun r' _ => r' = r) (ha : mapTops viewLeaf args = args') (hr : r.allLeaf lt64 = true) (ht : tagss args = [] ∨ r.allLeaf flatLeaf = true) (hk : K (σ.put (some d) (r.shift (64 * (d + 1))))) : CallY P f args d σ K := by
 have : args.map AV.view = args' := by rw [← ha, mapTops_eq]; rfl
 exact ⟨r, by rw [this]; exact hcon, hr, ht, hk⟩
attribute [go_sem] pbIn outLeaf lt64b getAll setAll nodupB allNoTags pbss AV.pbs dedup freeAll
attribute [go_sem] List.take_zero List.drop_zero List.drop_succ_cons List.drop_nil List.contains_cons List.contains_nil List.nil_append List.cons_append List.set_cons_zero List.set_cons_succ List.map_map
@[go_sem] theorem modify_one {α : Type} (x : α) (f : α → α) : [x].modify 0 f = [f x] := rfl
attribute [go_sem] copyLeaf mvLeaf
end
end Go.AM
namespace Go.AM
open Go Go.RowKit Go.WideShapes Go.ChangeShapes
def oldG (w : World) (b : Nat) : Status := if b < w.heap.size then .stable else .junk
theorem oldG_lt {w : World} {b : Nat} (h : b < w.heap.size) : Stable (oldG w) b := by simp [Stable, oldG, h]
theorem oldG_tag (w : World) (b t : Nat) : oldG w b ≠ .tag t := by unfold oldG; split <;> simp
theorem oldG_box (w : World) (b t : Nat) : oldG w b ≠ .box t := by unfold oldG; split <;> simp
theorem oldG_good (w : World) : Good (oldG w) w := by
 refine ⟨fun b h => ?_, fun b b' t h => absurd h (oldG_tag w b t), fun b b' t h => absurd h (oldG_box w b t)⟩
 unfold oldG at h; split at h
 ·assumption
 ·exact absurd rfl h
theorem cell_old {w : World} {a : Addr} {v : Value} (h : w.cell? a = some v) : a.block < w.heap.size := by
 unfold World.cell? at h
 rcases Nat.lt_or_ge a.block w.heap.size with h' | h'
 ·exact h'
 ·rw [Array.getElem?_eq_none h'] at h; simp at h
section
variable {H : Type} {enc : TypeId × Value → H} {P : Program} {w : World} {base : Nat} {spare : Nat → Bool} {held : Bool}
def Stands (enc : TypeId × Value → H) (P : Program) (w : World) (base : Nat) (spare : Nat → Bool) (held : Bool) (e : TypeId) (f : DataW H → AV) : Prop :=
 ∀ n v d ps, DataW.trod enc P w base spare held n e [v] = some (d, ps) → FRel (Stable (oldG w)) w (f d) v ∧ (f d).leafy = true ∧ v.oneCell' = true
def avSl (f : DataW H → AV) : DataW H → AV
 | .slice xs _ => .sl 0 1 (xs.map f)
 | _ => .sl 0 1 []
def numI : DataW H → Int
 | .lit (.int _ n) => n
 | _ => 0
def rowOf {α : Type} (f : DataW H → α) : DataW H → List α
 | .slice xs _ => xs.map f
 | _ => []
theorem stands_i64 {e : TypeId} (he : P.underlying e = some (.int .i64)) : Stands enc P w base spare held e fun d => .sc (.int .i64 (numI d)) := by
 intro n v d ps h
 obtain ⟨x, e0, e1, wx⟩ := DataW.trod_int he h
 simp only [List.cons.injEq, and_true] at e0
 simp only [Prod.mk.injEq] at e1
 obtain ⟨rfl, _⟩ := e1
 subst e0
 exact ⟨.sc _, rfl, rfl⟩
theorem avSl_row {α : Type} (g : α → AV) (f : DataW H → α) (d : DataW H) : avSl (fun x => g (f x)) d = .sl 0 1 ((rowOf f d).map g) := by
 cases d <;> simp [avSl, rowOf]
theorem flat_leafy {xs : List AV} (h : ∀ x ∈ xs, x.leafy = true) : flat xs = xs := by
 induction xs with
 | nil => rfl
 | cons x xs ih =>
  have hx := h x (by simp)
  have hc : x.cells = [x] := by cases x <;> first | rfl | (simp [AV.leafy] at hx)
  have := ih fun y hy => h y (by simp [hy])
  simp only [flat, List.flatMap_cons, hc] at this ⊢
  rw [this]; rfl
theorem stands_slice {t e : TypeId} {f : DataW H → AV} (ht : P.underlying t = some (.slice e)) (hc : P.cellsOf e = 1) (hf : Stands enc P w base spare held e f) : Stands enc P w base spare held t (avSl f) := by
 intro n v d ps h
 rcases Go.Deep.open_slice1 ht hc h with ⟨h1, h2⟩ | ⟨a, len, cap, m, n', V, D, Pl, h1, _, hl, _, hm, h2, hel⟩
 ·simp only [List.cons.injEq, and_true] at h1
  simp only [Prod.mk.injEq] at h2
  obtain ⟨rfl, _⟩ := h2
  subst h1
  exact ⟨.slNil _ _ _ _ (by omega) (by simp) (by simp), rfl, rfl⟩
 ·simp only [List.cons.injEq, and_true] at h1
  simp only [Prod.mk.injEq] at h2
  obtain ⟨rfl, _⟩ := h2
  subst h1
  refine ⟨?_, rfl, rfl⟩
  have hlm : len ≤ m := by rw [hm]; split <;> omega
  simp only [avSl, List.map_map]
  rcases Nat.eq_zero_or_pos len with h0 | hp
  ·subst h0
   exact .slNil _ _ _ _ (by omega) (by simp) (by simp)
  ·obtain ⟨b, off, spot⟩ := a
   have hspot : spot = none := by simpa [Addr.add] using World.cell?_spot (hel 0 (by omega)).1
   subst hspot
   have hlen : ((List.range len).map (f ∘ D)).length = len := by simp
   have hone : ∀ i, i < len → FRel (Stable (oldG w)) w (f (D i)) (V i) ∧ (f (D i)).leafy = true ∧ (V i).oneCell' = true := fun i hi => hf n' (V i) (D i) (Pl i) (hel i (by omega)).2
   have hleaf : ∀ x ∈ (List.range len).map (f ∘ D), x.leafy = true := by
    intro x hx
    obtain ⟨i, hi, rfl⟩ := List.mem_map.1 hx
    exact (hone i (List.mem_range.1 hi)).2.1
   have hb : b < w.heap.size := cell_old (a := (Addr.mk b off none).add 0) (hel 0 (by omega)).1
   have := FRel.sl (S := Stable (oldG w)) (w := w) 0 1 ((List.range len).map (f ∘ D)) b off cap ((List.range len).map V) (by omega) (oldG_lt hb) (by simp) (by rw [hlen]; exact hl)
    (fun x hx => by have h := hleaf x hx; cases x <;> first | rfl | (simp [AV.leafy] at h)) (by rw [flat_leafy hleaf]; simp)
    (fun u hu => by obtain ⟨i, hi, rfl⟩ := List.mem_map.1 hu; exact (hone i (List.mem_range.1 hi)).2.2)
    (fun j u hj => by
     have hjl : j < len := by have := (List.getElem?_eq_some_iff.1 hj).1; simpa using this
     simp only [List.getElem?_map, List.getElem?_range hjl, Option.map_some, Option.some.injEq] at hj
     subst hj
     have := (hel j (by omega)).1
     rwa [Go.WideShapes.add_plain] at this)
    (fun j x u hx hu => by
     rw [flat_leafy hleaf] at hx
     have hjl : j < len := by have := (List.getElem?_eq_some_iff.1 hx).1; simpa using this
     simp only [List.getElem?_map, List.getElem?_range hjl, Option.map_some, Option.some.injEq] at hx hu
     subst hx; subst hu
     exact (hone j hjl).1)
   rw [hlen] at this
   exact this
theorem Stands.arg {t : TypeId} {f : DataW H → AV} {v : Value} {d : DataW H} {ps : List MemPlace} (hs : Stands enc P w base spare held t f) (h1 : v.cells.toList = [v]) (h : DataW.Trod enc P w base spare held t v d ps) : VRel (oldG w) w (f d) v := by
 obtain ⟨n, hn⟩ := h
 rw [h1] at hn
 exact .froz (hs n v d ps hn).1
theorem trodAll_stays (hl : laidOutB P = true) {W W' : World} {sp : Nat → Bool} (hb : Go.RowKit.Below W.heap.size W W') : ∀ {ts : List TypeId} {vs : List Value} {ds : List (DataW H)} {ps : List MemPlace}, (∀ t ∈ ts, P.readableRec t = true ∧ t < P.types.size) →
  DataW.TrodAll enc P W 0 (fun _ => true) true ts vs ds ps → (∀ p ∈ ps, p.block < W.heap.size) → (∀ p ∈ ps, sp p.block = true) → DataW.TrodAll enc P W' 0 sp true ts vs ds ps
 | [], vs, ds, ps, _, h, _, _ => by
  cases vs <;> cases ds <;> simp only [DataW.TrodAll] at h ⊢ <;> first | exact h | exact h.elim
 | t :: ts, vs, ds, ps, hr, h, h1, h2 => by
  cases vs with
  | nil => cases ds <;> simp only [DataW.TrodAll] at h
  | cons v vs =>
   cases ds with
   | nil => simp only [DataW.TrodAll] at h
   | cons d ds =>
    simp only [DataW.TrodAll] at h ⊢
    obtain ⟨p, q, hp, hq, rfl⟩ := h
    exact ⟨p, q, WideElems.Trod_stays hl (hr t (by simp)).1 (hr t (by simp)).2 hp (fun x hx => hb.same (h1 x (by simp [hx]))) (fun x hx => h2 x (by simp [hx])),
     trodAll_stays hl hb (fun t' ht' => hr t' (by simp [ht'])) hq (fun x hx => h1 x (by simp [hx])) (fun x hx => h2 x (by simp [hx])), rfl⟩
theorem law_post {f : Func} {s : ChangeSpec} {W W' : World} {args : Array Value} {ds gs : List (DataW H)} {before : List MemPlace} {tb : TypeId} (hl : laidOutB P = true) (hv : s.vars = []) (hr : f.resultTypes = #[tb]) (ht : P.underlying tb = some .bool)
  (hrec : ∀ t ∈ f.params.toList, P.readableRec t = true ∧ t < P.types.size)
  (hW : DataW.Whole enc P f.params.toList s.vars false W args.toList ds gs before) (hs : s.fn H (ds ++ gs) = { results := [.lit (.bool true)], args := ds }) (hb : Go.RowKit.Below W.heap.size W W') :
  s.post enc P f false true false false W args (.bool true) W' := by
 have hW0 := hW
 have hlt : ∀ p ∈ before, p.block < W.heap.size := fun p hp => hW.lt p hp
 obtain ⟨p, q, hA, hV, rfl, hfz, hnd⟩ := hW
 have hV0 := hV
 rw [hv] at hV
 obtain ⟨hg, hq⟩ : gs = [] ∧ q = [] := by
  cases gs <;> simp only [DataW.TrodVars] at hV
  exact ⟨rfl, hV⟩
 subst hg; subst hq
 have hargs : ∀ sp : Nat → Bool, (∀ x ∈ p ++ [], sp x.block = true) → DataW.TrodAll enc P W' 0 sp true f.params.toList args.toList (s.fn H (ds ++ [])).args p := fun sp h => by
  rw [hs]
  exact trodAll_stays hl hb hrec hA (fun x hx => hlt x (by simp [hx])) (fun x hx => h x (by simp [hx]))
 have hvars : ∀ sp : Nat → Bool, DataW.TrodVars enc P W' sp s.vars (s.fn H (ds ++ [])).vars [] := fun sp => by rw [hs, hv]; simp only [DataW.TrodVars]
 have hres : ∀ (b : Nat) (sp : Nat → Bool) (hd : Bool), DataW.TrodAll enc P W' b sp hd f.resultTypes.toList ((Value.bool true).resultList f.resultTypes.size) (s.fn H (ds ++ [])).results [] := fun b sp hd => by
  rw [hs, hr]
  exact trodAll_mk1 (shut_bool ht true)
 have hold : ∀ x ∈ p ++ [], (fun b => decide (b < W.heap.size)) x.block = true := fun x hx => by simpa using hlt x hx
 exact ⟨ds, [], p ++ [], [], p, [], hW0, hres _ _ _, hargs _ hold, hvars _, World.keptBut_mono (fun x hx => ⟨hx, .inr (.inl (by simpa using hx))⟩) (hb.frame (· ∈ p ++ [])), fun h => by cases h⟩
theorem Con.law {f : FuncId} {avs : List AV} {W : World} {args : Array Value} (hc : Con P f avs [] fun r _ => r = .sc (.bool true)) (hv : PW (VRel (oldG W) W) avs args.toList) {Q : Ending → World → Prop}
  (hQ : ∀ W', Go.RowKit.Below W.heap.size W W' → Q (.returned (.bool true)) W') : Calls P f args W Q := by
 refine (hc.2 (oldG W) W args (oldG_good W) (oldG_tag W) (fun b i h => absurd h (oldG_box W b i)) ⟨fun i vs hv => by simp [noGh] at hv, fun i cs h => by simp at h⟩ hv).mono ?_
 rintro e w' ⟨v, r, bx', G', rfl, rfl, hr, _, _, _, e1, e2, e3, e4, _, e6⟩
 obtain rfl := hr.sc_inv
 exact hQ w' ⟨e1, e2, e3, e4, fun k hk => e6 k hk fun i h => oldG_box W k i h⟩
end
end Go.AM
namespace Go.AM
open Go.ChangeShapes Go.WideShapes Go.ChangeAt Go.RowKit
section
variable {H : Type} {enc : TypeId × Value → H} {P : Program} {w : World} {base : Nat} {spare : Nat → Bool} {held : Bool}
def Reads (w : World) (xs : List AV) (cs : List Value) : Prop := PW (FRel (Stable (oldG w)) w) xs cs ∧ One cs
theorem Reads.one {x : AV} {v : Value} (h : Reads w [x] [v]) : FRel (Stable (oldG w)) w x v := h.1.2 0 x v rfl rfl
theorem Reads.of {x : AV} {v : Value} (h : FRel (Stable (oldG w)) w x v) (k : v.oneCell' = true) : Reads w [x] [v] := ⟨.cons h (.nil _), fun u hu => by simp at hu; subst hu; exact k⟩
theorem int_reads {e : TypeId} {fuel : Nat} {cs : List Value} {d : DataW H} {ps : List MemPlace} (he : P.underlying e = some (.int .i64)) (h : DataW.trod enc P w base spare held fuel e cs = some (d, ps)) :
  ∃ v, cs = [v] ∧ Reads w [.sc (.int .i64 (numI d))] [v] := by
 obtain ⟨x, e0, e1, wx⟩ := DataW.trod_int he h
 subst e0
 exact ⟨_, rfl, .of (stands_i64 he fuel _ d ps h).1 rfl⟩
end
end Go.AM
namespace Go.AM
open Go.RowKit
section
variable {P : Program} {ops : Array Oper}
theorem exec_congr {ρ ρ' : Operand → Value} {o : Oper} (hs : ∀ cs b, o.op ≠ .select cs b) (h : ∀ x ∈ o.op.operands, ρ x = ρ' x) : execOp ρ o = execOp ρ' o := by
 obtain ⟨d, op, T, pos, af, g⟩ := o
 have hm : ∀ {l : Array Operand}, (∀ x ∈ l, ρ x = ρ' x) → l.map ρ = l.map ρ' := fun h => Array.map_congr_left h
 have hr : ∀ {c : Call}, (∀ x ∈ c.operands, ρ x = ρ' x) → resolve ρ c T = resolve ρ' c T := by
  intro c hc
  obtain ⟨cl, args, As⟩ := c
  have ha : args.map ρ = args.map ρ' := hm fun x hx => hc x (by simp [Call.operands, hx])
  cases cl with
  | value f => simp only [resolve, ha, hc f (by simp [Call.operands])]
  | invoke r nm => simp only [resolve, ha, hc r (by simp [Call.operands])]
  | builtin b => simp only [resolve, ha]
 have hp : ∀ {ps : Array (Nat × Operand)}, (∀ x ∈ (ps.toList.map (·.2)).toArray, ρ x = ρ' x) → (ps.map fun (i, x) => (i, ρ x)) = ps.map fun (i, x) => (i, ρ' x) := by
  intro ps h
  refine Array.map_congr_left fun p hp => ?_
  obtain ⟨i, x⟩ := p
  have e := h x (by simp only [List.mem_toArray, List.mem_map, Array.mem_toList_iff]; exact ⟨(i, x), hp, rfl⟩)
  simp only [e]
 have ho : ∀ {x : Option Operand}, (∀ y ∈ x, ρ y = ρ' y) → x.map ρ = x.map ρ' := by
  intro x h; cases x with
  | none => rfl
  | some y => simp [h y rfl]
 cases op with
 | alloc | ready | waits => rfl
 | build _ ps => simp only [execOp]; rw [hp (ps := ps) h]
 | buildSlice _ _ ps => simp only [execOp]; rw [hp (ps := ps) h]
 | makeFunc fn f c =>
  simp only [Op.operands, Array.mem_append] at h
  simp only [execOp]; rw [hm (l := f) fun x hx => h x (.inl hx), hm (l := c) fun x hx => h x (.inr hx)]
 | makeMap t r =>
  simp only [execOp]; rw [ho (x := r) fun y hy => h y (by simp [Op.operands]; exact hy)]
 | slice t x l h' m =>
  simp only [execOp]
  rw [h x (by simp [Op.operands]), ho (x := l) fun y hy => h y (by simp [Op.operands]; exact .inr (.inl hy)), ho (x := h') fun y hy => h y (by simp [Op.operands]; exact .inr (.inr (.inl hy))), ho (x := m) fun y hy => h y (by simp [Op.operands]; exact .inr (.inr (.inr hy)))]
 | call c => simp only [execOp]; rw [hr (c := c) h]
 | go c => simp only [execOp]; rw [hr (c := c) h]
 | defer c => simp only [execOp]; rw [hr (c := c) h]
 | select cs b => exact absurd rfl (hs cs b)
 | _ => simp [Op.operands] at h <;> simp [execOp, h]
theorem eval_put {a : Act} {d : Nat} {v : Value} {x : Operand} (h : x ≠ .tmp d) : (a.put (some d) v).eval x = a.eval x := by
 cases x with
 | tmp s =>
  have : d ≠ s := fun h' => h (by rw [h'])
  simp [Act.eval, Act.put, Array.getElem?_setIfInBounds_ne this]
 | _ => rfl
theorem put_put {a : Act} {d : Nat} {o : Option Tmp} {v x : Value} (h : o ≠ some d) : (a.put (some d) v).put o x = (a.put o x).put (some d) v := by
 cases o with
 | none => rfl
 | some e =>
  have : d ≠ e := fun h' => h (by rw [h'])
  simp only [Act.put]
  rw [Array.setIfInBounds_comm _ _ this]
structure Front (ops : Array Oper) (j : Nat) (p : Oper) (d : Nat) : Prop where
 here : ops[j]? = some p
 guard : p.guard = none
 dst : p.dst = some d
 sel : ∀ cs b, p.op ≠ .select cs b
 other : ∀ i o, ops[i]? = some o → i ≠ j → (∀ cs b, o.op ≠ .select cs b) ∧ o.dst ≠ some d ∧ (d ∈ slotsOf o → reach ops ops.size i j = true) ∧ (∀ s, o.dst = some s → s ∈ slotsOf p → reach ops ops.size j i = true ∨ reach ops ops.size i j = true) ∧ (∀ g b, o.guard = some (g, b) → guardSlot ops g ≠ some d)
theorem mem_slots {o : Oper} {s : Nat} (h : Operand.tmp s ∈ o.op.operands) : s ∈ slotsOf o := by
 unfold slotsOf
 exact List.mem_filterMap.2 ⟨.tmp s, by simpa using h, rfl⟩
theorem wanted_put {o : Oper} {a : Act} {d : Nat} {v : Value} (h : ∀ g b, o.guard = some (g, b) → guardSlot ops g ≠ some d) : Region.wanted o (yielded ops (a.put (some d) v).tmps) = Region.wanted o (yielded ops a.tmps) := by
 unfold Region.wanted
 cases hg : o.guard with
 | none => rfl
 | some p =>
  obtain ⟨g, b⟩ := p
  have := h g b hg
  have e : yielded ops (a.put (some d) v).tmps g = yielded ops a.tmps g := by
   unfold guardSlot at this
   unfold yielded
   cases hs : (ops[g]?).bind (·.dst) with
   | none => rfl
   | some s =>
    rw [hs] at this
    have hds : d ≠ s := fun h' => this (by rw [h'])
    simp only [Act.put, Option.bind_some, Array.getElem?_setIfInBounds_ne hds]
  simp [e]
theorem wpOp_swap {Q : Exit → Act → World → Prop} (hQ : ∀ e a w, e ≠ .normal → ¬ Q e a w) {i d : Nat} {o : Oper} {a : Act} {w : World} {v : Value} {K K' : Act → World → Prop}
  (ho : ops[i]? = some o) (hs : ∀ cs b, o.op ≠ .select cs b) (hd : o.dst ≠ some d) (hr : d ∉ slotsOf o) (hg : ∀ g b, o.guard = some (g, b) → guardSlot ops g ≠ some d)
  (hK : ∀ ds x w', K (({ a with defers := ds } : Act).put o.dst x |>.put (some d) v) w' → K' (({ a with defers := ds } : Act).put o.dst x) w')
  (h : Go.wpOp P ops Q i K (a.put (some d) v) w) : Go.wpOp P ops Q i K' a w := by
 have he : execOp (a.put (some d) v).eval o = execOp a.eval o := exec_congr hs fun x hx => eval_put fun hxd => hr (mem_slots (by rw [← hxd]; exact hx))
 have hout : ¬ LetsOut Q := fun ⟨a, w, h⟩ => hQ _ _ _ (by simp) h
 have hk : ∀ x w', K ((a.put (some d) v).put o.dst x) w' → K' (a.put o.dst x) w' := fun x w' h => hK a.defers x w' (by rw [put_put hd] at h; exact h)
 simp only [Go.wpOp, ho, wanted_put hg] at h ⊢
 split
 ·rename_i hw
  simp only [hw, if_true] at h
  rcases h with h | ⟨_, h⟩
  ·refine .inl ?_
   simp only [Oper.wp, he] at h ⊢
   generalize (execOp a.eval o).run P w = r at *
   cases r with
   | ok n w' =>
    cases n <;> simp only [Oper.upon] at h ⊢
    case value => exact hk _ _ h
    case skip => exact hk _ _ h
    case defer D =>
     refine hK (D :: a.defers) _ _ ?_
     have : ({ (a.put (some d) v) with defers := D :: (a.put (some d) v).defers } : Act) = ({ a with defers := D :: a.defers } : Act).put (some d) v := rfl
     rw [this, put_put hd] at h; exact h
    case enter =>
     refine Calls.mono h fun e w'' h => ?_
     rcases e with _ | _ | _
     ·exact hk _ _ h
     ·exact absurd h (hQ _ _ _ (by simp))
     ·exact absurd h hout
    case row => exact Rows.mono h fun _ _ h => hk _ _ h
   | halt x w' =>
    cases x <;> simp only [Oper.upon] at h ⊢
    exact absurd h (hQ _ _ _ (by simp))
  ·exact absurd h hout
 ·rename_i hw
  simp only [hw] at h
  exact hk _ _ h
theorem front_run {Q : Exit → Act → World → Prop} (hQ : ∀ e a w, e ≠ .normal → ¬ Q e a w) {j d : Nat} {p : Oper} (hf : Front ops j p d) :
  ∀ (fuel : Nat) (listed : Array Bool) (a : Act) (w : World) (v : Value), listed.size = ops.size → Closed ops (fun k => listed.getD k false) → j ∈ Region.ready .any ops listed →
   (∀ w', (execOp a.eval p).run P w' = .ok (.value v) w') → wpAny P .any ops Q fuel (listed.setIfInBounds j true) (a.put (some d) v) w → wpAny P .any ops Q (fuel + 1) listed a w := by
 intro fuel
 have key : ∀ {listed : Array Bool} {i : Nat}, listed.size = ops.size → i ∈ Region.ready .any ops listed → j ∈ Region.ready .any ops listed → i ≠ j → i ∈ Region.ready .any ops (listed.setIfInBounds j true) := by
  intro listed i hsz hi hj hij
  obtain ⟨o, ho, h1, h2⟩ := (ready_iff hsz).1 hi
  obtain ⟨p', hp', _⟩ := (ready_iff hsz).1 hj
  have hjl : j < listed.size := by rw [hsz]; exact (Array.getElem?_eq_some_iff.1 hp').1
  refine (ready_iff (by simpa using hsz)).2 ⟨o, ho, ?_, fun k hk => ?_⟩
  ·rw [set_getD hjl, if_neg (Ne.symm hij)]; exact h1
  ·rw [set_getD hjl]; split
   ·rfl
   ·exact h2 k hk
 have first : ∀ (fuel : Nat) (listed : Array Bool) (a : Act) (w : World) (v : Value), (∀ w', (execOp a.eval p).run P w' = .ok (.value v) w') → wpAny P .any ops Q fuel (listed.setIfInBounds j true) (a.put (some d) v) w →
   Go.wpOp P ops Q j (wpAny P .any ops Q fuel (listed.setIfInBounds j true)) a w := by
  intro fuel listed a w v hex h
  simp only [Go.wpOp, hf.here]
  rw [if_pos (by simp [Region.wanted, hf.guard])]
  refine .inl ?_
  simp only [Oper.wp, hex w, Oper.upon, hf.dst]
  exact h
 induction fuel with
 | zero =>
  intro listed a w v hsz hc hj hex h
  refine ⟨fun hr => absurd hj (by rw [hr]; simp), fun i hi => ?_⟩
  by_cases hij : i = j
  ·subst hij; exact first 0 listed a w v hex h
  ·exact absurd (key hsz hi hj hij) (by rw [h.1]; simp)
 | succ fuel ih =>
  intro listed a w v hsz hc hj hex h
  refine ⟨fun hr => absurd hj (by rw [hr]; simp), fun i hi => ?_⟩
  by_cases hij : i = j
  ·subst hij; exact first (fuel + 1) listed a w v hex h
  ·obtain ⟨o, ho, h1, h2⟩ := (ready_iff hsz).1 hi
   obtain ⟨p', hp', k1, k2⟩ := (ready_iff hsz).1 hj
   rw [hf.here] at hp'; cases hp'
   have hjl : j < listed.size := by rw [hsz]; exact (Array.getElem?_eq_some_iff.1 hf.here).1
   have hil : i < listed.size := by rw [hsz]; exact (Array.getElem?_eq_some_iff.1 ho).1
   obtain ⟨s1, s2, s3, s4, s5⟩ := hf.other i o ho hij
   have hr : d ∉ slotsOf o := fun hm => by
    have := reach_listed hc ops.size i j o ho h2 (s3 hm)
    rw [k1] at this; cases this
   have hr' : ∀ s, o.dst = some s → s ∉ slotsOf p := fun s hs hm => by
    rcases s4 s hs hm with s4 | s4
    ·have := reach_listed hc ops.size j i p hf.here k2 s4
     rw [h1] at this; cases this
    ·have := reach_listed hc ops.size i j o ho h2 s4
     rw [k1] at this; cases this
   refine wpOp_swap hQ ho s1 s2 hr s5 (fun ds x w' hk => ?_) (h.2 i (key hsz hi hj hij))
   rw [Array.setIfInBounds_comm _ _ (Ne.symm hij)] at hk
   refine ih _ _ _ v (by simpa using hsz) (hc.step hil ho h2) ((ready_iff (by simpa using hsz)).2 ⟨p, hf.here, by rw [set_getD hil, if_neg hij]; exact k1, fun k hk' => ?_⟩) (fun w' => ?_) hk
   ·rw [set_getD hil]; split
    ·rfl
    ·exact k2 k hk'
   ·rw [← hex w']
    congr 1
    refine exec_congr hf.sel fun x hx => ?_
    cases hod : o.dst with
    | none => cases x <;> rfl
    | some e =>
     rw [eval_put (fun hxe => hr' e hod (mem_slots (by rw [← hxe]; exact hx)))]
     cases x <;> rfl
def isSlice : AV → Bool
 | .sl _ _ _ => true
 | .so _ _ => true
 | _ => false
def frontV (P : Program) (op : Op) (σ : St) (K : AV → Prop) : Prop :=
 match op with
 | .move x => K (σ.ev x)
 | .indexAddr T x i => isSlice (σ.ev x) = true ∧ evIndexAddr P T (σ.ev x) (σ.ev i) K
 | _ => False
theorem frontV_sound {p : Oper} {σ : St} {K : AV → Prop} (h : frontV P p.op σ K) :
  ∃ y, K y ∧ ∀ (G : Nat → Status) (a : Act) (w : World), Good G w → (∀ x, VRel G w (σ.ev x) (a.eval x)) → ∃ v, VRel G w y v ∧ ∀ w', (execOp a.eval p).run P w' = .ok (.value v) w' := by
 unfold frontV at h
 split at h
 ·rename_i x ho
  exact ⟨_, h, fun G a w _ hv => ⟨_, hv x, fun w' => by simp [execOp, ho]⟩⟩
 ·rename_i T x i ho
  obtain ⟨hsl, h⟩ := h
  unfold evIndexAddr at h
  split at h
  ·rename_i k n hi
   split at h
   ·rename_i E t es xs hT hx
    obtain ⟨⟨⟨sz, by_, z⟩, hq, rfl⟩, h0, h1, hK⟩ := h
    refine ⟨_, hK, fun G a w hg hv => ?_⟩
    have hu := hv i; rw [hi] at hu
    have hu := hu.sc_inv
    have hv' := hv x; rw [hx] at hv'
    obtain ⟨ao, c, hvx, h2, h3, _, h4⟩ := hv'.sl_inv
    rcases h4 with rfl | ⟨b, off, vals, rfl, hs⟩
    ·simp at h1; omega
    ·refine ⟨.pointer (some ⟨b, off + n.toNat * sz + 0, none⟩), .pe _ _ _ _ _ _ _ c (by rw [hvx] at hv'; exact hv') (by omega), fun w' => ?_⟩
     simp [execOp, ho, hvx, hu, Instr.indexAt, asIntOf, run_underlying hT, h0, h1, run_sizeOf hq, Addr.add_none]
   ·rename_i E t xs hT hx
    obtain ⟨⟨⟨sz, by_, z⟩, hq, rfl⟩, h0, h1, hK⟩ := h
    refine ⟨_, hK, fun G a w hg hv => ?_⟩
    have hu := hv i; rw [hi] at hu
    have hu := hu.sc_inv
    have hv' := hv x; rw [hx] at hv'
    obtain ⟨ao, c, hvx, h3, _, h4⟩ := hv'.so_inv
    rcases h4 with rfl | ⟨b, vals, rfl, hs⟩
    ·simp at h1; omega
    ·refine ⟨.pointer (some ⟨b, 0 + n.toNat, none⟩), .po _ _ _ _ _ c (by rw [hvx] at hv'; exact hv') (by omega), fun w' => ?_⟩
     simp [execOp, ho, hvx, hu, Instr.indexAt, asIntOf, run_underlying hT, h0, h1, run_sizeOf hq, Addr.add_none]
   ·rename_i hx
    rw [hx] at hsl; simp [isSlice] at hsl
   ·rename_i len E hT
    exfalso
    obtain ⟨hp, _⟩ := h
    generalize σ.ev x = y at hsl hp
    cases y <;> simp [isSlice, isPtr] at hsl hp
   ·exact h.elim
  ·exact h.elim
 ·exact h.elim
structure PlanX (ops : Array Oper) (F : List Nat) (m : Nat) : Prop where
 le : m ≤ ops.size
 lt : ∀ i o, ops[i]? = some o → ∀ k ∈ edges o, k < i
 head : ∀ i o, ops[i]? = some o → i < m → F.contains i = false → o.guard = none ∧ ∃ d, o.dst = some d ∧ d ∉ slotsOf o ∧ ∀ j p s, j < m → j ≠ i → ops[j]? = some p → p.dst = some s → s ≠ d ∧ (s ∈ slotsOf o → if j < i then reach ops ops.size i j = true else reach ops ops.size j i = true)
 tail : ∀ i o, ops[i]? = some o → m ≤ i → F.contains i = false → ∀ j, j < i → F.contains j = false → reach ops ops.size i j = true
 front : ∀ i o, ops[i]? = some o → F.contains i = true → ∃ d, Front ops i o d
def walkT (P : Program) (ops : Array Oper) (F : List Nat) : Nat → List Oper → St → (St → Prop) → Prop
 | _, [], σ, K => K σ
 | k, o :: l, σ, K => if F.contains k = true then walkT P ops F (k + 1) l σ K else opsA P ops [o] σ fun σ' => walkT P ops F (k + 1) l σ' K
theorem tail_runX {F : List Nat} {m : Nat} {G0 : Orig} {w0 : World} {K : St → Prop} {Q : Exit → Act → World → Prop} (hp : PlanX ops F m) (h0 : True) (hQ : ∀ σ' G' a' w', K σ' → SRel G0 w0 σ' G' a' w' → Q .normal a' w') :
  ∀ (r fuel k : Nat) (listed : Array Bool) (U : List Nat) (σ : St) (G : Nat → Status) (a : Act) (w : World), k + r = ops.size → Left ops listed U → U.length = fuel → m ≤ k → (∀ i, i < ops.size → (listed.getD i false = true ↔ i < k ∨ F.contains i = true)) →
   Closed ops (fun k => listed.getD k false) → walkT P ops F k (ops.toList.drop k) σ K → SRel G0 w0 σ G a w → wpAny P .any ops Q fuel listed a w := by
 intro r
 induction r with
 | zero =>
  intro fuel k listed U σ G a w hkr hl hU hmk hk hc hw h
  have hUn : U = [] := by
   apply List.eq_nil_iff_forall_not_mem.2
   intro i hi
   obtain ⟨h1, h2⟩ := (hl.mem i).1 hi
   have := (hk i h1).2 (.inl (by omega))
   rw [h2] at this; cases this
  subst hUn
  simp at hU; subst hU
  have hkk : k = ops.size := by omega
  subst hkk
  refine ⟨?_, ?_⟩
  ·apply List.eq_nil_iff_forall_not_mem.2
   intro i hi
   obtain ⟨o, ho, h1, _⟩ := (ready_iff hl.size).1 hi
   have := (hl.mem i).2 ⟨(Array.getElem?_eq_some_iff.1 ho).1, h1⟩
   simp at this
  ·have hd : ops.toList.drop ops.size = [] := by simp
   rw [hd] at hw
   exact hQ σ G a w hw h
 | succ r ih =>
  intro fuel k listed U σ G a w hkr hl hU hmk hk hc hw h
  have hltk : k < ops.size := by omega
  obtain ⟨ok, hok⟩ : ∃ o, ops[k]? = some o := ⟨ops[k], by simp [hltk]⟩
  have hdrop : ops.toList.drop k = ok :: ops.toList.drop (k + 1) := by
   have hlt' : k < ops.toList.length := by simpa using hltk
   rw [List.drop_eq_getElem_cons hlt']
   have : ops.toList[k] = ok := by
    have := Array.getElem?_eq_some_iff.1 hok
    simpa using this.2
   rw [this]
  rw [hdrop] at hw
  simp only [walkT] at hw
  split at hw
  ·rename_i hF
   refine ih fuel (k + 1) listed U σ G a w (by omega) hl hU (by omega) (fun i hi => ?_) hc hw h
   rw [hk i hi]
   constructor
   ·rintro (h | h)
    ·exact .inl (by omega)
    ·exact .inr h
   ·rintro (h | h)
    ·by_cases hik : i = k
     ·subst hik; exact .inr hF
     ·exact .inl (by omega)
    ·exact .inr h
  ·rename_i hF
   have hF' : F.contains k = false := by simpa using hF
   have hkf : listed.getD k false = false := by
    cases hb : listed.getD k false
    ·rfl
    ·rcases (hk k hltk).1 hb with h | h
     ·omega
     ·rw [hF'] at h; cases h
   have hmem : k ∈ U := (hl.mem k).2 ⟨hltk, hkf⟩
   have hUn : U ≠ [] := by intro h; rw [h] at hmem; simp at hmem
   obtain ⟨l1, l2⟩ := hl.step hmem
   obtain ⟨f, rfl⟩ : ∃ f, fuel = f + 1 := ⟨fuel - 1, by omega⟩
   refine ⟨fun hr => absurd hr (some_ready hl hp.lt hUn), fun i hi => ?_⟩
   obtain ⟨o, ho, h1, h2⟩ := (ready_iff hl.size).1 hi
   have hlt := (Array.getElem?_eq_some_iff.1 ho).1
   have hni : ¬ (i < k ∨ F.contains i = true) := fun h => by have := (hk i hlt).2 h; rw [h1] at this; cases this
   have hiF : F.contains i = false := by
    cases hb : F.contains i
    ·rfl
    ·exact absurd (.inr hb) hni
   have hik : i = k := by
    apply Classical.byContradiction
    intro hne
    have hlk : k < i := by
     have : ¬ i < k := fun h => hni (.inl h)
     omega
    have := reach_listed hc ops.size i k o ho h2 (hp.tail i o ho (by omega) hiF k hlk hF')
    rw [hkf] at this; cases this
   subst hik
   obtain rfl : o = ok := by rw [ho] at hok; exact Option.some.inj hok
   have hsz : i < listed.size := by rw [hl.size]; exact hlt
   have hk' : ∀ j, j < ops.size → ((listed.setIfInBounds i true).getD j false = true ↔ j < i + 1 ∨ F.contains j = true) := fun j hj => by
    rw [set_getD hsz]
    by_cases hij : i = j
    ·subst hij; simp
    ·rw [if_neg hij, hk j hj]
     constructor
     ·rintro (h | h)
      ·exact .inl (by omega)
      ·exact .inr h
     ·rintro (h | h)
      ·exact .inl (by omega)
      ·exact .inr h
   have hcont : ∀ {σ' G' a' w'}, walkT P ops F (i + 1) (ops.toList.drop (i + 1)) σ' K → SRel G0 w0 σ' G' a' w' → wpAny P .any ops Q f (listed.setIfInBounds i true) a' w' := fun hk2 hs2 =>
    ih f (i + 1) _ _ _ _ _ _ (by omega) l1 (by omega) (by omega) hk' (hc.step hsz ho h2) hk2 hs2
   simp only [opsA] at hw
   simp only [Go.wpOp, ho]
   have run : ∀ {σ}, AM.wpOp P o σ (fun σ' => walkT P ops F (i + 1) (ops.toList.drop (i + 1)) σ' K) → SRel G0 w0 σ G a w → o.wp P a w (wpAny P .any ops Q f (listed.setIfInBounds i true)) Q := fun hw h =>
    wpOp_sound hw h h0 _ _ fun σ' G' a' w' hk hs => hcont hk hs
   cases hg : o.guard with
   | none =>
    simp only [hg] at hw
    rw [if_pos (by simp [Region.wanted, hg])]
    exact .inl (run hw h)
   | some p =>
    obtain ⟨j, want⟩ := p
    simp only [hg] at hw
    cases hgs : guardSlot ops j with
    | none => simp [hgs] at hw
    | some g =>
     simp only [hgs] at hw
     split at hw
     ·rename_i b hb
      have hv := h.slots g
      rw [hb] at hv
      have hy := yielded_bool hgs hv.sc_inv
      by_cases hbw : b = want
      ·subst hbw
       rw [if_pos (by simp [Region.wanted, hg, hy])]
       exact .inl (run (hw.1 rfl) (h.same hb))
      ·rw [if_neg (by simp [Region.wanted, hg, hy, hbw])]
       have hbn : b = !want := by cases b <;> cases want <;> simp_all
       obtain ⟨hdst, hw⟩ := hw.2 hbn
       have hs := (h.same (g := g) (x := .sc (.bool (!want))) (by rw [hb, hbn])).add (.refl G w) h.good (fun _ _ h => h) (d := o.dst) (x := .sc undef) (v := undef) (by rw [put_n]; exact hdst) (.froz (.sc _))
       exact hcont hw hs
     ·rename_i vs hb
      have hv := h.slots g
      rw [hb] at hv
      have hy := yielded_none hgs hv.sc_inv
      rw [if_neg (by simp [Region.wanted, hg, hy])]
      obtain ⟨hdst, hw⟩ := hw
      have hs := h.add (.refl G w) h.good (fun _ _ h => h) (d := o.dst) (x := .sc undef) (v := undef) hdst (.froz (.sc _))
      exact hcont hw hs
     ·exact hw.elim
theorem head_runX {F : List Nat} {m : Nat} {G0 : Orig} {w0 : World} {σ : St} {K : St → Prop} {Q : Exit → Act → World → Prop} {vs : List (Nat × AV)} (hp : PlanX ops F m) (h0 : True) (hQ : ∀ σ' G' a' w', K σ' → SRel G0 w0 σ' G' a' w' → Q .normal a' w') (hvl : vs.length = m) (hap : Apart vs)
  (hK : walkT P ops F m (ops.toList.drop m) (puts σ vs) K)
  (hst : ∀ i o, i < m → ops[i]? = some o → ∃ d y, vs[i]? = some (d, y) ∧ o.dst = some d ∧ d < σ.n ∧ (F.contains i = false → StepOk P o d (puts σ (vs.take i)).ev σ.boxes y)) :
  ∀ (fuel : Nat) (listed : Array Bool) (U : List Nat) (τ : St) (G : Nat → Status) (a : Act) (w : World), Left ops listed U → U.length = fuel → (∀ i, i < ops.size → m ≤ i → (listed.getD i false = true ↔ F.contains i = true)) → (∀ i, i < ops.size → F.contains i = true → listed.getD i false = true) →
   Closed ops (fun k => listed.getD k false) → At vs (fun i => listed.getD i false) σ τ → SRel G0 w0 τ G a w →
   (∀ i o d, ops[i]? = some o → i < m → o.dst = some d → creates o.op = true → listed.getD i false = false → Fresh d G) → wpAny P .any ops Q fuel listed a w := by
 intro fuel
 induction fuel with
 | zero =>
  intro listed U τ G a w hl hU hm hF hc hat h hfr
  have hUn : U = [] := List.eq_nil_of_length_eq_zero hU
  subst hUn
  have hall : ∀ i, i < ops.size → listed.getD i false = true := fun i hi => by
   cases hb : listed.getD i false
   ·have := (hl.mem i).2 ⟨hi, hb⟩; simp at this
   ·rfl
  have heq : SRel G0 w0 (puts σ vs) G a w := by
   have hpa := puts_at m vs σ hap
   rw [List.take_of_length_le (by omega)] at hpa
   refine h.slotsEq (by rw [hpa.n, hat.n]) (by rw [hpa.boxes, hat.boxes]) fun s => ?_
   by_cases hs : ∀ (i d : Nat) (y : AV), vs[i]? = some (d, y) → d ≠ s
   ·rw [hpa.rest s hs, hat.rest s hs]
   ·have : ∃ (i : Nat) (y : AV), vs[i]? = some (s, y) := by
     apply Classical.byContradiction
     intro hcon
     exact hs fun i d y hi hds => hcon ⟨i, y, by rw [← hds]; exact hi⟩
    obtain ⟨i, y, hi⟩ := this
    have hil : i < m := by rw [← hvl]; exact (List.getElem?_eq_some_iff.1 hi).1
    rw [hpa.dst i s y hi, hat.dst i s y hi]
    simp [hil, hall i (by have := hp.le; omega)]
  refine tail_runX (P := P) hp h0 hQ (ops.size - m) 0 m listed [] (puts σ vs) G a w (by have := hp.le; omega) hl rfl (Nat.le_refl m) (fun i hi => ⟨fun hb => ?_, fun _ => hall i hi⟩) hc hK heq
  by_cases him : i < m
  ·exact .inl him
  ·exact .inr ((hm i hi (by omega)).1 hb)
 | succ fuel ih =>
  intro listed U τ G a w hl hU hm hF hc hat h hfr
  have hUn : U ≠ [] := by intro h; rw [h] at hU; simp at hU
  by_cases hdone : ∀ i, i < m → listed.getD i false = true
  ·have heq : SRel G0 w0 (puts σ vs) G a w := by
    have hpa := puts_at m vs σ hap
    rw [List.take_of_length_le (by omega)] at hpa
    refine h.slotsEq (by rw [hpa.n, hat.n]) (by rw [hpa.boxes, hat.boxes]) fun s => ?_
    by_cases hs : ∀ (i d : Nat) (y : AV), vs[i]? = some (d, y) → d ≠ s
    ·rw [hpa.rest s hs, hat.rest s hs]
    ·have : ∃ (i : Nat) (y : AV), vs[i]? = some (s, y) := by
      apply Classical.byContradiction
      intro hcon
      exact hs fun i d y hi hds => hcon ⟨i, y, by rw [← hds]; exact hi⟩
     obtain ⟨i, y, hi⟩ := this
     have hil : i < m := by rw [← hvl]; exact (List.getElem?_eq_some_iff.1 hi).1
     rw [hpa.dst i s y hi, hat.dst i s y hi]
     simp [hil, hdone i hil]
   refine tail_runX (P := P) hp h0 hQ (ops.size - m) (fuel + 1) m listed U (puts σ vs) G a w (by have := hp.le; omega) hl hU (Nat.le_refl m) (fun i hi => ⟨fun hb => ?_, fun hor => ?_⟩) hc hK heq
   ·by_cases him : i < m
    ·exact .inl him
    ·exact .inr ((hm i hi (by omega)).1 hb)
   ·rcases hor with hor | hor
    ·exact hdone i hor
    ·exact hF i hi hor
  ·refine ⟨fun hr => absurd hr (some_ready hl hp.lt hUn), fun i hi => ?_⟩
   obtain ⟨o, ho, h1, h2⟩ := (ready_iff hl.size).1 hi
   have hlt := (Array.getElem?_eq_some_iff.1 ho).1
   have hiF : F.contains i = false := by
    cases hb : F.contains i
    ·rfl
    ·have := hF i hlt hb; rw [h1] at this; cases this
   have him : i < m := by
    apply Classical.byContradiction
    intro hge
    refine hdone fun j hj => ?_
    cases hjF : F.contains j
    ·exact reach_listed hc ops.size i j o ho h2 (hp.tail i o ho (by omega) hiF j (by omega) hjF)
    ·exact hF j (by have := hp.le; omega) hjF
   obtain ⟨d, y, hv, hd, hdn, hstep⟩ := hst i o him ho
   have hstep := hstep hiF
   obtain ⟨hg, d', hd', hself, hpair⟩ := hp.head i o ho him hiF
   rw [hd] at hd'; cases hd'
   have hmem : i ∈ U := (hl.mem i).2 ⟨hlt, h1⟩
   obtain ⟨l1, l2⟩ := hl.step hmem
   have hsz : i < listed.size := by rw [hl.size]; exact hlt
   have hops : ∀ x ∈ o.op.operands, VRel G w ((puts σ (vs.take i)).ev x) (a.eval x) := by
    intro x hx
    have hrel := h.ev x
    suffices (puts σ (vs.take i)).ev x = τ.ev x by rw [this]; exact hrel
    cases x with
    | tmp s =>
     simp only [St.ev]
     have hpa := puts_at i vs σ hap
     have hsm : s ∈ slotsOf o := by
      unfold slotsOf
      exact List.mem_filterMap.2 ⟨.tmp s, by simpa using hx, rfl⟩
     by_cases hs : ∀ (i d : Nat) (y : AV), vs[i]? = some (d, y) → d ≠ s
     ·rw [hpa.rest s hs, hat.rest s hs]
     ·have : ∃ (j : Nat) (y : AV), vs[j]? = some (s, y) := by
       apply Classical.byContradiction
       intro hcon
       exact hs fun i d y hi hds => hcon ⟨i, y, by rw [← hds]; exact hi⟩
      obtain ⟨j, y', hj⟩ := this
      have hjl : j < m := by rw [← hvl]; exact (List.getElem?_eq_some_iff.1 hj).1
      obtain ⟨p, hpj⟩ : ∃ p, ops[j]? = some p := ⟨ops[j]'(by have := hp.le; omega), by have := hp.le; simp [show j < ops.size by omega]⟩
      obtain ⟨d'', y'', hv'', hds'', _⟩ := hst j p hjl hpj
      rw [hj] at hv''; cases hv''
      have hji : j ≠ i := fun hji => by subst hji; rw [hv] at hj; cases hj; exact hself hsm
      have hre := (hpair j p s hjl hji hpj hds'').2 hsm
      rw [hpa.dst j s y' hj, hat.dst j s y' hj]
      by_cases hjlt : j < i
      ·rw [if_pos hjlt] at hre
       have := reach_listed hc ops.size i j o ho h2 hre
       simp [hjlt, this]
      ·rw [if_neg hjlt] at hre
       have hjf : listed.getD j false = false := by
        cases hb : listed.getD j false
        ·rfl
        ·have := reach_listed hc ops.size j i p hpj (fun k hk => hc j p hpj hb k hk) hre
         rw [h1] at this; cases this
       simp [hjlt, hjf]
    | const v => rfl
    | func f => rfl
    | global g => rfl
   simp only [Go.wpOp, ho]
   rw [if_pos (by simp [Region.wanted, hg])]
   refine .inl (hstep _ G a w h.good (by rw [← hat.boxes]; exact h.boxes) (fun hcr => hfr i o d ho him hd hcr h1) hops _ _ fun v w' G' g1 g2 g3 g4 => ?_)
   have hs' : SRel G0 w0 (τ.put (some d) y) G' (a.put o.dst v) w' := by
    rw [hd]
    exact h.add g2 g3 g4.boxes (by simp [dstOk, hat.n, hdn]) g1
   refine ih _ _ _ G' _ _ l1 (by omega) (fun j hjs hj => ?_) (fun j hjs hj => ?_) (hc.step hsz ho h2) (hat.step hap hv (fun j hj => ?_) ?_) hs' (fun j oj dj hoj hjm hdj hcr hjf => ?_)
   ·rw [set_getD hsz, if_neg (by omega)]; exact hm j hjs hj
   ·rw [set_getD hsz]; split
    ·rfl
    ·exact hF j hjs hj
   ·simp only [set_getD hsz]; rw [if_neg (Ne.symm hj)]
   ·simp only [set_getD hsz]; simp
   ·rw [set_getD hsz] at hjf
    by_cases hij : i = j
    ·rw [if_pos hij] at hjf; cases hjf
    ·rw [if_neg hij] at hjf
     have hne := (hpair j oj dj hjm (Ne.symm hij) hoj hdj).1
     exact g4.fresh (Ne.symm hne) (hfr j oj dj hoj hjm hdj hcr hjf)
def walkX (P : Program) (ops : Array Oper) (F : List Nat) (m : Nat) : Nat → List Oper → St → (St → Prop) → Prop
 | k, [], σ, K => walkT P ops F k [] σ K
 | k, o :: l, σ, K => if k < m then
   (if F.contains k = true then match o.dst with
    | some d => d < σ.n ∧ walkX P ops F m (k + 1) l (σ.put (some d) (σ.ev (.tmp d))) K
    | none => False
   else headOp P o σ fun σ' => walkX P ops F m (k + 1) l σ' K)
  else walkT P ops F k (o :: l) σ K
theorem walkX_vals {F : List Nat} {m : Nat} {K : St → Prop} : ∀ (l : List Oper) (k : Nat) (σ : St), k ≤ m → m ≤ k + l.length → walkX P ops F m k l σ K → ∃ vs : List (Nat × AV), vs.length = m - k ∧ walkT P ops F m (l.drop (m - k)) (puts σ vs) K ∧
  ∀ i o, k + i < m → l[i]? = some o → ∃ d y, vs[i]? = some (d, y) ∧ o.dst = some d ∧ d < σ.n ∧ (F.contains (k + i) = true → y = (puts σ (vs.take i)).get d) ∧ (F.contains (k + i) = false → StepOk P o d (puts σ (vs.take i)).ev σ.boxes y)
 | [], k, σ, h1, h2, h => by
  have : m = k := by simp at h2; omega
  subst this
  exact ⟨[], by simp, by simpa [walkX, puts] using h, fun i o hi ho => by simp at ho⟩
 | o :: l, k, σ, h1, h2, h => by
  simp only [walkX] at h
  split at h
  ·rename_i hkm
   have e : m - k = (m - (k + 1)) + 1 := by omega
   have wrap : ∀ {d : Nat} {y : AV}, o.dst = some d → d < σ.n → (F.contains k = true → y = σ.get d) → (F.contains k = false → StepOk P o d σ.ev σ.boxes y) → walkX P ops F m (k + 1) l (σ.put (some d) y) K →
     ∃ vs : List (Nat × AV), vs.length = m - k ∧ walkT P ops F m ((o :: l).drop (m - k)) (puts σ vs) K ∧
      ∀ i o', k + i < m → (o :: l)[i]? = some o' → ∃ d y, vs[i]? = some (d, y) ∧ o'.dst = some d ∧ d < σ.n ∧ (F.contains (k + i) = true → y = (puts σ (vs.take i)).get d) ∧ (F.contains (k + i) = false → StepOk P o' d (puts σ (vs.take i)).ev σ.boxes y) := by
    intro d y g1 g2 g3 g4 g5
    obtain ⟨vs, k1, k2, k3⟩ := walkX_vals l (k + 1) _ (by omega) (by simp at h2; omega) g5
    refine ⟨(d, y) :: vs, by simp [k1]; omega, by rw [e, List.drop_succ_cons]; exact k2, fun i o' hi ho => ?_⟩
    cases i with
    | zero =>
     simp at ho; subst ho
     exact ⟨d, y, rfl, g1, g2, g3, g4⟩
    | succ i =>
     obtain ⟨d', y', f1, f2, f3, f4, f5⟩ := k3 i o' (by omega) (by simpa using ho)
     rw [put_n] at f3; rw [put_boxes] at f5
     rw [show k + 1 + i = k + (i + 1) by omega] at f4 f5
     exact ⟨d', y', by simpa using f1, f2, f3, f4, f5⟩
   split at h
   ·rename_i hF
    split at h
    ·rename_i d hd
     exact wrap hd h.1 (fun _ => rfl) (fun hf => by rw [hF] at hf; cases hf) h.2
    ·exact h.elim
   ·rename_i hF
    obtain ⟨d, y, g1, g2, g3, g4⟩ := headOp_sound h
    exact wrap g1 g2 (fun hf => absurd hf hF) (fun _ => g4) g3
  ·have : m = k := by omega
   subst this
   exact ⟨[], by simp, by simpa [puts] using h, fun i o hi ho => by omega⟩
def frontsA (P : Program) (ops : Array Oper) : List Nat → St → (St → Prop) → Prop
 | [], σ, K => K σ
 | j :: F, σ, K => match ops[j]? with
  | some ⟨some d, op, _, _, _, _⟩ => d < σ.n ∧ frontV P op σ fun y => frontsA P ops F (σ.put (some d) y) K
  | _ => False
def noSel (o : Oper) : Bool :=
 match o.op with
 | .select _ _ => false
 | _ => true
theorem noSel_of {o : Oper} (h : noSel o = true) : ∀ cs b, o.op ≠ .select cs b := fun cs b he => by simp [noSel, he] at h
def frontOk (ops : Array Oper) (j : Nat) (p : Oper) : Bool :=
 p.guard.isNone && noSel p && match p.dst with
 | none => false
 | some d => (List.range ops.size).all fun i => i == j || match ops[i]? with
  | none => false
  | some o => noSel o && (o.dst != some d && ((!(slotsOf o).contains d || reach ops ops.size i j) && ((match o.dst with
   | none => true
   | some s => !(slotsOf p).contains s || (reach ops ops.size j i || reach ops ops.size i j)) && match o.guard with
   | none => true
   | some (g, _) => guardSlot ops g != some d)))
def namesOk (ops : Array Oper) : List Nat → List Nat → Bool
 | _, [] => true
 | done, j :: F => !done.contains j && (match ops[j]? with | some p => (edges p).all (fun k => done.contains k) | none => false) && namesOk ops (done ++ [j]) F
def drawOkX (ops : Array Oper) (F : List Nat) (m : Nat) : Bool :=
 decide (m ≤ ops.size) && (namesOk ops [] F && (List.range ops.size).all fun i => match ops[i]? with
  | none => false
  | some o => (edges o).all (fun k => decide (k < i)) && if F.contains i then frontOk ops i o else if i < m then headOk ops m i o else (List.range i).all fun j => F.contains j || reach ops ops.size i j)
theorem frontOk_front {j : Nat} {p : Oper} (hj : ops[j]? = some p) (h : frontOk ops j p = true) : ∃ d, Front ops j p d := by
 simp only [frontOk, Bool.and_eq_true] at h
 obtain ⟨⟨h1, h2⟩, h3⟩ := h
 split at h3
 ·cases h3
 ·rename_i d hd
  refine ⟨d, hj, by simpa using h1, hd, noSel_of h2, fun i o ho hij => ?_⟩
  simp only [List.all_eq_true, List.mem_range] at h3
  have := h3 i (Array.getElem?_eq_some_iff.1 ho).1
  simp only [ho, Bool.or_eq_true, beq_iff_eq, hij, false_or, Bool.and_eq_true, bne_iff_ne, ne_eq, Bool.not_eq_true'] at this
  obtain ⟨g1, g2, g3, g4, g5⟩ := this
  refine ⟨noSel_of g1, g2, fun hm => ?_, fun s hs hm => ?_, fun g b hg => ?_⟩
  ·exact g3.resolve_left (by simpa using hm)
  ·rw [hs] at g4
   simp only [Bool.or_eq_true, Bool.not_eq_true'] at g4
   exact g4.resolve_left (by simpa using hm)
  ·rw [hg] at g5; simpa using g5
theorem drawOkX_plan {F : List Nat} {m : Nat} (h : drawOkX ops F m = true) : PlanX ops F m ∧ namesOk ops [] F = true := by
 simp only [drawOkX, Bool.and_eq_true, decide_eq_true_eq, List.all_eq_true, List.mem_range] at h
 obtain ⟨h1, h0, h2⟩ := h
 have hof : ∀ i o, ops[i]? = some o → (∀ k ∈ edges o, k < i) ∧ (if F.contains i = true then frontOk ops i o else if i < m then headOk ops m i o else (List.range i).all fun j => F.contains j || reach ops ops.size i j) = true := fun i o ho => by
  have := h2 i (Array.getElem?_eq_some_iff.1 ho).1
  rw [ho] at this
  simp only [Bool.and_eq_true, List.all_eq_true, decide_eq_true_eq] at this
  exact this
 refine ⟨⟨h1, fun i o ho => (hof i o ho).1, fun i o ho hi hF => ?_, fun i o ho hi hF j hj hjF => ?_, fun i o ho hF => ?_⟩, h0⟩
 ·have := (hof i o ho).2
  rw [if_neg (by rw [hF]; simp), if_pos hi] at this
  simp only [headOk, Bool.and_eq_true] at this
  obtain ⟨⟨g1, _⟩, g3⟩ := this
  refine ⟨by simpa using g1, ?_⟩
  split at g3
  ·cases g3
  ·rename_i d hd
   simp only [Bool.and_eq_true, List.all_eq_true, List.mem_range, Bool.not_eq_true', Bool.or_eq_true, beq_iff_eq] at g3
   refine ⟨d, hd, by simpa using g3.1, fun j p s hj hji hp hs => ?_⟩
   have := (g3.2 j hj).resolve_left hji
   simp only [hp, hs, Bool.and_eq_true, bne_iff_ne, ne_eq, Bool.or_eq_true, Bool.not_eq_true'] at this
   refine ⟨this.1, fun hm => ?_⟩
   have h' := this.2.resolve_left (by simpa using hm)
   split at h'
   ·rename_i hlt; rw [if_pos hlt]; exact h'
   ·rename_i hlt; rw [if_neg hlt]; exact h'
 ·have := (hof i o ho).2
  rw [if_neg (by rw [hF]; simp), if_neg (by omega)] at this
  simp only [List.all_eq_true, List.mem_range, Bool.or_eq_true] at this
  exact (this j hj).resolve_left (by rw [hjF]; simp)
 ·have := (hof i o ho).2
  rw [if_pos hF] at this
  exact frontOk_front ho this
theorem fronts_run {Q : Exit → Act → World → Prop} (hlt : ∀ i o, ops[i]? = some o → ∀ k ∈ edges o, k < i) (hQ : ∀ e a w, e ≠ .normal → ¬ Q e a w) {G0 : Orig} {w0 : World} {K : St → Prop} :
  ∀ (F done : List Nat) (σ : St) (G : Nat → Status) (a : Act) (w : World) (listed : Array Bool) (U : List Nat), Left ops listed U → Closed ops (fun k => listed.getD k false) → (∀ i, i < ops.size → (listed.getD i false = true ↔ done.contains i = true)) →
   namesOk ops done F = true → (∀ j ∈ F, ∀ p, ops[j]? = some p → ∃ d, Front ops j p d) → frontsA P ops F σ K → SRel G0 w0 σ G a w →
   (∀ σ' a' listed' U', K σ' → Left ops listed' U' → Closed ops (fun k => listed'.getD k false) → (∀ i, i < ops.size → (listed'.getD i false = true ↔ (done ++ F).contains i = true)) → SRel G0 w0 σ' G a' w → wpAny P .any ops Q U'.length listed' a' w) →
   wpAny P .any ops Q U.length listed a w
 | [], done, σ, G, a, w, listed, U, hl, hc, hd, _, _, h, hs, hk => hk σ a listed U h hl hc (by simpa using hd) hs
 | j :: F, done, σ, G, a, w, listed, U, hl, hc, hd, hr, hf, h, hs, hk => by
  simp only [frontsA] at h
  split at h
  ·rename_i d op T pos af g hj
   obtain ⟨hdn, h⟩ := h
   simp only [namesOk, hj, Bool.and_eq_true, Bool.not_eq_true', List.all_eq_true] at hr
   obtain ⟨⟨hr1, hr2⟩, hr3⟩ := hr
   obtain ⟨d', hfr⟩ := hf j (List.mem_cons_self ..) _ hj
   obtain rfl : d = d' := by simpa using hfr.dst
   have hjs := (Array.getElem?_eq_some_iff.1 hj).1
   have hjf : listed.getD j false = false := by
    cases hb : listed.getD j false
    ·rfl
    ·rw [hd j hjs, hr1] at hb; cases hb
   have hmem : j ∈ U := (hl.mem j).2 ⟨hjs, hjf⟩
   obtain ⟨l1, l2⟩ := hl.step hmem
   have hsz : j < listed.size := by rw [hl.size]; exact hjs
   have hedge : ∀ k ∈ edges (⟨some d, op, T, pos, af, g⟩ : Oper), listed.getD k false = true := fun k hk => by
    have hkd := hr2 k hk
    exact (hd k (by have := hlt j _ hj k hk; omega)).2 hkd
   obtain ⟨y, hK, hy⟩ := frontV_sound (p := ⟨some d, op, T, pos, af, g⟩) h
   obtain ⟨v, hv, hex⟩ := hy G a w hs.good (fun x => hs.ev x)
   have hrun := fronts_run hlt hQ F (done ++ [j]) (σ.put (some d) y) G (a.put (some d) v) w (listed.setIfInBounds j true) (U.erase j) l1 (hc.step hsz hj hedge) (fun i hi => by
     rw [set_getD hsz]
     by_cases hij : j = i
     ·subst hij; simp
     ·rw [if_neg hij, hd i hi]; simp [Ne.symm hij]) hr3 (fun j' hj' => hf j' (List.mem_cons_of_mem _ hj')) hK
    (hs.add (.refl G w) hs.good (fun _ _ h => h) (by simp [dstOk, hdn]) hv)
    (fun σ' a' listed' U' k1 k2 k3 k4 k5 => hk σ' a' listed' U' k1 k2 k3 (by simpa using k4) k5)
   rw [← l2]
   exact front_run hQ hfr _ _ _ _ v hl.size hc ((ready_iff hl.size).2 ⟨_, hj, hjf, hedge⟩) hex hrun
  ·exact h.elim
theorem wpAny_normal {Q : Exit → Act → World → Prop} : ∀ (fuel : Nat) (listed : Array Bool) (a : Act) (w : World), wpAny P .any ops (fun e a w => e = .normal ∧ Q e a w) fuel listed a w → wpAny P .any ops Q fuel listed a w := by
 have hop : ∀ {i : Nat} {K K' : Act → World → Prop} {a : Act} {w : World}, (∀ a w, K a w → K' a w) → Go.wpOp P ops (fun e a w => e = .normal ∧ Q e a w) i K a w → Go.wpOp P ops Q i K' a w := by
  intro i K K' a w hk h
  have hout : ¬ LetsOut (fun e a w => e = .normal ∧ Q e a w) := fun ⟨_, _, h, _⟩ => by cases h
  unfold Go.wpOp at h ⊢
  split
  ·rename_i ho; simp only [ho] at h; exact hk _ _ h
  ·rename_i o ho
   simp only [ho] at h
   split
   ·rename_i hw
    simp only [hw, if_true] at h
    rcases h with h | ⟨_, h⟩
    ·refine .inl ?_
     simp only [Oper.wp] at h ⊢
     generalize (execOp a.eval o).run P w = r at *
     cases r with
     | ok n w' =>
      cases n <;> simp only [Oper.upon] at h ⊢
      case value => exact hk _ _ h
      case skip => exact hk _ _ h
      case defer => exact hk _ _ h
      case enter =>
       refine Calls.mono h fun e w'' h => ?_
       rcases e with _ | _ | _
       ·exact hk _ _ h
       ·exact absurd h.1 (by simp)
       ·exact absurd h hout
      case row => exact Rows.mono h fun _ _ h => hk _ _ h
     | halt x w' =>
      cases x <;> simp only [Oper.upon] at h ⊢
      exact absurd h.1 (by simp)
    ·exact absurd h hout
   ·rename_i hw
    simp only [hw] at h
    exact hk _ _ h
 intro fuel
 induction fuel with
 | zero => exact fun listed a w h => ⟨h.1, h.2.2⟩
 | succ fuel ih => exact fun listed a w h => ⟨fun hr => (h.1 hr).2, fun i hi => hop (fun a w h => ih _ a w h) (h.2 i hi)⟩
theorem DrawK.front {l : List Oper} {σ : St} {K : St → Prop} (F : List Nat) (m : Nat) (hm : P.follows .mixedOrders = true) (hok : drawOkX l.toArray F m = true)
  (h : andK (freeAll σ (crs (l.take m)) = true) (frontsA P l.toArray F σ fun σ' => walkX P l.toArray F m 0 l σ' K)) : DrawK P l.toArray σ K := by
 intro G0 w0 G a w id Q h0 hs hQ
 obtain ⟨hfree, h⟩ := h
 obtain ⟨hp, hrow⟩ := drawOkX_plan hok
 refine wp_region_any hm (wpAny_normal _ _ _ _ ?_)
 obtain ⟨G', g1, g2, _⟩ := (hs.drawn (w.drawn + 1)).freshAll h0 (crs (l.take m)) G hfree
 have hgd : ∀ i, (Array.replicate l.toArray.size false).getD i false = false := fun i => by
  by_cases hi : i < l.toArray.size
  ·simp at hi; simp [hi]
  ·simp at hi; simp [hi]
 have hml : m ≤ l.length := by simpa using hp.le
 have := fronts_run (P := P) (ops := l.toArray) (Q := fun e a w => e = .normal ∧ Q e a w) hp.lt (fun e a w he h => he h.1) (G0 := G0) (w0 := w0) (K := fun σ' => walkX P l.toArray F m 0 l σ' K) F [] σ G' a _ (Array.replicate l.toArray.size false) (List.range l.toArray.size)
  ⟨by simp, List.nodup_range, fun i => by rw [List.mem_range, hgd]; simp⟩ (fun i o _ hi => absurd (show (Array.replicate l.toArray.size false).getD i false = true from hi) (by rw [hgd]; simp)) (fun i _ => by rw [hgd]; simp) hrow
  (fun j hj p hjp => hp.front j p hjp (by simpa using hj)) h g1 ?_
 ·simpa using this
 intro σ' a' listed' U' hK k1 k2 k3 k4
 obtain ⟨vs, v1, v2, v3⟩ := walkX_vals l 0 σ' (by omega) (by omega) hK
 have hst : ∀ i o, i < m → l.toArray[i]? = some o → ∃ d y, vs[i]? = some (d, y) ∧ o.dst = some d ∧ d < σ'.n ∧ (F.contains i = true → y = (puts σ' (vs.take i)).get d) ∧ (F.contains i = false → StepOk P o d (puts σ' (vs.take i)).ev σ'.boxes y) := fun i o hi ho => by
  have := v3 i o (by omega) (by simpa using ho)
  simpa using this
 have hvl : vs.length = m := by omega
 have hap : Apart vs := by
  intro i j d y d' y' h1 h2 hij
  have hil : i < m := by have := (List.getElem?_eq_some_iff.1 h1).1; omega
  have hjl : j < m := by have := (List.getElem?_eq_some_iff.1 h2).1; omega
  obtain ⟨oi, hoi⟩ : ∃ p, l.toArray[i]? = some p := ⟨l[i]'(by omega), by simp [show i < l.length by omega]⟩
  obtain ⟨oj, hoj⟩ : ∃ p, l.toArray[j]? = some p := ⟨l[j]'(by omega), by simp [show j < l.length by omega]⟩
  obtain ⟨_, _, k1, k2, _⟩ := hst i oi hil hoi
  obtain ⟨_, _, k3, k4, _⟩ := hst j oj hjl hoj
  rw [h1] at k1; cases k1
  rw [h2] at k3; cases k3
  cases hjF : F.contains j
  ·obtain ⟨_, d1, e1, _, e2⟩ := hp.head j oj hoj hjl hjF
   rw [k4] at e1; cases e1
   exact (e2 i oi d hil hij hoi k2).1
  ·obtain ⟨dj, hfj⟩ := hp.front j oj hoj hjF
   have e1 := hfj.dst
   rw [k4] at e1; cases e1
   have := (hfj.other i oi hoi hij).2.1
   rw [k2] at this
   exact fun h => this (by rw [h])
 refine head_runX (P := P) (σ := σ') (vs := vs) hp h0 (fun σ'' G'' a'' w'' hk hs => ⟨rfl, hQ σ'' G'' a'' w'' hk hs⟩) hvl hap (by simpa using v2) (fun i o hi ho => ?_) U'.length listed' U' σ' G' a' _ k1 rfl (fun i hi _ => by simpa using k3 i hi) (fun i hi hF => (k3 i hi).2 (by simpa using hF)) k2
  ⟨rfl, rfl, fun i d y hi => ?_, fun _ _ => rfl⟩ k4 (fun i o d ho hi hd hcr _ => ?_)
 ·obtain ⟨d, y, e1, e2, e3, _, e4⟩ := hst i o hi ho
  exact ⟨d, y, e1, e2, e3, e4⟩
 ·have him : i < m := by have := (List.getElem?_eq_some_iff.1 hi).1; omega
  obtain ⟨oi, hoi⟩ : ∃ p, l.toArray[i]? = some p := ⟨l[i]'(by omega), by simp [show i < l.length by omega]⟩
  obtain ⟨d', y', e1, e2, e3, e4, _⟩ := hst i oi him hoi
  rw [hi] at e1; cases e1
  split
  ·rename_i hli
   have hF : F.contains i = true := by simpa using (k3 i (by simp; omega)).1 hli
   have := (puts_at i vs σ' hap).dst i d y hi
   rw [if_neg (by simp)] at this
   rw [← this]; exact (e4 hF).symm
  ·rfl
 ·refine g2 d ?_
  rw [crs_eq]
  refine List.mem_filterMap.2 ⟨o, ?_, by rw [if_pos hcr]; exact hd⟩
  refine List.mem_of_getElem? (i := i) ?_
  rw [List.getElem?_take, if_pos hi]; simpa using ho
end
section
variable {P : Program} {n : Nat} {t : List (Nat × AV)} {b : List (List AV)} {F : List Nat} {m k j : Nat} {ops : Array Oper} {l : List Oper}
variable {d : Nat} {T : TypeId} {pos : String} {af : Array Edge} {g : Option (Nat × Bool)} {K : St → Prop}
def fAt (P : Program) (o : Option Oper) (σ : St) (K : St → Prop) : Prop :=
 match o with
 | some ⟨some d, op, _, _, _, _⟩ => d < σ.n ∧ frontV P op σ fun y => K (σ.put (some d) y)
 | _ => False
@[congr] theorem fAt_congr {o o' : Option Oper} {K : St → Prop} {σ σ' : St} (h1 : o = o') (h : mkd σ = σ') : fAt P o σ K = fAt P o' σ' K := by subst_vars; rfl
@[congr] theorem frontsA_congr {K : St → Prop} {σ σ' : St} (h : mkd σ = σ') : frontsA P ops F σ K = frontsA P ops F σ' K := by subst_vars; rfl
@[congr] theorem walkX_congr {K : St → Prop} {σ σ' : St} {k' : Nat} (h1 : k = k') (h : mkd σ = σ') : walkX P ops F m k l σ K = walkX P ops F m k' l σ' K := by subst_vars; rfl
@[congr] theorem walkT_congr {K : St → Prop} {σ σ' : St} {k' : Nat} (h1 : k = k') (h : mkd σ = σ') : walkT P ops F k l σ K = walkT P ops F k' l σ' K := by subst_vars; rfl
@[go_sem] theorem frontsA_nil : frontsA P ops [] ⟨n, t, b⟩ K = K ⟨n, t, b⟩ := rfl
@[go_sem] theorem frontsA_cons : frontsA P l.toArray (j :: F) ⟨n, t, b⟩ K = fAt P l[j]? ⟨n, t, b⟩ fun σ' => frontsA P l.toArray F σ' K := by
 simp only [frontsA, fAt, List.getElem?_toArray]
@[go_sem] theorem fAt_move {x : Operand} : fAt P (some ⟨some d, .move x, T, pos, af, g⟩) ⟨n, t, b⟩ K = andK (d < n) (K (St.put ⟨n, t, b⟩ (some d) (St.ev ⟨n, t, b⟩ x))) := rfl
def selK (c : Bool) (p q : Prop) : Prop := match c with | true => p | false => q
@[congr] theorem selK_congr {c c' : Bool} {p q : Prop} (h : mkd c = c') : selK c p q = selK c' p q := by subst_vars; rfl
@[go_sem] theorem selK_true {p q : Prop} : selK true p q = p := rfl
@[go_sem] theorem selK_false {p q : Prop} : selK false p q = q := rfl
theorem selK_ite {c : Bool} {p q : Prop} : selK c p q = if c = true then p else q := by cases c <;> simp [selK]
theorem selK_dec {c : Prop} [Decidable c] {p q : Prop} : selK (decide c) p q = if c then p else q := by by_cases c <;> simp [selK, *]
@[go_sem] theorem walkT_nil : walkT P ops F k [] ⟨n, t, b⟩ K = K ⟨n, t, b⟩ := rfl
@[go_sem] theorem walkT_cons {o : Oper} : walkT P ops F k (o :: l) ⟨n, t, b⟩ K = selK (F.contains k) (walkT P ops F (k + 1) l ⟨n, t, b⟩ K) (opsA P ops [o] ⟨n, t, b⟩ fun σ' => walkT P ops F (k + 1) l σ' K) := by rw [selK_ite]; rfl
@[go_sem] theorem walkX_nil : walkX P ops F m k [] ⟨n, t, b⟩ K = K ⟨n, t, b⟩ := rfl
@[go_sem] theorem walkX_some {op : Op} : walkX P ops F m k (⟨some d, op, T, pos, af, g⟩ :: l) ⟨n, t, b⟩ K = selK (decide (k < m)) (selK (F.contains k) (andK (d < n) (walkX P ops F m (k + 1) l (St.put ⟨n, t, b⟩ (some d) (St.ev ⟨n, t, b⟩ (.tmp d))) K)) (headOp P ⟨some d, op, T, pos, af, g⟩ ⟨n, t, b⟩ fun σ' => walkX P ops F m (k + 1) l σ' K)) (walkT P ops F k (⟨some d, op, T, pos, af, g⟩ :: l) ⟨n, t, b⟩ K) := by rw [selK_dec, selK_ite]; rfl
@[go_sem] theorem walkX_none {op : Op} : walkX P ops F m k (⟨none, op, T, pos, af, g⟩ :: l) ⟨n, t, b⟩ K = selK (decide (k < m)) (selK (F.contains k) False (headOp P ⟨none, op, T, pos, af, g⟩ ⟨n, t, b⟩ fun σ' => walkX P ops F m (k + 1) l σ' K)) (walkT P ops F k (⟨none, op, T, pos, af, g⟩ :: l) ⟨n, t, b⟩ K) := by rw [selK_dec, selK_ite]; rfl
attribute [go_sem] decide_true decide_false isSlice List.getElem?_cons_succ List.getElem?_cons_zero
end
theorem leV_tup {xs ys : List AV} (h : leC xs ys) : leV (.tup xs) (.tup ys) := leV_sem fun G w v hv => by
 obtain ⟨vs, rfl, h2⟩ := hv.tup_inv
 have := leC_pw h h2
 exact .tup _ _ this.1 this.2
end Go.AM
