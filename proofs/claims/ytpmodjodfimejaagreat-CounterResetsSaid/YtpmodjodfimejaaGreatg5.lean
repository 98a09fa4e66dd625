/-
  The abstract machine: its operations as rules for 'simp only [go_sem]'.
  The abstract machine: a region that draws its order.
  The abstract machine: a drawn region's head, and calls, as rules.
  The types of this program.
-/
import Derived.Test.YtpmodjodfimejaaGreatg4
import Derived.Orders
import Derived.Test.YtpmodjodfimejaaGreatProg
/-! ## AmP -/
namespace Go.AM
open Go.RowKit

theorem beqTF : (true == false) = false := rfl
theorem beqFT : (false == true) = false := rfl
theorem beqTT : (true == true) = true := rfl
theorem beqFF : (false == false) = true := rfl
attribute [go_sem] beqTF beqFT beqTT beqFF
theorem cast0 : ((0 : Nat) : Int) = 0 := rfl
theorem cast1 : ((1 : Nat) : Int) = 1 := rfl
attribute [go_sem] cast0 cast1 Int.cast_ofNat_Int
@[go_sem] theorem cast_lt_lit {a n : Nat} : ((a : Int) < (no_index (OfNat.ofNat n : Int))) = (a < (OfNat.ofNat n : Nat)) := propext Int.ofNat_lt
@[go_sem] theorem lit_lt_cast {a n : Nat} : ((no_index (OfNat.ofNat n : Int)) < (a : Int)) = ((OfNat.ofNat n : Nat) < a) := propext Int.ofNat_lt
@[go_sem] theorem cast_le_lit {a n : Nat} : ((a : Int) ≤ (no_index (OfNat.ofNat n : Int))) = (a ≤ (OfNat.ofNat n : Nat)) := propext Int.ofNat_le
@[go_sem] theorem lit_le_cast {a n : Nat} : ((no_index (OfNat.ofNat n : Int)) ≤ (a : Int)) = ((OfNat.ofNat n : Nat) ≤ a) := propext Int.ofNat_le
@[go_sem] theorem cast_min {a b : Nat} : min (a : Int) (b : Int) = ((min a b : Nat) : Int) := by omega
@[go_sem] theorem cast_max {a b : Nat} : max (a : Int) (b : Int) = ((max a b : Nat) : Int) := by omega
theorem cast_bne {a b : Nat} : ((a : Int) != (b : Int)) = decide (a ≠ b) := by
  by_cases h : a = b
  · subst h; simp
  · have : (a : Int) ≠ b := by omega
    rw [decide_eq_true h]; exact bne_iff_ne.2 this
theorem cast_beq {a b : Nat} : ((a : Int) == (b : Int)) = decide (a = b) := by
  by_cases h : a = b
  · subst h; simp
  · have : (a : Int) ≠ b := by omega
    rw [decide_eq_false h]; exact beq_eq_false_iff_ne.2 this
attribute [go_sem] cast_bne cast_beq
attribute [go_sem] Nat.reduceAdd Nat.reduceMul Nat.reduceEqDiff Nat.reduceLeDiff Nat.reduceLT Nat.reduceSub Nat.reduceDiv Nat.reduceBEq Int.reduceToNat Int.reduceLE Int.reduceLT Int.reduceAdd Int.reduceSub Int.reduceMul Int.reduceNeg if_true if_false
  Bool.false_eq_true decide_true decide_false Bool.and_true Bool.true_and Bool.and_false Bool.false_and Bool.or_true Bool.true_or Bool.or_false Bool.false_or Bool.not_true Bool.not_false and_true true_and not_true_eq_false not_false_eq_true ne_eq Option.isSome_some
  List.length_map List.length_cons List.length_nil List.getElem?_cons_zero List.getElem?_cons_succ List.map_cons List.map_nil Int.toNat_natCast Int.natCast_add List.append_nil Option.map_some Option.map_none List.size_toArray Int.natCast_nonneg Int.ofNat_lt Int.ofNat_le List.getElem?_map List.reverse_cons List.idxOf_cons beq_self_eq_true cond_true cond_false Nat.zero_le List.getElem?_toArray Option.bind_some Option.getD_some reduceCtorEq eq_self and_self false_and and_false List.all_cons List.all_nil bne_self_eq_false Int.reduceEq Int.reduceNe Int.reduceBNe Int.reduceBEq Nat.reduceBNe
section
variable {P : Program} {n : Nat} {t : List (Nat × AV)} {b : List (List AV)}

/-! ### the frame -/
theorem root_small {t : Nat} (h : t < 1048576) : root t = t := Nat.mod_eq_of_lt h
theorem renT_small {ts : List Nat} {t : Nat} (h : t < 1048576) : renT ts t = 2 + ts.idxOf t := by unfold renT; rw [root_small h, Nat.div_eq_of_lt h]; rfl
theorem renT_sub {ts : List Nat} {t i : Nat} (h : t < 1048576) (h2 : 2 + ts.idxOf t < 1048576) : renT ts (subT t i) = subT (2 + ts.idxOf t) i := by
  have h1 := root_sub t i
  rw [root_small h] at h1
  unfold renT; rw [h1]
  unfold subT
  rw [Nat.mod_eq_of_lt h, Nat.div_eq_of_lt h, Nat.mod_eq_of_lt h2, Nat.div_eq_of_lt h2]; omega
theorem sub_add {t i k : Nat} (h : t + k < 1048576) : subT t i + k = subT (t + k) i := by
  unfold subT
  rw [Nat.mod_eq_of_lt (by omega : t < 1048576), Nat.div_eq_of_lt (by omega : t < 1048576), Nat.mod_eq_of_lt h, Nat.div_eq_of_lt h]; omega
theorem sub_lit {t i k : Nat} (h : k < 1048576) : (subT t i = k) = False := eq_false (fun e => by have := sub_big t i; omega)
theorem lit_sub {t i k : Nat} (h : k < 1048576) : (k = subT t i) = False := eq_false (fun e => by have := sub_big t i; omega)
theorem sub_sub {t i s j : Nat} : (subT t i = subT s j) = (t = s ∧ i = j) := propext ⟨sub_inj, fun ⟨h1, h2⟩ => by rw [h1, h2]⟩
theorem sub_big' {t i : Nat} : (1048576 ≤ subT t i) = True := eq_true (sub_big t i)
theorem sub_two {t i : Nat} : (2 ≤ subT t i) = True := eq_true (by have := sub_big t i; omega)
theorem sub_lt2 {t i : Nat} : (subT t i < 2) = False := eq_false (by have := sub_big t i; omega)
attribute [go_sem] root_small root_sub renT_small renT_sub sub_add sub_lit lit_sub sub_sub sub_big' sub_two sub_lt2
@[go_sem] theorem ev_tmp {s : Nat} : St.ev ⟨n, t, b⟩ (.tmp s) = lookT t s := rfl
@[go_sem] theorem ev_const {v : Value} : St.ev ⟨n, t, b⟩ (.const v) = ofLit v := rfl
@[go_sem] theorem ev_func {f : FuncId} : St.ev ⟨n, t, b⟩ (.func f) = .fn f [] := rfl
@[go_sem] theorem put_some {d : Nat} {x : AV} : St.put ⟨n, t, b⟩ (some d) x = ⟨n, putT t d x, b⟩ := rfl
@[go_sem] theorem put_none {x : AV} : St.put ⟨n, t, b⟩ none x = ⟨n, t, b⟩ := rfl
@[go_sem] theorem st_map {f : AV → AV} : St.map ⟨n, t, b⟩ f = ⟨n, mapT f t, mapB f b⟩ := rfl
@[go_sem] theorem st_free {d : Nat} : St.free ⟨n, t, b⟩ d = (decide (d < 16383) && (freeT d t && freeB d b)) := rfl
attribute [go_sem] putMap lookT putT mapT mapB mapTops AV.mapTop freeT freeB AV.allLeaf allLeafs freeLeaf killLeaf freezeLeaf viewLeaf AV.view shiftLeaf shiftTag AV.shift
  dstOk evAll evParts allFz fzLeaf AV.fz AV.one AV.cells AV.leafy isPtr isFn ptrAdd idxOk partOk leafAll storeLeaf updAt updElem setSeg fillA zeroOk lt64 flatLeaf memless AV.tags tagss argT tupA AV.canon renLeaf pbLt noTag
  guardSlot leT leC leB leafConst renRow killRow killS lt64c shiftRow viewRow freezeRow retagRow retagLeaf putLeaf storeRow rowOk AV.rowLike flatRow Nat.reduceMod Nat.mul_zero Nat.add_zero
@[go_sem] theorem ofLit_int {k : IntKind} {i : Int} : ofLit (.int k i) = .sc (.int k i) := rfl
@[go_sem] theorem ofLit_bool {v : Bool} : ofLit (.bool v) = .sc (.bool v) := rfl
@[go_sem] theorem ofLit_string {s : ByteArray} : ofLit (.string s) = .sc (.string s) := rfl
@[go_sem] theorem ofLit_nil : ofLit (.slice none 0 0) = .nil := rfl
@[go_sem] theorem ofLit_pointer : ofLit (.pointer none) = .sc (.pointer none) := rfl
@[go_sem] theorem ofLit_nilFunc : ofLit .nilFunc = .sc .nilFunc := rfl
@[go_sem] theorem ofLit_agg {cs : Array Value} : ofLit (.agg cs) = if (cs.toList.all fun u => u.oneCell') = true then .ag (cs.toList.map leafConst) else .any := rfl
@[go_sem] theorem ofConst_agg {cs : Array Value} : ofConst (.agg cs) = .ag (cs.toList.map leafConst) := rfl
@[go_sem] theorem ofConst_int {k : IntKind} {i : Int} : ofConst (.int k i) = .sc (.int k i) := rfl
@[go_sem] theorem ofConst_bool {v : Bool} : ofConst (.bool v) = .sc (.bool v) := rfl
@[go_sem] theorem ofConst_string {s : ByteArray} : ofConst (.string s) = .sc (.string s) := rfl
@[go_sem] theorem ofConst_nil : ofConst (.slice none 0 0) = .nil := rfl
@[go_sem] theorem leafConst_int {k : IntKind} {i : Int} : leafConst (.int k i) = .sc (.int k i) := rfl
@[go_sem] theorem leafConst_bool {v : Bool} : leafConst (.bool v) = .sc (.bool v) := rfl
@[go_sem] theorem leafConst_string {s : ByteArray} : leafConst (.string s) = .sc (.string s) := rfl
@[go_sem] theorem leafConst_nil : leafConst (.slice none 0 0) = .nil := rfl
@[go_sem] theorem oneCell_int {k : IntKind} {i : Int} : Value.oneCell' (.int k i) = true := rfl
@[go_sem] theorem oneCell_bool {v : Bool} : Value.oneCell' (.bool v) = true := rfl
@[go_sem] theorem oneCell_string {s : ByteArray} : Value.oneCell' (.string s) = true := rfl
@[go_sem] theorem oneCell_slice {a : Option Addr} {l c : Nat} : Value.oneCell' (.slice a l c) = true := rfl
@[go_sem] theorem oneCell_pointer {a : Option Addr} : Value.oneCell' (.pointer a) = true := rfl
@[go_sem] theorem cells_int {k : IntKind} {i : Int} : Value.cells (.int k i) = #[.int k i] := rfl
@[go_sem] theorem cells_bool {v : Bool} : Value.cells (.bool v) = #[.bool v] := rfl
@[go_sem] theorem cells_string {s : ByteArray} : Value.cells (.string s) = #[.string s] := rfl
@[go_sem] theorem cells_slice {a : Option Addr} {l c : Nat} : Value.cells (.slice a l c) = #[.slice a l c] := rfl
@[go_sem] theorem cells_agg {cs : Array Value} : Value.cells (.agg cs) = cs := rfl
@[go_sem] theorem typed_sc {d : Nat} {T : TypeId} {v : Value} : typed P d T (.sc v) = .sc v := rfl
@[go_sem] theorem typed_sl {d : Nat} {T : TypeId} {t es : Nat} {xs : List AV} : typed P d T (.sl t es xs) = .sl t es xs := rfl
@[go_sem] theorem typed_mp {d : Nat} {T : TypeId} {P' : Program} {t : Nat} {k e : TypeId} {D : DataW Unit} : typed P d T (.mp t P' k e D) = .mp t P' k e D := rfl
@[go_sem] theorem typed_tl {d : Nat} {T : TypeId} {t es i : Nat} {xs : List AV} : typed P d T (.tl t es xs i) = .tl t es xs i := rfl
@[go_sem] theorem typed_so {d : Nat} {T : TypeId} {t : Nat} {xs : List AV} : typed P d T (.so t xs) = .so t xs := rfl
@[go_sem] theorem typed_po {d : Nat} {T : TypeId} {t i : Nat} {xs : List AV} : typed P d T (.po t xs i) = .po t xs i := rfl
@[go_sem] theorem typed_ag {d : Nat} {T : TypeId} {xs : List AV} : typed P d T (.ag xs) = .ag xs := rfl
@[go_sem] theorem typed_tup {d : Nat} {T : TypeId} {xs : List AV} : typed P d T (.tup xs) = .tup xs := rfl
@[go_sem] theorem typed_pb {d : Nat} {T : TypeId} {i o : Nat} : typed P d T (.pb i o) = .pb i o := rfl
@[go_sem] theorem typed_pe {d : Nat} {T : TypeId} {t es i o : Nat} {xs : List AV} : typed P d T (.pe t es xs i o) = .pe t es xs i o := rfl
@[go_sem] theorem typed_fn {d : Nat} {T : TypeId} {f : FuncId} {xs : List AV} : typed P d T (.fn f xs) = .fn f xs := rfl
@[go_sem] theorem typed_fp {d : Nat} {T : TypeId} {xs : List AV} {o : Nat} : typed P d T (.fp xs o) = .fp xs o := rfl
@[go_sem] theorem typed_ub {d : Nat} {T : TypeId} : typed P d T .ub = .ub := rfl
@[go_sem] theorem typed_any {d : Nat} {T : TypeId} : typed P d T .any = .any := rfl
@[go_sem] theorem typed_nil {d : Nat} {T : TypeId} : typed P d T .nil = .nil := rfl

/-! ### less is known -/
@[go_sem] theorem le_mk {n' : Nat} {t' : List (Nat × AV)} {b' : List (List AV)} : St.le ⟨n, t, b⟩ ⟨n', t', b'⟩ = (n' = n ∧ leT t t' ∧ leB b b') := rfl
@[go_sem] theorem leV_self {x : AV} : leV x x = True := eq_true (leV_refl x)
@[go_sem] theorem leV_toAny {x : AV} : leV x .any = True := eq_true (leV_any x)
@[go_sem] theorem leV_toNil {t es : Nat} : leV .nil (.sl t es []) = True := eq_true (leV_nil t es)
@[go_sem] theorem leV_toNilSo {t : Nat} : leV .nil (.so (t + 2) []) = True := eq_true (leV_nilso (by omega))
@[go_sem] theorem leV_toTl {t es : Nat} {x : AV} {xs : List AV} : leV (.sl t es (x :: xs)) (.tl t es (x :: xs) 0) = True := eq_true (leV_sltl (by simp))
theorem leV_eq {x y : AV} (h : x = y) : leV x y := h ▸ leV_refl x
theorem leV_sl {t es : Nat} {xs ys : List AV} (h : xs = ys) : leV (.sl t es xs) (.sl t es ys) := h ▸ leV_refl _
theorem leV_int {k : IntKind} {x y : Int} (h : x = y) : leV (.sc (.int k x)) (.sc (.int k y)) := h ▸ leV_refl _

/-! ### operations -/
@[go_sem] theorem evBinOp_sc {op : BinOp} {T : TypeId} {u v : Value} {K : AV → Prop} : evBinOp P op T (.sc u) (.sc v) K = evBin P op T u v fun r => K (.sc r) := rfl
/-- whether a slice is nil: known, where it has elements -/
def nilK (xs : List AV) (v : Bool) (K : AV → Prop) : Prop := (xs = [] → K .ub) ∧ (xs ≠ [] → K (.sc (.bool v)))
@[congr] theorem nilK_congr {xs xs' : List AV} {v : Bool} {K : AV → Prop} (h : mkd xs = xs') : nilK xs v K = nilK xs' v K := by subst_vars; rfl
@[go_sem] theorem nilK_nil {v : Bool} {K : AV → Prop} : nilK [] v K = K .ub := by simp [nilK]
@[go_sem] theorem nilK_cons {x : AV} {xs : List AV} {v : Bool} {K : AV → Prop} : nilK (x :: xs) v K = K (.sc (.bool v)) := by simp [nilK]
@[go_sem] theorem evBinOp_eql_nil {T : TypeId} {t es : Nat} {xs : List AV} {K : AV → Prop} : evBinOp P .eql T (.sl t es xs) .nil K = onSlice (P.underlying T) fun _ => nilK xs false K := by simp [evBinOp, onSlice, nilK]
@[go_sem] theorem evBinOp_neq_nil {T : TypeId} {t es : Nat} {xs : List AV} {K : AV → Prop} : evBinOp P .neq T (.sl t es xs) .nil K = onSlice (P.underlying T) fun _ => nilK xs true K := by simp [evBinOp, onSlice, nilK]
@[go_sem] theorem evBinOp_eql_nn {T : TypeId} {K : AV → Prop} : evBinOp P .eql T .nil .nil K = onSlice (P.underlying T) fun _ => K (.sc (.bool true)) := by simp [evBinOp, onSlice]
@[go_sem] theorem evBinOp_neq_nn {T : TypeId} {K : AV → Prop} : evBinOp P .neq T .nil .nil K = onSlice (P.underlying T) fun _ => K (.sc (.bool false)) := by simp [evBinOp, onSlice]
def cellI (x y : Option AV) (K : Bool → Prop) : Prop := match x, y with
  | some (.sc (.int k a)), some (.sc (.int k' b)) => k = k' ∧ K (a == b)
  | _, _ => False
def cellB (x y : Option AV) (K : Bool → Prop) : Prop := match x, y with
  | some (.sc (.bool a)), some (.sc (.bool b)) => K (a == b)
  | _, _ => False
@[go_sem] theorem cellI_some {k k' : IntKind} {a b : Int} {K : Bool → Prop} : cellI (some (.sc (.int k a))) (some (.sc (.int k' b))) K = andK (k = k') (K (a == b)) := rfl
@[go_sem] theorem cellB_some {a b : Bool} {K : Bool → Prop} : cellB (some (.sc (.bool a))) (some (.sc (.bool b))) K = K (a == b) := rfl
@[go_sem] theorem eqCK_nil {xs ys : List AV} {K : Bool → Prop} : eqCK xs ys [] K = K true := rfl
@[go_sem] theorem eqCK_int {xs ys : List AV} {o : Nat} {r : List (Nat × Bool)} {K : Bool → Prop} : eqCK xs ys ((o, true) :: r) K = cellI xs[o]? ys[o]? fun c => eqCK xs ys r fun c' => K (c && c') := by
  rw [eqCK]
  generalize xs[o]? = x
  generalize ys[o]? = y
  unfold cellI
  split
  · rfl
  · rename_i h
    split
    · exact (h _ _ _ _ rfl rfl).elim
    · rfl
@[go_sem] theorem eqCK_bool {xs ys : List AV} {o : Nat} {r : List (Nat × Bool)} {K : Bool → Prop} : eqCK xs ys ((o, false) :: r) K = cellB xs[o]? ys[o]? fun c => eqCK xs ys r fun c' => K (c && c') := by
  rw [eqCK]
  generalize xs[o]? = x
  generalize ys[o]? = y
  unfold cellB
  split
  · rfl
  · rename_i h
    split
    · exact (h _ _ rfl rfl).elim
    · rfl
@[go_sem] theorem evBinOp_eql_ag {T : TypeId} {xs ys : List AV} {K : AV → Prop} : evBinOp P .eql T (.ag xs) (.ag ys) K = caseO (flatF P T) fun l => eqCK xs ys l fun c => K (.sc (.bool c)) := by simp [evBinOp, caseO]
@[go_sem] theorem evBinOp_neq_ag {T : TypeId} {xs ys : List AV} {K : AV → Prop} : evBinOp P .neq T (.ag xs) (.ag ys) K = caseO (flatF P T) fun l => eqCK xs ys l fun c => K (.sc (.bool (!c))) := by simp [evBinOp, caseO]
section
variable {T : TypeId} {k k' : IntKind} {x y : Int} {K : Value → Prop}
@[go_sem] theorem evBin_add : evBin P .add T (.int k x) (.int k' y) K = andK (k = k') (K (.int k (k.wrap (x + y)))) := rfl
@[go_sem] theorem evBin_sub : evBin P .sub T (.int k x) (.int k' y) K = andK (k = k') (K (.int k (k.wrap (x - y)))) := rfl
@[go_sem] theorem evBin_mul : evBin P .mul T (.int k x) (.int k' y) K = andK (k = k') (K (.int k (k.wrap (x * y)))) := rfl
@[go_sem] theorem evBin_quo : evBin P .quo T (.int k x) (.int k' y) K = andK (k = k') (y ≠ 0 ∧ K (.int k (k.wrap (x.tdiv y)))) := rfl
@[go_sem] theorem evBin_rem : evBin P .rem T (.int k x) (.int k' y) K = andK (k = k') (y ≠ 0 ∧ K (.int k (x.tmod y))) := rfl
@[go_sem] theorem evBin_and : evBin P .and T (.int k x) (.int k' y) K = andK (k = k') (K (.int k (k.wrap (BitVec.ofInt k.bits x &&& BitVec.ofInt k.bits y).toNat))) := rfl
@[go_sem] theorem evBin_or : evBin P .or T (.int k x) (.int k' y) K = andK (k = k') (K (.int k (k.wrap (BitVec.ofInt k.bits x ||| BitVec.ofInt k.bits y).toNat))) := rfl
@[go_sem] theorem evBin_xor : evBin P .xor T (.int k x) (.int k' y) K = andK (k = k') (K (.int k (k.wrap (BitVec.ofInt k.bits x ^^^ BitVec.ofInt k.bits y).toNat))) := rfl
@[go_sem] theorem evBin_shl : evBin P .shl T (.int k x) (.int k' y) K = andK (0 ≤ y) (K (.int k (k.wrap (x * 2 ^ (min y.toNat k.bits))))) := rfl
@[go_sem] theorem evBin_shr : evBin P .shr T (.int k x) (.int k' y) K = andK (0 ≤ y) (K (.int k (x.fdiv (2 ^ (min y.toNat k.bits))))) := rfl
@[go_sem] theorem evBin_eql : evBin P .eql T (.int k x) (.int k' y) K = andK (k = k') (K (.bool (x == y))) := rfl
@[go_sem] theorem evBin_neq : evBin P .neq T (.int k x) (.int k' y) K = andK (k = k') (K (.bool (x != y))) := rfl
@[go_sem] theorem evBin_lss : evBin P .lss T (.int k x) (.int k' y) K = andK (k = k') (K (.bool (decide (x < y)))) := rfl
@[go_sem] theorem evBin_leq : evBin P .leq T (.int k x) (.int k' y) K = andK (k = k') (K (.bool (decide (x ≤ y)))) := rfl
@[go_sem] theorem evBin_gtr : evBin P .gtr T (.int k x) (.int k' y) K = andK (k = k') (K (.bool (decide (y < x)))) := rfl
@[go_sem] theorem evBin_geq : evBin P .geq T (.int k x) (.int k' y) K = andK (k = k') (K (.bool (decide (y ≤ x)))) := rfl
@[go_sem] theorem evBin_beql {u v : Bool} : evBin P .eql T (.bool u) (.bool v) K = andK (P.underlying T = some .bool) (K (.bool (u == v))) := rfl
@[go_sem] theorem evBin_bneq {u v : Bool} : evBin P .neq T (.bool u) (.bool v) K = andK (P.underlying T = some .bool) (K (.bool (!(u == v)))) := rfl
@[go_sem] theorem evBin_sadd {u v : ByteArray} : evBin P .add T (.string u) (.string v) K = (u.size + v.size ≤ 9223372036854775807 ∧ K (.string (u ++ v))) := rfl
@[go_sem] theorem evBin_seql {u v : ByteArray} : evBin P .eql T (.string u) (.string v) K = K (.bool (u.toList == v.toList)) := rfl
@[go_sem] theorem evBin_sneq {u v : ByteArray} : evBin P .neq T (.string u) (.string v) K = K (.bool (!(u.toList == v.toList))) := rfl
@[go_sem] theorem evBin_slss {u v : ByteArray} : evBin P .lss T (.string u) (.string v) K = K (.bool (Op.bytesLess u.toList v.toList)) := rfl
@[go_sem] theorem evBin_sleq {u v : ByteArray} : evBin P .leq T (.string u) (.string v) K = K (.bool (Op.bytesLess u.toList v.toList || u.toList == v.toList)) := rfl
@[go_sem] theorem evBin_sgtr {u v : ByteArray} : evBin P .gtr T (.string u) (.string v) K = K (.bool (!(Op.bytesLess u.toList v.toList || u.toList == v.toList))) := rfl
@[go_sem] theorem evBin_sgeq {u v : ByteArray} : evBin P .geq T (.string u) (.string v) K = K (.bool (!(Op.bytesLess u.toList v.toList))) := rfl
end
section
variable {T : TypeId} {K : AV → Prop}
@[go_sem] theorem evPart_eq {cs : List AV} {o : Nat} : evPart P T cs o K = caseO (aggT P T) fun a => onB a (caseO (tinfo P T) fun q => andK (o + q.1 ≤ cs.length) (K (.ag ((cs.drop o).take q.1)))) (caseO cs[o]? K) := by
  unfold evPart caseO onB andK
  cases aggT P T with
  | none => simp
  | some a => cases a with
    | false => simp
    | true => cases tinfo P T <;> simp
@[go_sem] theorem evLoad_pe {bx : List (List AV)} {t es i o : Nat} {xs : List AV} : evLoad P bx T (.pe t es xs i o) K = caseO xs[i]? fun x => evPart P T x.cells o K := by
  cases h : xs[i]? <;> simp [evLoad, cellsAt, h, caseO, evPart]
@[go_sem] theorem evLoad_pb {bx : List (List AV)} {i o : Nat} : evLoad P bx T (.pb i o) K = caseO bx[i]? fun cs => evPart P T cs o K := by
  cases h : bx[i]? <;> simp [evLoad, cellsAt, h, caseO, evPart]
@[go_sem] theorem evLoad_fp {bx : List (List AV)} {cs : List AV} {o : Nat} : evLoad P bx T (.fp cs o) K = evPart P T cs o K := rfl
@[go_sem] theorem evLoad_po {bx : List (List AV)} {t i : Nat} {xs : List AV} : evLoad P bx T (.po t xs i) K = caseO xs[i]? fun x => evPart P T [x] 0 K := by
  cases h : xs[i]? <;> simp [evLoad, cellsAt, h, caseO, evPart]
@[go_sem] theorem evIndexAddr_so {t : Nat} {xs : List AV} {k : IntKind} {i : Int} : evIndexAddr P T (.so t xs) (.sc (.int k i)) K =
    onSlice (P.underlying T) fun E => caseO (tinfo P E) fun q => (q.1 = 1 ∧ 0 ≤ i ∧ i < xs.length ∧ K (.po t xs i.toNat)) := by
  unfold evIndexAddr onSlice caseO
  cases hU : P.underlying T with
  | none => simp
  | some D =>
    cases D <;> simp [isPtr]
    constructor
    · rintro ⟨⟨a, b, h1⟩, h3⟩; exact ⟨1, ⟨a, b, h1⟩, rfl, h3⟩
    · rintro ⟨_, ⟨a, b, h1⟩, rfl, h3⟩; exact ⟨⟨a, b, h1⟩, h3⟩
@[go_sem] theorem evIndexAddr_tl {t es i : Nat} {xs : List AV} {k : IntKind} {n : Int} : evIndexAddr P T (.tl t es xs i) (.sc (.int k n)) K =
    onSlice (P.underlying T) fun E => caseO (tinfo P E) fun q => andK (q.1 = es) (0 ≤ n ∧ i + n < xs.length ∧ K (.pe t es xs (i + n.toNat) 0)) := by
  unfold evIndexAddr onSlice caseO andK
  cases hU : P.underlying T with
  | none => simp
  | some D =>
    cases D <;> simp [isPtr]
    constructor
    · rintro ⟨⟨a, b, h1⟩, h3⟩; exact ⟨_, ⟨a, b, h1⟩, rfl, h3⟩
    · rintro ⟨_, ⟨a, b, h1⟩, rfl, h3⟩; exact ⟨⟨a, b, h1⟩, h3⟩
@[go_sem] theorem evIndexAddr_sl {t es : Nat} {xs : List AV} {k : IntKind} {i : Int} : evIndexAddr P T (.sl t es xs) (.sc (.int k i)) K =
    onSlice (P.underlying T) fun E => caseO (tinfo P E) fun q => andK (q.1 = es) (0 ≤ i ∧ i < xs.length ∧ K (.pe t es xs i.toNat 0)) := by
  unfold evIndexAddr onSlice caseO andK
  apply propext
  constructor
  · intro h
    generalize hu : P.underlying T = u at h
    match u, hu, h with
    | none, _, h => exact h.elim
    | some d, hu, h =>
      cases d with
      | slice E => obtain ⟨⟨q, hq, h1⟩, h2⟩ := h; exact ⟨E, rfl, q, hq, h1, h2⟩
      | array len E => exact absurd h.1 (by simp [isPtr])
      | _ => exact h.elim
  · rintro ⟨E, hT, q, hq, h1, h2⟩
    simp only [hT]
    exact ⟨⟨q, hq, h1⟩, h2⟩
theorem evIndexAddr_arr {x : AV} {k : IntKind} {i : Int} (hx : isPtr x = true) : evIndexAddr P T x (.sc (.int k i)) K =
    onArray (P.underlying T) fun len E => caseO (tinfo P E) fun q => (0 ≤ i ∧ i < len ∧ K (ptrAdd x (i.toNat * q.1))) := by
  cases x <;> simp only [isPtr, Bool.false_eq_true] at hx
  all_goals
    unfold evIndexAddr onArray caseO
    apply propext
    constructor
    · intro h
      generalize hu : P.underlying T = u at h
      match u, hu, h with
      | none, _, h => exact h.elim
      | some d, hu, h =>
        cases d with
        | array len E => obtain ⟨_, h1, h2, q, hq, h3⟩ := h; exact ⟨len, E, rfl, q, hq, h1, h2, h3⟩
        | _ => exact h.elim
    · rintro ⟨len, E, hT, q, hq, h1, h2, h3⟩
      simp only [hT]
      exact ⟨rfl, h1, h2, q, hq, h3⟩
@[go_sem] theorem evIndexAddr_pb {j o : Nat} {k : IntKind} {i : Int} : evIndexAddr P T (.pb j o) (.sc (.int k i)) K = onArray (P.underlying T) fun len E => caseO (tinfo P E) fun q => (0 ≤ i ∧ i < len ∧ K (ptrAdd (.pb j o) (i.toNat * q.1))) := evIndexAddr_arr rfl
@[go_sem] theorem evIndexAddr_pe {t es j o : Nat} {xs : List AV} {k : IntKind} {i : Int} : evIndexAddr P T (.pe t es xs j o) (.sc (.int k i)) K = onArray (P.underlying T) fun len E => caseO (tinfo P E) fun q => (0 ≤ i ∧ i < len ∧ K (ptrAdd (.pe t es xs j o) (i.toNat * q.1))) := evIndexAddr_arr rfl
@[go_sem] theorem evFieldAddr_eq {x : AV} {f : Nat} : evFieldAddr P T x f K = andK (isPtr x = true) (caseO (fieldOf P T f) fun p => caseO (tinfo P p.2) fun q => andK (q.1 ≠ 0) (K (ptrAdd x p.1))) := by
  unfold evFieldAddr andK caseO
  apply propext
  constructor
  · rintro ⟨h1, p, h2, ⟨q, h3, h4⟩, h5⟩; exact ⟨h1, p, h2, q, h3, h4, h5⟩
  · rintro ⟨h1, p, h2, q, h3, h4, h5⟩; exact ⟨h1, p, h2, ⟨q, h3, h4⟩, h5⟩
@[go_sem] theorem evField_ag {cs : List AV} {f : Nat} : evField P T (.ag cs) f K = caseO (fieldOf P T f) fun p => evPart P p.2 cs p.1 K := rfl
@[go_sem] theorem evIndex_ag {cs : List AV} {k : IntKind} {i : Int} : evIndex P T (.ag cs) (.sc (.int k i)) K = onArray (P.underlying T) fun len E => (0 ≤ i ∧ i < len ∧ caseO (tinfo P E) fun q => evPart P E cs (i.toNat * q.1) K) := by
  unfold evIndex onArray caseO
  apply propext
  constructor
  · intro h
    simp only at h
    split at h
    · rename_i len E cs' hT hx; cases hx; exact ⟨len, E, hT, h⟩
    · rename_i hx; cases hx
    · exact h.elim
  · rintro ⟨len, E, hT, h⟩
    simp only [hT]; exact h
def isString (d : Option TypeDesc) : Bool := match d with | some .string => true | _ => false
@[go_sem] theorem isString_some : isString (some .string) = true := rfl
@[go_sem] theorem evIndex_str {s : ByteArray} {k : IntKind} {i : Int} : evIndex P T (.sc (.string s)) (.sc (.int k i)) K = andK (isString (P.underlying T) = true) (0 ≤ i ∧ caseO s[i.toNat]? fun c => K (.sc (.int .u8 c.toNat))) := by
  unfold evIndex andK caseO isString
  apply propext
  constructor
  · intro h
    simp only at h
    split at h
    · rename_i hx; cases hx
    · rename_i s' hT hx; cases hx; exact ⟨by rw [hT], h⟩
    · exact h.elim
  · rintro ⟨hT, h⟩
    split at hT
    · rename_i hT'; simp only [hT']; exact h
    · cases hT
@[go_sem] theorem evExtract_tup {xs : List AV} {i : Nat} : evExtract (.tup xs) i K = caseO xs[i]? K := rfl
@[go_sem] theorem evUn_not {v : Bool} : evUn .not (.sc (.bool v)) K = K (.sc (.bool (!v))) := rfl
@[go_sem] theorem evUn_not_ub : evUn .not .ub K = K .ub := rfl
@[go_sem] theorem evUn_neg {k : IntKind} {i : Int} : evUn .neg (.sc (.int k i)) K = K (.sc (.int k (k.wrap (0 - i)))) := rfl
def onInt (d : Option TypeDesc) (k : IntKind → Prop) : Prop := ∃ i, d = some (.int i) ∧ k i
@[congr] theorem onInt_congr {d d' : Option TypeDesc} {k : IntKind → Prop} (h : mkd d = d') : onInt d k = onInt d' k := by subst_vars; rfl
@[go_sem] theorem onInt_some (i : IntKind) (k : IntKind → Prop) : onInt (some (.int i)) k = k i := by simp [onInt]
@[go_sem] theorem evConv_int {s s' : TypeId} {k : IntKind} {i : Int} : evConv P s s' (.sc (.int k i)) K = onInt (P.underlying s) fun _ => onInt (P.underlying s') fun k' => K (.sc (.int k' (k'.wrap i))) := by
  unfold evConv onInt
  apply propext
  constructor
  · intro h
    split at h
    · rename_i h1 h2 hx; cases hx; exact ⟨_, h1, _, h2, h⟩
    · rename_i hx; cases hx
    · rename_i hx; cases hx
    · exact h.elim
  · rintro ⟨_, h1, _, h2, h⟩
    simp only [h1, h2]; exact h
@[go_sem] theorem evConv_bytes {s s' : TypeId} {t : Nat} {xs : List AV} : evConv P s s' (.sl t 1 xs) K = onSlice (P.underlying s) fun E => onInt (P.underlying E) fun k => andK (k = .u8) (andK (isString (P.underlying s') = true) (xs ≠ [] ∧ caseO (bytesOf xs) fun ns => K (.sc (.string (strOf ns))))) := by
  unfold evConv onSlice onInt andK isString caseO
  apply propext
  constructor
  · intro h
    split at h
    · rename_i hx; cases hx
    · rename_i hx; cases hx
    · rename_i e t' xs' h1 h2 hx
      cases hx
      exact ⟨e, h1, .u8, h.1, rfl, by rw [h2], h.2.1, h.2.2⟩
    · exact h.elim
  · rintro ⟨e, h1, k, h2, rfl, h3, h4, h5⟩
    have h6 : P.underlying s' = some .string := by
      split at h3
      · assumption
      · cases h3
    simp only [h1, h6]
    exact ⟨h2, h4, h5⟩
@[go_sem] theorem evConv_str {s s' : TypeId} {v : ByteArray} : evConv P s s' (.sc (.string v)) K = andK (isString (P.underlying s) = true) (andK (isString (P.underlying s') = true) (K (.sc (.string v)))) := by
  unfold evConv andK isString
  apply propext
  constructor
  · intro h
    split at h
    · rename_i hx; cases hx
    · rename_i h1 h2 hx; cases hx; exact ⟨by rw [h1], by rw [h2], h⟩
    · rename_i hx; cases hx
    · exact h.elim
  · rintro ⟨h1, h2, h⟩
    split at h1
    · rename_i e1
      split at h2
      · rename_i e2; simp only [e1, e2]; exact h
      · cases h2
    · cases h1
@[go_sem] theorem evLen_sl {t es : Nat} {xs : List AV} : evLen P T (.sl t es xs) K = onSlice (P.underlying T) fun _ => K (.sc (.int .i64 xs.length)) := by
  unfold evLen onSlice
  cases hU : P.underlying T with
  | none => simp
  | some D => cases D <;> simp
@[go_sem] theorem evLen_tl {t es i : Nat} {xs : List AV} : evLen P T (.tl t es xs i) K = onSlice (P.underlying T) fun _ => K (.sc (.int .i64 (xs.length - i : Nat))) := by
  unfold evLen onSlice
  cases hU : P.underlying T with
  | none => simp
  | some D => cases D <;> simp
@[go_sem] theorem evLen_so {t : Nat} {xs : List AV} : evLen P T (.so t xs) K = onSlice (P.underlying T) fun _ => K (.sc (.int .i64 xs.length)) := by
  unfold evLen onSlice
  cases hU : P.underlying T with
  | none => simp
  | some D => cases D <;> simp
@[go_sem] theorem evLen_nil : evLen P T .nil K = onSlice (P.underlying T) fun _ => K (.sc (.int .i64 0)) := by
  unfold evLen onSlice
  cases hU : P.underlying T with
  | none => simp
  | some D => cases D <;> simp
@[go_sem] theorem evLen_str {s : ByteArray} : evLen P T (.sc (.string s)) K = andK (isString (P.underlying T) = true) (K (.sc (.int .i64 s.size))) := by
  unfold evLen andK isString
  cases hU : P.underlying T with
  | none => simp
  | some D => cases D <;> simp
@[go_sem] theorem evMax_int {k k' : IntKind} {x y : Int} : evMax (.sc (.int k x)) (.sc (.int k' y)) K = K (.sc (.int k (max x y))) := rfl
@[go_sem] theorem evMin_int {k k' : IntKind} {x y : Int} : evMin (.sc (.int k x)) (.sc (.int k' y)) K = K (.sc (.int k (min x y))) := rfl
@[go_sem] theorem evBound_none {n : Nat} {K : Nat → Prop} : evBound none n K = K n := rfl
@[go_sem] theorem evBound_int {n : Nat} {k : IntKind} {i : Int} {K : Nat → Prop} : evBound (some (.sc (.int k i))) n K = (0 ≤ i ∧ K i.toNat) := rfl
@[go_sem] theorem evSlice_sl {t es : Nat} {xs : List AV} {lo hi : Option AV} : evSlice P T (.sl t es xs) lo hi none K = onSlice (P.underlying T) fun E => caseO (tinfo P E) fun q => andK (q.1 = es) (onB (decide (t < 2))
    (evBound hi xs.length fun h => evBound lo 0 fun l => (l ≤ h ∧ h ≤ xs.length ∧ K (.sl 0 es ((xs.take h).drop l))))
    (onB (hi.isNone && lo.isSome) (evBound lo 0 fun l => (l < xs.length ∧ K (.tl t es xs l)))
    (evBound hi xs.length fun h => evBound lo 0 fun l => (l = 0 ∧ h ≤ xs.length ∧ K (.sl t es (xs.take h)))))) := by
  unfold evSlice onSlice caseO andK onB
  apply propext
  constructor
  · intro h
    split at h
    · rename_i E t' es' xs' hT hx; cases hx
      obtain ⟨⟨q, hq, h1⟩, h2⟩ := h; exact ⟨E, hT, q, hq, h1, by by_cases ht : t < 2 <;> by_cases hb : (hi.isNone && lo.isSome) = true <;> simp [ht, hb] at h2 ⊢ <;> exact h2⟩
    · rename_i hx; cases hx
    · rename_i hx; cases hx
    · rename_i hx; cases hx
    · exact h.elim
  · rintro ⟨E, hT, q, hq, h1, h2⟩
    simp only [hT]; exact ⟨⟨q, hq, h1⟩, by by_cases ht : t < 2 <;> by_cases hb : (hi.isNone && lo.isSome) = true <;> simp [ht, hb] at h2 ⊢ <;> exact h2⟩
@[go_sem] theorem evSlice_tl {t es i : Nat} {xs : List AV} {lo : Option AV} : evSlice P T (.tl t es xs i) lo none none K = onSlice (P.underlying T) fun E => caseO (tinfo P E) fun q => andK (q.1 = es)
    (evBound lo 0 fun l => (i + l ≤ xs.length ∧ K (.tl t es xs (i + l)))) := by
  unfold evSlice onSlice caseO andK
  cases hU : P.underlying T with
  | none => simp
  | some D =>
    cases D <;> simp
    constructor
    · rintro ⟨⟨a, b, h1⟩, h3⟩; exact ⟨_, ⟨a, b, h1⟩, rfl, h3⟩
    · rintro ⟨_, ⟨a, b, h1⟩, rfl, h3⟩; exact ⟨⟨a, b, h1⟩, h3⟩
@[go_sem] theorem isSomeA_some {x : AV} : (some x).isSome = true := rfl
@[go_sem] theorem isSomeA_none : (none : Option AV).isSome = false := rfl
@[go_sem] theorem isNoneA_some {x : AV} : (some x).isNone = false := rfl
@[go_sem] theorem isNoneA_none : (none : Option AV).isNone = true := rfl
@[go_sem] theorem evSlice_sl3 {t es : Nat} {xs : List AV} {lo hi : Option AV} {m : AV} : evSlice P T (.sl t es xs) lo hi (some m) K = onSlice (P.underlying T) fun E => caseO (tinfo P E) fun q => andK (q.1 = es) (andK (t < 2)
    (andK (hi.isSome = true) (evBound (some m) 0 fun m => evBound hi 0 fun h => evBound lo 0 fun l => (m = h ∧ l ≤ h ∧ h ≤ xs.length ∧ K (.sl 1 es ((xs.take h).drop l)))))) := by
  unfold evSlice onSlice caseO andK
  apply propext
  constructor
  · intro h
    split at h
    · rename_i E t' es' xs' hT hx; cases hx
      obtain ⟨⟨q, hq, h1⟩, h2⟩ := h
      by_cases ht : t < 2
      · rw [if_pos ht] at h2; exact ⟨E, hT, q, hq, h1, ht, h2⟩
      · rw [if_neg ht] at h2; cases h2.1
    · rename_i hx; cases hx
    · rename_i hx; cases hx
    · rename_i hx; cases hx
    · exact h.elim
  · rintro ⟨E, hT, q, hq, h1, h2, h3⟩
    simp only [hT]; exact ⟨⟨q, hq, h1⟩, by rw [if_pos h2]; exact h3⟩
@[go_sem] theorem evSlice_nil {lo hi : Option AV} : evSlice P T .nil lo hi none K = onSlice (P.underlying T) fun E => andK ((tinfo P E).isSome = true) (evBound hi 0 fun h => evBound lo 0 fun l => (l = 0 ∧ h = 0 ∧ K .nil)) := by
  unfold evSlice onSlice andK
  apply propext
  constructor
  · intro h
    split at h
    · rename_i hx; cases hx
    · rename_i hx; cases hx
    · rename_i E hT _; obtain ⟨_, ⟨q, hq⟩, h⟩ := h; exact ⟨E, hT, by simp [hq], h⟩
    · rename_i hx; cases hx
    · exact h.elim
  · rintro ⟨E, hT, hq, h⟩
    simp only [hT]
    obtain ⟨q, hq⟩ := Option.isSome_iff_exists.1 hq
    exact ⟨by simp, ⟨q, hq⟩, h⟩
@[go_sem] theorem evCap_nil : evCap P T .nil K = onSlice (P.underlying T) fun _ => K (.sc (.int .i64 0)) := by
  unfold evCap onSlice
  apply propext
  constructor
  · intro h
    split at h
    · rename_i hx; cases hx
    · rename_i hT _; exact ⟨_, hT, h⟩
    · exact h.elim
  · rintro ⟨_, h1, h⟩
    simp only [h1]; exact h
@[go_sem] theorem evCap_sl {t es : Nat} {xs : List AV} : evCap P T (.sl t es xs) K = onSlice (P.underlying T) fun _ => andK (t = 1) (K (.sc (.int .i64 xs.length))) := by
  unfold evCap onSlice andK
  apply propext
  constructor
  · intro h
    split at h
    · rename_i hT hx; cases hx; exact ⟨_, hT, h⟩
    · rename_i hx; cases hx
    · exact h.elim
  · rintro ⟨_, h1, h⟩
    simp only [h1]; exact h
@[go_sem] theorem evSlice_str {s : ByteArray} {lo hi : Option AV} : evSlice P T (.sc (.string s)) lo hi none K = andK (isString (P.underlying T) = true) (evBound hi s.size fun h => evBound lo 0 fun l => (l ≤ h ∧ h ≤ s.size ∧ K (.sc (.string (s.extract l h))))) := by
  unfold evSlice andK isString
  apply propext
  constructor
  · intro h
    split at h
    · rename_i hx; cases hx
    · rename_i hx; cases hx
    · rename_i hx; cases hx
    · rename_i hT hx; cases hx; exact ⟨by rw [hT], h.2⟩
    · exact h.elim
  · rintro ⟨hT, h⟩
    split at hT
    · rename_i hT'; simp only [hT']; exact ⟨trivial, h⟩
    · cases hT
def allPart (es : Nat) : List (Nat × AV) → Bool
  | [] => true
  | p :: r => partOk es p.2 && allPart es r
theorem allPart_eq (es : Nat) : ∀ l, allPart es l = l.all fun p => partOk es p.2
  | [] => rfl
  | p :: r => by simp [allPart, allPart_eq es r]
attribute [go_sem] allPart
@[go_sem] theorem evBuildSlice_eq {d : Nat} {len : Nat} {ps : List (Nat × AV)} : evBuildSlice P d T len ps K = onSlice (P.underlying T) fun E => caseO (tinfo P E) fun q => andK (0 < q.1 ∧ q.2.2.isSome = true ∧ len * q.1 ≤ 16777216 ∧ ps.length = len ∧ idxOk 0 ps = true) (andK (allPart q.1 ps = true) (K (.sl (64 * (d + 1)) q.1 (ps.map (·.2))))) := by
  unfold evBuildSlice onSlice caseO andK
  simp only [allPart_eq]
  apply propext
  constructor
  · intro h
    split at h
    · rename_i E hT; obtain ⟨q, h1, h2, h3, h4, h5, h6, h7, h8⟩ := h; exact ⟨E, hT, q, h1, ⟨h2, h3, h4, h5, h6⟩, h7, h8⟩
    · exact h.elim
  · rintro ⟨E, hT, q, h1, ⟨h2, h3, h4, h5, h6⟩, h7, h8⟩
    simp only [hT]; exact ⟨q, h1, h2, h3, h4, h5, h6, h7, h8⟩
@[go_sem] theorem evMake_int {d : Nat} {k k' : IntKind} {l c : Int} : evMake P d T (.sc (.int k l)) (.sc (.int k' c)) K = onSlice (P.underlying T) fun E => caseO (tinfo P E) fun q => caseO q.2.2 fun z => andK (0 < q.1 ∧ zeroOk q.1 z = true) (0 ≤ l ∧ l ≤ c ∧ (q.2.1 : Int) * c ≤ 281474976710656 ∧ c ≤ 9223372036854775807 ∧ K (.sl (64 * (d + 1)) q.1 (List.replicate l.toNat (ofConst z)))) := by
  unfold evMake onSlice caseO andK
  apply propext
  constructor
  · intro h
    split at h
    · rename_i E _ _ _ _ hT hx hy; cases hx; cases hy
      obtain ⟨q, h1, h2, h3, h4, h5, h6, z, h7, h8, h9⟩ := h; exact ⟨E, hT, q, h1, z, h7, ⟨h2, h8⟩, h3, h4, h5, h6, h9⟩
    · exact h.elim
  · rintro ⟨E, hT, q, h1, z, h7, ⟨h2, h8⟩, h3, h4, h5, h6, h9⟩
    simp only [hT]; exact ⟨q, h1, h2, h3, h4, h5, h6, z, h7, h8, h9⟩
@[go_sem] theorem evBuild_eq {ps : List (Nat × AV)} : evBuild P T ps K = caseO (tinfo P T) fun q => caseO (placesOf P T) fun places => caseO q.2.2 fun z => andK ((z.cells.toList.all fun u => u.oneCell') = true) (caseO (fillA (fun i => places[i]?) (ofConst z).cells ps) fun r => K (.ag r)) := by
  unfold evBuild caseO andK
  apply propext
  constructor
  · rintro ⟨q, places, z, r, h1, h2, h3, h4, h5, h6⟩; exact ⟨q, h1, places, h2, z, h3, h4, r, h5, h6⟩
  · rintro ⟨q, h1, places, h2, z, h3, h4, r, h5, h6⟩; exact ⟨q, places, z, r, h1, h2, h3, h4, h5, h6⟩
end
section
variable {T T' : TypeId} {d : Nat} {K : St → Prop} {σ : St}
@[go_sem] theorem evAppend_sl {t es : Nat} {xs : List AV} {y : AV} : evAppend P T T' d σ (.sl t es xs) y K = onB (decide (2 ≤ t)) (evAppendOwn P T T' (.sl t es xs) y fun t r => K ((σ.map (killLeaf t)).put (some d) r)) (andK (σ.free d = true) (evAppendX P d T T' (.sl t es xs) y fun r => K (σ.put (some d) r))) := by
  unfold evAppend onB andK
  by_cases h : 2 ≤ t <;> simp [h]
@[go_sem] theorem evAppend_nil {y : AV} : evAppend P T T' d σ .nil y K = andK (σ.free d = true) (evAppendX P d T T' .nil y fun r => K (σ.put (some d) r)) := rfl
@[go_sem] theorem evAppend_tl {t es i : Nat} {xs : List AV} {y : AV} : evAppend P T T' d σ (.tl t es xs i) y K = evAppendTl P T T' (.tl t es xs i) y fun t r1 r2 => K ((σ.map (killLeaf t)).put (some d) r1) ∧ K ((σ.map (killLeaf t)).put (some d) r2) := rfl
@[go_sem] theorem evAppend_so {t : Nat} {xs : List AV} {y : AV} : evAppend P T T' d σ (.so t xs) y K = evAppSo P T T' d σ t xs y K := rfl
@[go_sem] theorem soApp_eq {m : Nat} : soApp P T T' m = onSlice (P.underlying T) fun E => (T' = T ∧ caseO (tinfo P E) fun q => (q.1 = 1 ∧ caseO q.2.2 fun z => (z.cells.size = 1 ∧ roomFor (m + 1) q.2.1))) := by
  unfold soApp onSlice caseO
  apply propext
  constructor
  · intro h
    split at h
    · rename_i E hT
      obtain ⟨h1, q, h2, h3, ⟨z, h4, h5⟩, h6⟩ := h
      exact ⟨E, hT, h1, q, h2, h3, z, h4, h5, h6⟩
    · exact h.elim
  · rintro ⟨E, hT, h1, q, h2, h3, z, h4, h5, h6⟩
    rw [hT]; exact ⟨h1, q, h2, h3, ⟨z, h4, h5⟩, h6⟩
@[go_sem] theorem evAppSo_so {t t2 t0 es : Nat} {xs zs : List AV} : evAppSo P T T' d σ t xs (.so t2 [.sl t0 es zs]) K = (soApp P T T' xs.length ∧ (2 ≤ t ∧ 2 ≤ t0 ∧ t0 ≠ t ∧ t2 ≠ t ∧ t2 ≠ t0 ∧ t2 ≠ subT t xs.length) ∧
      K (((σ.map (retagLeaf t0 (subT t xs.length))).map (killLeaf t)).put (some d) (.so t (((xs.map (retagRow t0 (subT t xs.length))).map (killRow t)) ++ [.sl (subT t xs.length) es zs])))) := by
  simp only [evAppSo, and_assoc]
@[go_sem] theorem evAppSo_sl {t t2 : Nat} {xs : List AV} {z : AV} : evAppSo P T T' d σ t xs (.sl t2 1 [z]) K = (soApp P T T' xs.length ∧ (2 ≤ t ∧ t2 ≠ t ∧ z.rowLike = true) ∧ K ((σ.map (killLeaf t)).put (some d) (.so t ((xs.map (killRow t)) ++ [z])))) := by
  simp only [evAppSo, and_assoc]
@[go_sem] theorem evAppendX_sl {x : AV} {t es : Nat} {xs : List AV} {K : AV → Prop} : evAppendX P d T T' x (.sl t es xs) K = evAppendNew P d T T' x (.sl t es xs) K := rfl
@[go_sem] theorem evAppendX_nil {x : AV} {K : AV → Prop} : evAppendX P d T T' x .nil K = evAppendNew P d T T' x .nil K := rfl
@[go_sem] theorem evAppendX_int {x : AV} {k : IntKind} {n : Int} {K : AV → Prop} : evAppendX P d T T' x (.sc (.int k n)) K = evAppendZ P d T T' x n K := rfl
@[go_sem] theorem evAppendZ_nil {n : Int} {K : AV → Prop} : evAppendZ P d T T' .nil n K = onSlice (P.underlying T) fun E => onInt (P.underlying T') fun _ => caseO (tinfo P E) fun q => caseO q.2.2 fun z => andK (0 < q.1 ∧ zeroOk q.1 z = true) (0 < n ∧ n.toNat * q.2.1 ≤ 140737488355328 ∧ n ≤ 9223372036854775807 ∧ K (.sl (64 * (d + 1)) q.1 (List.replicate n.toNat (ofConst z)))) := by
  unfold evAppendZ onSlice onInt caseO andK
  apply propext
  constructor
  · intro h
    split at h
    · rename_i E k hT hT' _
      obtain ⟨q, h1, h2, h3, h4, h5, z, h6, h7, h8⟩ := h; exact ⟨E, hT, k, hT', q, h1, z, h6, ⟨h2, h7⟩, h3, h4, h5, h8⟩
    · exact h.elim
  · rintro ⟨E, hT, k, hT', q, h1, z, h6, ⟨h2, h7⟩, h3, h4, h5, h8⟩
    simp only [hT, hT']; exact ⟨q, h1, h2, h3, h4, h5, z, h6, h7, h8⟩
@[go_sem] theorem evAppendTl_sl {t es t' es' i : Nat} {xs ys : List AV} {K : Nat → AV → AV → Prop} : evAppendTl P T T' (.tl t es xs i) (.sl t' es' ys) K = onSlice (P.underlying T) fun E => andK (T' = T) (caseO (tinfo P E) fun q => caseO q.2.2 fun z => andK (0 < q.1 ∧ z.cells.size = q.1 ∧ 2 ≤ t ∧ t' ≠ t ∧ es = q.1 ∧ es' = q.1 ∧ 0 < ys.length) (roomFor (xs.length + ys.length) q.2.1 ∧ K t (.tl t es (xs ++ ys) i) (.tl t es (xs.drop i ++ ys) 0))) := by
  unfold evAppendTl onSlice caseO andK
  apply propext
  constructor
  · intro h
    split at h
    · rename_i E hT
      obtain ⟨h0, q, h1, h2, ⟨z, h3, h4⟩, h5, h6, h7, h8, h9, h10⟩ := h
      exact ⟨E, hT, h0, q, h1, z, h3, ⟨h2, h4, h5, h6, h7, h8, h9⟩, h10⟩
    · exact h.elim
  · rintro ⟨E, hT, h0, q, h1, z, h3, ⟨h2, h4, h5, h6, h7, h8, h9⟩, h10⟩
    simp only [hT]; exact ⟨h0, q, h1, h2, ⟨z, h3, h4⟩, h5, h6, h7, h8, h9, h10⟩
@[go_sem] theorem evAppendOwn_sl {t es t' es' : Nat} {xs ys : List AV} {K : Nat → AV → Prop} : evAppendOwn P T T' (.sl t es xs) (.sl t' es' ys) K = onSlice (P.underlying T) fun E => andK (T' = T) (caseO (tinfo P E) fun q => caseO q.2.2 fun z => andK (0 < q.1 ∧ z.cells.size = q.1 ∧ 2 ≤ t ∧ t' ≠ t ∧ es = q.1 ∧ es' = q.1) (roomFor (xs.length + ys.length) q.2.1 ∧ K t (.sl t es (xs ++ ys)))) := by
  unfold evAppendOwn onSlice caseO andK
  apply propext
  constructor
  · intro h
    split at h
    · rename_i E hT
      obtain ⟨h0, q, h1, h2, ⟨z, h3, h4⟩, h5, h6, h7, h8, h9, h10⟩ := h
      exact ⟨E, hT, h0, q, h1, z, h3, ⟨h2, h4, h5, h6, h7, h8⟩, h9, h10⟩
    · exact h.elim
  · rintro ⟨E, hT, h0, q, h1, z, h3, ⟨h2, h4, h5, h6, h7, h8⟩, h9, h10⟩
    simp only [hT]; exact ⟨h0, q, h1, h2, ⟨z, h3, h4⟩, h5, h6, h7, h8, h9, h10⟩
@[go_sem] theorem evAppendNew_nil_sl {t es : Nat} {ys : List AV} {K : AV → Prop} : evAppendNew P d T T' .nil (.sl t es ys) K = onSlice (P.underlying T) fun E => andK (T' = T) (caseO (tinfo P E) fun q => caseO q.2.2 fun z => andK (0 < q.1 ∧ z.cells.size = q.1 ∧ es = q.1) (roomFor ys.length q.2.1 ∧ K (.sl (64 * (d + 1)) es ys))) := by
  unfold evAppendNew onSlice caseO andK
  apply propext
  constructor
  · intro h
    split at h
    · rename_i E hT
      obtain ⟨h0, q, h1, h2, ⟨z, h3, h4⟩, h5, h6, h7⟩ := h
      exact ⟨E, hT, h0, q, h1, z, h3, ⟨h2, h4, h5⟩, h6, h7⟩
    · exact h.elim
  · rintro ⟨E, hT, h0, q, h1, z, h3, ⟨h2, h4, h5⟩, h6, h7⟩
    simp only [hT]; exact ⟨h0, q, h1, h2, ⟨z, h3, h4⟩, h5, h6, h7⟩
@[go_sem] theorem evAppendNew_sl_sl {t es t' es' : Nat} {xs ys : List AV} {K : AV → Prop} : evAppendNew P d T T' (.sl t es xs) (.sl t' es' ys) K = onSlice (P.underlying T) fun E => andK (T' = T) (caseO (tinfo P E) fun q => caseO q.2.2 fun z => andK (0 < q.1 ∧ z.cells.size = q.1 ∧ t = 1 ∧ es = q.1 ∧ es' = q.1) (ys ≠ [] ∧ roomFor (xs.length + ys.length) q.2.1 ∧ K (.sl (64 * (d + 1)) es (xs ++ ys)))) := by
  unfold evAppendNew onSlice caseO andK
  apply propext
  constructor
  · intro h
    split at h
    · rename_i E hT
      obtain ⟨h0, q, h1, h2, ⟨z, h3, h4⟩, h5, h6, h7, h8, h9, h10⟩ := h
      exact ⟨E, hT, h0, q, h1, z, h3, ⟨h2, h4, h5, h6, h7⟩, h8, h9, h10⟩
    · exact h.elim
  · rintro ⟨E, hT, h0, q, h1, z, h3, ⟨h2, h4, h5, h6, h7⟩, h8, h9, h10⟩
    simp only [hT]; exact ⟨h0, q, h1, h2, ⟨z, h3, h4⟩, h5, h6, h7, h8, h9, h10⟩
@[go_sem] theorem evAppendNew_sl_nil {t es : Nat} {xs : List AV} {K : AV → Prop} : evAppendNew P d T T' (.sl t es xs) .nil K = onSlice (P.underlying T) fun E => andK (T' = T) (caseO (tinfo P E) fun q => caseO q.2.2 fun z => andK (0 < q.1 ∧ z.cells.size = q.1) (K (.sl t es xs))) := by
  unfold evAppendNew onSlice caseO andK
  apply propext
  constructor
  · intro h
    split at h
    · rename_i E hT
      obtain ⟨h0, q, h1, h2, ⟨z, h3, h4⟩, h5⟩ := h
      exact ⟨E, hT, h0, q, h1, z, h3, ⟨h2, h4⟩, h5⟩
    · exact h.elim
  · rintro ⟨E, hT, h0, q, h1, z, h3, ⟨h2, h4⟩, h5⟩
    simp only [hT]; exact ⟨h0, q, h1, h2, ⟨z, h3, h4⟩, h5⟩
@[go_sem] theorem evStore_pb {i o : Nat} {x : AV} {n : Nat} {t : List (Nat × AV)} {b : List (List AV)} : evStore P T ⟨n, t, b⟩ (.pb i o) x K = caseO b[i]? fun cs => caseO (tinfo P T) fun q => andK (x.cells.length = q.1 ∧ x.one = true ∧ o + q.1 ≤ cs.length) (K ⟨n, t, b.set i (setSeg cs o x.cells)⟩) := by
  unfold evStore caseO andK
  apply propext
  constructor
  · rintro ⟨cs, q, h1, h2, h3, h4, h5, h6⟩; exact ⟨cs, h1, q, h2, ⟨h3, h4, h5⟩, h6⟩
  · rintro ⟨cs, h1, q, h2, ⟨h3, h4, h5⟩, h6⟩; exact ⟨cs, q, h1, h2, h3, h4, h5, h6⟩
@[go_sem] theorem evStore_pe {t es i o : Nat} {xs : List AV} {x : AV} : evStore P T σ (.pe t es xs i o) x K = caseO (tinfo P T) fun q => andK (2 ≤ t ∧ x.cells.length = q.1 ∧ 0 < q.1 ∧ o + q.1 ≤ es ∧ x.fz = true ∧ x.one = true ∧ leafAll x.cells = true) (K (σ.map (storeLeaf t es i o x.cells))) := by
  unfold evStore caseO andK
  apply propext
  constructor
  · rintro ⟨h0, q, h1, h2, h3, h4, h5, h6, h7, h8⟩; exact ⟨q, h1, ⟨h0, h2, h3, h4, h5, h6, h7⟩, h8⟩
  · rintro ⟨q, h1, ⟨h0, h2, h3, h4, h5, h6, h7⟩, h8⟩; exact ⟨h0, q, h1, h2, h3, h4, h5, h6, h7, h8⟩
@[go_sem] theorem evStore_po {t i : Nat} {xs : List AV} {x : AV} : evStore P T σ (.po t xs i) x K = caseO (tinfo P T) fun q => andK (q.1 = 1 ∧ x.one = true ∧ rowOk t x = true) (K (σ.map (putLeaf t i x))) := by
  unfold evStore caseO andK
  apply propext
  constructor
  · rintro ⟨q, h1, h2, h3, h4, h5⟩; exact ⟨q, h1, ⟨h2, h3, h4⟩, h5⟩
  · rintro ⟨q, h1, ⟨h2, h3, h4⟩, h5⟩; exact ⟨q, h1, h2, h3, h4, h5⟩
attribute [go_sem] evAlloc
end
/-! ### the end -/
@[go_sem] theorem resK_nil {K : List AV → Prop} : resK P ⟨n, t, b⟩ [] K = K [] := rfl
@[go_sem] theorem resK_tmp {s : Nat} {r : List ResultVar} {K : List AV → Prop} : resK P ⟨n, t, b⟩ (.tmp s :: r) K = resK P ⟨n, t, b⟩ r fun l => K (lookT t s :: l) := rfl
@[go_sem] theorem resK_cell {s : Nat} {T : TypeId} {r : List ResultVar} {K : List AV → Prop} : resK P ⟨n, t, b⟩ (.cell s T :: r) K = evLoad P b T (lookT t s) fun x => resK P ⟨n, t, b⟩ r fun l => K (x :: l) := rfl
def finK (m : Nat) (post : AV → List (List AV) → Prop) (b : List (List AV)) (l : List AV) : Prop :=
  m ≤ b.length ∧ (tupA l).allLeaf (pbLt m) = true ∧ (tupA l).tags.length < 1000 ∧ ((b.take m).all fun cs => cs.all fun x => x.allLeaf fun y => noTag y && pbLt m y) = true ∧ post (tupA l).canon (b.take m)
@[congr] theorem finK_congr {m : Nat} {post : AV → List (List AV) → Prop} {b b' : List (List AV)} {l l' : List AV} (h : mkd b = b') (h1 : l = l') : finK m post b l = finK m post b' l' := by subst_vars; rfl
@[go_sem] theorem endK_eq {rs : List ResultVar} {m : Nat} {post : AV → List (List AV) → Prop} : endK P rs m post ⟨n, t, b⟩ = resK P ⟨n, t, b⟩ rs (finK m post b) := rfl
def allNoTag (m : Nat) : List (List AV) → Bool
  | [] => true
  | cs :: r => allLeafs (fun y => noTag y && pbLt m y) cs && allNoTag m r
theorem allLeafs_all (q : AV → Bool) : ∀ cs : List AV, (cs.all fun x => x.allLeaf q) = allLeafs q cs
  | [] => rfl
  | x :: r => by simp [allLeafs, allLeafs_all q r]
theorem allNoTag_eq (m : Nat) : ∀ b : List (List AV), (b.all fun cs => cs.all fun x => x.allLeaf fun y => noTag y && pbLt m y) = allNoTag m b
  | [] => rfl
  | cs :: r => by rw [List.all_cons, allLeafs_all, allNoTag_eq m r]; rfl
@[go_sem] theorem finK_one {m : Nat} {post : AV → List (List AV) → Prop} {x : AV} : finK m post b [x] = andK (m ≤ b.length) (andK (x.allLeaf (pbLt m) = true) (andK (x.tags.length < 1000) (andK (allNoTag m (b.take m) = true) (post x.canon (b.take m))))) := by
  simp only [finK, allNoTag_eq, andK, tupA]
@[go_sem] theorem finK_nil {m : Nat} {post : AV → List (List AV) → Prop} : finK m post b [] = andK (m ≤ b.length) (andK (allNoTag m (b.take m) = true) (post (.tup []) (b.take m))) := by
  simp [finK, allNoTag_eq, andK, tupA, AV.allLeaf, allLeafs, AV.canon, AV.mapTop, mapTops, AV.tags, tagss]
@[go_sem] theorem finK_two {m : Nat} {post : AV → List (List AV) → Prop} {x y : AV} {l : List AV} : finK m post b (x :: y :: l) = andK (m ≤ b.length) (andK (allLeafs (pbLt m) (x :: y :: l) = true) (andK ((tagss (x :: y :: l)).length < 1000) (andK (allNoTag m (b.take m) = true) (post (AV.tup (x :: y :: l)).canon (b.take m))))) := by
  simp only [finK, allNoTag_eq, andK, tupA, AV.allLeaf, AV.tags]
/-- .. that hands back what it was given -/
def finW (post : AV → List AV → Prop) (b : List (List AV)) (l : List AV) : Prop :=
  ∃ ys rest, b = ys :: rest ∧ allLeafs (pbLt 0) (tupA l :: ys) = true ∧ (tagss (tupA l :: ys)).length < 1000 ∧ post ((tupA l).mapTop (renLeaf (tagss (tupA l :: ys)))) (mapTops (renLeaf (tagss (tupA l :: ys))) ys)
@[congr] theorem finW_congr {post : AV → List AV → Prop} {b b' : List (List AV)} {l l' : List AV} (h : mkd b = b') (h1 : l = l') : finW post b l = finW post b' l' := by subst_vars; rfl
@[go_sem] theorem endQW_normal {rs : List ResultVar} {post : AV → List AV → Prop} {σ : St} : endQW P rs post .normal σ = endW P rs post σ := rfl
@[go_sem] theorem endQW_ret {rs : List ResultVar} {post : AV → List AV → Prop} {σ : St} : endQW P rs post .ret σ = endW P rs post σ := rfl
@[go_sem] theorem endW_eq {rs : List ResultVar} {post : AV → List AV → Prop} : endW P rs post ⟨n, t, b⟩ = resK P ⟨n, t, b⟩ rs (finW post b) := rfl
@[go_sem] theorem finW_cons {post : AV → List AV → Prop} {ys : List AV} {r : List (List AV)} {l : List AV} : finW post (ys :: r) l = andK (allLeafs (pbLt 0) (tupA l :: ys) = true) (andK ((tagss (tupA l :: ys)).length < 1000) (post ((tupA l).mapTop (renLeaf (tagss (tupA l :: ys)))) (mapTops (renLeaf (tagss (tupA l :: ys))) ys))) := by
  unfold finW andK
  apply propext
  constructor
  · rintro ⟨ys', r', h, h1, h2, h3⟩
    cases h; exact ⟨h1, h2, h3⟩
  · rintro ⟨h1, h2, h3⟩
    exact ⟨ys, r, rfl, h1, h2, h3⟩
/-- .. that may write to what its variables own -/
def finX (m : Nat) (post : AV → List (List AV) → Prop) (b : List (List AV)) (l : List AV) : Prop :=
  m ≤ b.length ∧ allLeafs (pbLt m) (tupA l :: catB (b.take m)) = true ∧ (tagss (tupA l :: catB (b.take m))).length < 1000 ∧
    post ((tupA l).mapTop (renLeaf (tagss (tupA l :: catB (b.take m))))) (mapB (renLeaf (tagss (tupA l :: catB (b.take m)))) (b.take m))
@[congr] theorem finX_congr {m : Nat} {post : AV → List (List AV) → Prop} {b b' : List (List AV)} {l l' : List AV} (h : mkd b = b') (h1 : l = l') : finX m post b l = finX m post b' l' := by subst_vars; rfl
@[go_sem] theorem endQX_normal {rs : List ResultVar} {m : Nat} {post : AV → List (List AV) → Prop} {σ : St} : endQX P rs m post .normal σ = endX P rs m post σ := rfl
@[go_sem] theorem endQX_ret {rs : List ResultVar} {m : Nat} {post : AV → List (List AV) → Prop} {σ : St} : endQX P rs m post .ret σ = endX P rs m post σ := rfl
@[go_sem] theorem endX_eq {rs : List ResultVar} {m : Nat} {post : AV → List (List AV) → Prop} : endX P rs m post ⟨n, t, b⟩ = resK P ⟨n, t, b⟩ rs (finX m post b) := rfl
@[go_sem] theorem finX_cons {m : Nat} {post : AV → List (List AV) → Prop} {c : List AV} {b : List (List AV)} {l : List AV} : finX m post (c :: b) l = andK (m ≤ (c :: b).length) (andK (allLeafs (pbLt m) (tupA l :: catB ((c :: b).take m)) = true) (andK ((tagss (tupA l :: catB ((c :: b).take m))).length < 1000)
    (post ((tupA l).mapTop (renLeaf (tagss (tupA l :: catB ((c :: b).take m))))) (mapB (renLeaf (tagss (tupA l :: catB ((c :: b).take m)))) ((c :: b).take m))))) := rfl
attribute [go_sem] catB
attribute [go_sem] allNoTag List.take_zero List.take_succ_cons List.take_nil
end
end Go.AM

/-! ## AmQ -/
namespace Go.AM
open Go.RowKit

section
variable {P : Program}

/-! ### what the edges say -/
def edges (o : Oper) : List Nat := (o.after.toList.filter (Region.binds .any)).map (·.on)

def reach (ops : Array Oper) : Nat → Nat → Nat → Bool
  | 0, _, _ => false
  | f + 1, i, j => match ops[i]? with
    | none => false
    | some o => (edges o).any (fun k => k == j) || (edges o).any (fun k => reach ops f k j)

def slotsOf (o : Oper) : List Nat := o.op.operands.toList.filterMap fun | .tmp t => some t | _ => none

def headOk (ops : Array Oper) (m i : Nat) (o : Oper) : Bool :=
  o.guard.isNone && (edges o).all (fun k => decide (k < i)) &&
  match o.dst with
  | none => false
  | some d => !(slotsOf o).contains d && (List.range m).all fun j => j == i || match ops[j]? with
      | none => false
      | some p => match p.dst with
        | none => false
        | some s => s != d && (!(slotsOf o).contains s || (if j < i then reach ops ops.size i j else reach ops ops.size j i))
/-- the slots that an operation reads, its guard's among them -/
def guardS (ops : Array Oper) (o : Oper) : List Nat := match o.guard with
  | none => []
  | some (j, _) => match guardSlot ops j with
    | none => []
    | some g => [g]
def slotsG (ops : Array Oper) (o : Oper) : List Nat := guardS ops o ++ slotsOf o
def headOkG (ops : Array Oper) (m i : Nat) (o : Oper) : Bool :=
  (edges o).all (fun k => decide (k < i)) &&
  match o.dst with
  | none => false
  | some d => !(slotsG ops o).contains d && (List.range m).all fun j => j == i || match ops[j]? with
      | none => false
      | some p => match p.dst with
        | none => false
        | some s => s != d && (!(slotsG ops o).contains s || (if j < i then reach ops ops.size i j else reach ops ops.size j i))
def tailOk (ops : Array Oper) (i : Nat) (o : Oper) : Bool :=
  (edges o).all (fun k => decide (k < i)) && (List.range i).all fun j => reach ops ops.size i j
def drawOk (ops : Array Oper) (m : Nat) : Bool :=
  decide (m ≤ ops.size) && (List.range ops.size).all fun i => match ops[i]? with
    | none => false
    | some o => if i < m then headOkG ops m i o else tailOk ops i o

/-- every operation that is listed has those that it waits for listed -/
def Closed (ops : Array Oper) (L : Nat → Bool) : Prop := ∀ i o, ops[i]? = some o → L i = true → ∀ k ∈ edges o, L k = true

theorem reach_listed {ops : Array Oper} {L : Nat → Bool} (hc : Closed ops L) : ∀ (f i j : Nat) o, ops[i]? = some o → (∀ k ∈ edges o, L k = true) → reach ops f i j = true → L j = true
  | 0, _, _, _, _, _, h => by simp [reach] at h
  | f + 1, i, j, o, ho, hl, h => by
    simp only [reach, ho, Bool.or_eq_true, List.any_eq_true, beq_iff_eq] at h
    rcases h with ⟨k, hk, rfl⟩ | ⟨k, hk, hr⟩
    · exact hl k hk
    · cases hok : ops[k]? with
      | none => cases f <;> simp [reach, hok] at hr
      | some ok => exact reach_listed hc f k j ok hok (fun k' hk' => hc k ok hok (hl k hk) k' hk') hr

/-! ### one operation of the head -/
def creates (op : Op) : Bool :=
  match op with
  | .call { callee := .value _, .. } => true
  | op => needsFresh op

/-- wherever it runs, it yields y and only adds to memory -/
def StepOk (P : Program) (o : Oper) (d : Nat) (ρ : Operand → AV) (bx : List (List AV)) (y : AV) : Prop :=
  ∀ (gh : Gh) (G : Nat → Status) (a : Act) (w : World), Good G w → BRel gh G w bx → (creates o.op = true → Fresh d G) → (∀ x ∈ o.op.operands, VRel G w (ρ x) (a.eval x)) →
    ∀ (K' : Act → World → Prop) (Q : Exit → Act → World → Prop), (∀ v w' G', VRel G' w' y v → Ext G w G' w' → Good G' w' → NewTags d G G' → K' (a.put o.dst v) w') → o.wp P a w K' Q

def CallY (P : Program) (f : FuncId) (args : List AV) (d : Nat) (σ : St) (K : St → Prop) : Prop :=
  ∃ r, Con P f (args.map AV.view) [] (fun r' _ => r' = r) ∧ r.allLeaf lt64 = true ∧ (tagss args = [] ∨ r.allLeaf flatLeaf = true) ∧ K (σ.put (some d) (r.shift (64 * (d + 1))))

def headOp (P : Program) (o : Oper) (σ : St) (K : St → Prop) : Prop :=
  match o.dst with
  | none => False
  | some d => d < σ.n ∧ match o.op with
    | .call { callee := .value f, args, argTypes := _ } => match σ.ev f with
      | .fn fid caps => CallY P fid (args.toList.map σ.ev ++ caps) d σ K
      | _ => False
    | op => evOp P d σ.ev σ.boxes o.type op fun r => K (σ.put (some d) r)

/-- what a guard's slot says; one that was left out leaves out -/
def knownB (want : Bool) : AV → Option Bool
  | .sc (.bool c) => some c
  | .sc (.tuple _) => some (!want)
  | _ => none

/-- an operation that has a guard: run or left out -/
def headG (P : Program) (ops : Array Oper) (o : Oper) (σ : St) (K : St → Prop) : Prop :=
  match o.guard with
  | none => headOp P o σ K
  | some (j, want) => ∃ g c, guardSlot ops j = some g ∧ knownB want (σ.get g) = some c ∧ ((c == want) = true → headOp P o σ K) ∧ ((c == want) = false → ∃ d, o.dst = some d ∧ d < σ.n ∧ K (σ.put (some d) (.sc undef)))

def headA (P : Program) (ops : Array Oper) : List Oper → St → (St → Prop) → Prop
  | [], σ, K => K σ
  | o :: r, σ, K => headG P ops o σ fun σ' => headA P ops r σ' K

theorem back_ext {d : Nat} {G G' : Nat → Status} {w w' : World} (h : Good G w) (hf : Fresh d G) (hG : Good G' w') (e1 : w'.os = w.os) (e2 : w'.tape = w.tape) (e3 : w'.output = w.output) (e4 : w.heap.size ≤ w'.heap.size) (e6 : ∀ b, b < w.heap.size → w'.heap[b]? = w.heap[b]?) :
    Ext G w (backG d w.heap.size G G') w' ∧ Good (backG d w.heap.size G G') w' ∧ NewTags d G (backG d w.heap.size G G') := by
  have htag : ∀ b t, backG d w.heap.size G G' b = .tag t → (b < w.heap.size ∧ G b = .tag t) ∨ (¬ b < w.heap.size ∧ root t / 64 = d + 1 ∧ G' b = .tag (t - 64 * (d + 1))) := by
    intro b t hb
    unfold backG at hb
    split at hb
    · exact .inl ⟨by assumption, hb⟩
    · rename_i hn
      split at hb <;> try (cases hb; done)
      rename_i t' ht'
      split at hb
      · cases hb; exact .inr ⟨hn, by have := hf.1; unfold root at *; omega, by rw [ht']; congr 1; omega⟩
      · cases hb
  have hbox : ∀ b i, backG d w.heap.size G G' b = .box i → G b = .box i := by
    intro b i hb
    unfold backG at hb
    split at hb
    · exact hb
    · split at hb <;> first | (cases hb; done) | (split at hb <;> cases hb)
  refine ⟨⟨e1, e2, e3, e4, fun b hb => by simp [backG, hb], e6⟩, ⟨fun b hb => ?_, fun b b' t h1 h2 => ?_, fun b b' i h1 h2 => h.boxes b b' i (hbox b i h1) (hbox b' i h2)⟩, ⟨fun b t hb => ?_, hbox⟩⟩
  · unfold backG at hb
    split at hb
    · omega
    · exact hG.lt b fun h' => hb (by simp [h'])
  · rcases htag b t h1 with ⟨_, h1⟩ | ⟨_, h1, g1⟩ <;> rcases htag b' t h2 with ⟨_, h2⟩ | ⟨_, h2, g2⟩
    · exact h.tags b b' t h1 h2
    · exact absurd h2 (hf.2 b t h1)
    · exact absurd h1 (hf.2 b' t h2)
    · exact hG.tags b b' _ g1 g2
  · rcases htag b t hb with ⟨_, h⟩ | ⟨_, h, _⟩
    · exact .inl h
    · exact .inr h

theorem headOp_sound {o : Oper} {σ : St} {K : St → Prop} (h : headOp P o σ K) : ∃ d y, o.dst = some d ∧ d < σ.n ∧ K (σ.put (some d) y) ∧ StepOk P o d σ.ev σ.boxes y := by
  unfold headOp at h
  split at h
  · exact h.elim
  · rename_i d hd
    obtain ⟨hdn, h⟩ := h
    split at h
    · rename_i f args As ho
      split at h
      · rename_i fid caps hf
        obtain ⟨r, ⟨⟨fn, hfn, hname, hbody⟩, hcon⟩, hlt, hts, hk⟩ := h
        refine ⟨d, _, hd, hdn, hk, fun gh G a w hg hb hfr hv K' Q hK => ?_⟩
        have hfr := hfr (by simp [creates, ho])
        have hff := hv f (by simp [ho, Op.operands, Call.operands])
        rw [hf] at hff
        obtain ⟨vs, hfe, hcaps⟩ := hff.fn_inv
        have hgv := hg.view (ts := tagss (args.toList.map σ.ev ++ caps))
        have hva0 : PW (VRel G w) (args.toList.map σ.ev ++ caps) (args.map a.eval ++ vs).toList := by
          rw [Array.toList_append, Array.toList_map]
          refine PW.append ⟨by simp, fun j x u hx hu => ?_⟩ (hcaps.mono fun x y _ hr => .froz hr)
          simp only [List.getElem?_map] at hx hu
          cases hj : args.toList[j]? with
          | none => simp [hj] at hx
          | some c =>
            simp [hj] at hx hu; subst hx; subst hu
            have hc : c ∈ args.toList := List.mem_of_getElem? hj
            exact hv c (by simp [ho, Op.operands, Call.operands]; exact .inr (by simpa using hc))
        have hva : PW (VRel (viewG (tagss (args.toList.map σ.ev ++ caps)) G) w) ((args.toList.map σ.ev ++ caps).map AV.view) (args.map a.eval ++ vs).toList := by
          refine ⟨by simpa using hva0.1, fun j x u hx hu => ?_⟩
          rw [List.getElem?_map] at hx
          cases hj : (args.toList.map σ.ev ++ caps)[j]? with
          | none => simp [hj] at hx
          | some y =>
            simp [hj] at hx; subst hx
            exact (hva0.2 j y u hj hu).view (tags_in _ y (tagss_mem (List.mem_of_getElem? hj)))
        have hrun : (execOp a.eval o).run P w = .ok (.enter fid (args.map a.eval ++ vs)) w := by
          have hname' : ¬ fn.name = "runtime.NumGoroutine" := by simpa using hname
          have hbody' : ¬ fn.body = none := by intro h; rw [h] at hbody; simp at hbody
          simp [execOp, ho, resolve, hfe, Deferred.ofValue, invoke, callFunc, hfn, hname', hbody']
        unfold Oper.wp
        rw [hrun, Oper.upon_enter]
        refine (hcon _ w _ hgv.1 hgv.2.1 (fun b i hb => absurd hb (hgv.2.2 b i)) ⟨fun i vs hv => by simp [noGh] at hv, fun i cs hi => by simp at hi⟩ hva).mono ?_
        rintro e w' ⟨v, r', bx', G', rfl, rfl, hr, hG', _, _, e1, e2, e3, e4, e5, e6⟩
        have e6' : ∀ b, b < w.heap.size → w'.heap[b]? = w.heap[b]? := fun b hb => e6 b hb (fun i => hgv.2.2 b i)
        obtain ⟨k1, k2, k3⟩ := back_ext (d := d) hg hfr hG' e1 e2 e3 e4 e6'
        have hback := hr.back (d := d) (G := G) (Gc := viewG (tagss (args.toList.map σ.ev ++ caps)) G) (w := w) hlt hfr.1 e5 hgv.2.1 (by
          rcases hts with hts | hts
          · refine .inl fun b _ hb => ?_
            unfold Stable viewG at *
            split at hb
            · assumption
            · rw [hts] at hb; simp at hb
            · cases hb
          · exact .inr hts)
        exact hK v w' _ hback k1 k2 k3
      · exact h.elim
    · rename_i hnc
      obtain ⟨r, hk, hr⟩ := evOp_sound h
      refine ⟨d, r, hd, hdn, hk, fun gh G a w hg hb hfr hv K' Q hK => ?_⟩
      obtain ⟨v, w', G', g1, g2, g3, g4, g5⟩ := hr o gh G w a.eval rfl hg (fun h => hfr (by unfold creates; split; rfl; exact h)) hb hv
      unfold Oper.wp
      rw [g1, Oper.upon_value]
      exact hK v w' G' g2 g3 g4 g5

/-- a step of the head: run, or left out -/
def StepG (P : Program) (ops : Array Oper) (o : Oper) (d : Nat) (σ : St) (bx : List (List AV)) (y : AV) : Prop :=
  (o.guard = none ∧ StepOk P o d σ.ev bx y) ∨ (∃ j want g c, o.guard = some (j, want) ∧ guardSlot ops j = some g ∧ σ.get g = .sc (.bool c) ∧ ((c = want ∧ StepOk P o d σ.ev bx y) ∨ (c ≠ want ∧ y = .sc undef))) ∨ ∃ j want g vs, o.guard = some (j, want) ∧ guardSlot ops j = some g ∧ σ.get g = .sc (.tuple vs) ∧ y = .sc undef

theorem headG_sound {ops : Array Oper} {o : Oper} {σ : St} {K : St → Prop} (h : headG P ops o σ K) : ∃ d y, o.dst = some d ∧ d < σ.n ∧ K (σ.put (some d) y) ∧ StepG P ops o d σ σ.boxes y := by
  unfold headG at h
  split at h
  · rename_i hg
    obtain ⟨d, y, h1, h2, h3, h4⟩ := headOp_sound h
    exact ⟨d, y, h1, h2, h3, .inl ⟨hg, h4⟩⟩
  · rename_i j want hg
    obtain ⟨g, c, e1, e2, e3, e4⟩ := h
    have e2' : σ.get g = .sc (.bool c) ∨ ((∃ vs, σ.get g = .sc (.tuple vs)) ∧ c = !want) := by
      revert e2; unfold knownB; split
      · rename_i h; intro e; cases e; exact .inl h
      · rename_i h; intro e; cases e; exact .inr ⟨⟨_, h⟩, rfl⟩
      · intro e; cases e
    rcases e2' with e2' | ⟨⟨vs, e2'⟩, rfl⟩
    · by_cases hc : c = want
      · obtain ⟨d, y, h1, h2, h3, h4⟩ := headOp_sound (e3 (by simpa using hc))
        exact ⟨d, y, h1, h2, h3, .inr (.inl ⟨j, want, g, c, hg, e1, e2', .inl ⟨hc, h4⟩⟩)⟩
      · obtain ⟨d, h1, h2, h3⟩ := e4 (by simpa using hc)
        exact ⟨d, _, h1, h2, h3, .inr (.inl ⟨j, want, g, c, hg, e1, e2', .inr ⟨hc, rfl⟩⟩)⟩
    · obtain ⟨d, h1, h2, h3⟩ := e4 (by cases want <;> rfl)
      exact ⟨d, _, h1, h2, h3, .inr (.inr ⟨j, want, g, vs, hg, e1, e2', rfl⟩)⟩

/-! ### the head in a row -/
def puts (σ : St) : List (Nat × AV) → St
  | [] => σ
  | p :: r => puts (σ.put (some p.1) p.2) r

theorem headA_vals {ops : Array Oper} : ∀ (l : List Oper) (σ : St) (K : St → Prop), headA P ops l σ K → ∃ vs : List (Nat × AV), vs.length = l.length ∧ K (puts σ vs) ∧
    ∀ i o, l[i]? = some o → ∃ d y, vs[i]? = some (d, y) ∧ o.dst = some d ∧ d < σ.n ∧ StepG P ops o d (puts σ (vs.take i)) σ.boxes y
  | [], σ, K, h => ⟨[], rfl, h, fun i o hi => by simp at hi⟩
  | o :: l, σ, K, h => by
    obtain ⟨d, y, h1, h2, h3, h4⟩ := headG_sound h
    obtain ⟨vs, g1, g2, g3⟩ := headA_vals l _ K h3
    refine ⟨(d, y) :: vs, by simp [g1], g2, fun i o' hi => ?_⟩
    cases i with
    | zero => simp at hi; subst hi; exact ⟨d, y, rfl, h1, h2, h4⟩
    | succ i =>
      obtain ⟨d', y', k1, k2, k3, k4⟩ := g3 i o' (by simpa using hi)
      rw [put_n] at k3; rw [put_boxes] at k4
      exact ⟨d', y', by simpa using k1, k2, k3, k4⟩

/-- the frame, when those of L have run -/
structure At (vs : List (Nat × AV)) (L : Nat → Bool) (σ τ : St) : Prop where
  n : τ.n = σ.n
  boxes : τ.boxes = σ.boxes
  dst : ∀ (i d : Nat) (y : AV), vs[i]? = some (d, y) → τ.get d = if L i = true then y else σ.get d
  rest : ∀ s : Nat, (∀ (i d : Nat) (y : AV), vs[i]? = some (d, y) → d ≠ s) → τ.get s = σ.get s

def Apart (vs : List (Nat × AV)) : Prop := ∀ (i j d : Nat) (y : AV) (d' : Nat) (y' : AV), vs[i]? = some (d, y) → vs[j]? = some (d', y') → i ≠ j → d ≠ d'

theorem get_put {σ : St} {d s : Nat} {x : AV} : (σ.put (some d) x).get s = if d = s then x else σ.get s := by simp only [St.put, St.get, lookT_put]

theorem puts_at : ∀ (k : Nat) (vs : List (Nat × AV)) (σ : St), Apart vs → At vs (fun i => decide (i < k)) σ (puts σ (vs.take k))
  | 0, vs, σ, _ => ⟨rfl, rfl, fun i d y _ => by simp [puts], fun s _ => by simp [puts]⟩
  | k + 1, [], σ, _ => ⟨rfl, rfl, fun i d y h => by simp at h, fun s _ => by simp [puts]⟩
  | k + 1, p :: vs, σ, ha => by
    have ha' : Apart vs := fun i j d y d' y' h1 h2 hij => ha (i + 1) (j + 1) d y d' y' (by simpa using h1) (by simpa using h2) (by omega)
    have ih := puts_at k vs (σ.put (some p.1) p.2) ha'
    simp only [List.take_succ_cons, puts]
    refine ⟨by rw [ih.n, put_n], by rw [ih.boxes, put_boxes], fun i d y h => ?_, fun s h => ?_⟩
    · cases i with
      | zero =>
        simp at h; subst h
        rw [ih.rest d (fun i d' y' hi => (ha 0 (i + 1) d y d' y' rfl (by simpa using hi) (by omega)).symm), get_put]
        simp
      | succ i =>
        have h' : vs[i]? = some (d, y) := by simpa using h
        rw [ih.dst i d y h', get_put]
        have hne : p.1 ≠ d := ha 0 (i + 1) p.1 p.2 d y rfl h (by omega)
        simp [hne]
    · rw [ih.rest s (fun i d y hi => h (i + 1) d y (by simpa using hi)), get_put]
      rw [if_neg (h 0 p.1 p.2 rfl)]

theorem At.step {vs : List (Nat × AV)} {L L' : Nat → Bool} {σ τ : St} {i d : Nat} {y : AV} (h : At vs L σ τ) (ha : Apart vs) (hi : vs[i]? = some (d, y)) (hL : ∀ j, j ≠ i → L' j = L j) (hLi : L' i = true) : At vs L' σ (τ.put (some d) y) := by
  refine ⟨by rw [put_n, h.n], by rw [put_boxes, h.boxes], fun j d' y' hj => ?_, fun s hs => ?_⟩
  · rw [get_put]
    by_cases hij : j = i
    · subst hij; rw [hi] at hj; cases hj; simp [hLi]
    · rw [if_neg (ha i j d y d' y' hi hj (Ne.symm hij)), h.dst j d' y' hj, hL j hij]
  · rw [get_put, if_neg (hs i d y hi), h.rest s hs]

theorem SRel.slotsEq {G0 w0 σ τ G a w} (h : SRel G0 w0 σ G a w) (hn : τ.n = σ.n) (hb : τ.boxes = σ.boxes) (hs : ∀ s, τ.get s = σ.get s) : SRel G0 w0 τ G a w :=
  { h with
    slots := fun s => by rw [hs s]; exact h.slots s
    boxes := by rw [hb]; exact h.boxes
    blt := by rw [hb]; exact h.blt
    size := by rw [hn]; exact h.size }

theorem SRel.drawn {G0 w0 σ G a w} (h : SRel G0 w0 σ G a w) (n : Nat) : SRel G0 w0 σ G a { w with drawn := n } := by
  have hm : ∀ {x v}, VRel G w x v → VRel G { w with drawn := n } x v := fun hr => hr.mono (fun _ _ => rfl) (fun _ _ _ => rfl)
  exact { h with
    good := ⟨h.good.lt, h.good.tags, h.good.boxes⟩
    slots := fun s => hm (h.slots s)
    boxes := ⟨h.boxes.low, fun i cs hi => (h.boxes.cell i cs hi).same (fun x v hr => hm hr) (fun b h1 => ⟨h1, rfl⟩) fun h0 => h0⟩
    hsize := h.hsize
    keep := h.keep }

/-! ### the drawn region -/
def creators (ops : Array Oper) (m : Nat) : List Nat := (ops.toList.take m).filterMap fun o => if creates o.op = true then o.dst else none
def freeAll (σ : St) : List Nat → Bool
  | [] => true
  | d :: r => σ.free d && freeAll σ r

theorem freeAll_mem {σ : St} : ∀ {l : List Nat}, freeAll σ l = true → ∀ d ∈ l, σ.free d = true
  | x :: r, h, d, hd => by
    simp only [freeAll, Bool.and_eq_true] at h
    rcases List.mem_cons.1 hd with rfl | hd
    · exact h.1
    · exact freeAll_mem h.2 d hd

theorem killR_fresh {d d' : Nat} {G : Nat → Status} (h : Fresh d' G) : Fresh d' (killR d G) := ⟨h.1, fun b t hb => h.2 b t (killR_tag hb).1⟩

theorem SRel.freshAll {G0 w0 σ a w} (h0 : True) : ∀ (l : List Nat) (G : Nat → Status), SRel G0 w0 σ G a w → freeAll σ l = true → ∃ G', SRel G0 w0 σ G' a w ∧ (∀ d ∈ l, Fresh d G') ∧ ∀ d, Fresh d G → Fresh d G'
  | [], G, h, _ => ⟨G, h, fun d hd => by simp at hd, fun _ h => h⟩
  | d :: r, G, h, hf => by
    simp only [freeAll, Bool.and_eq_true] at hf
    obtain ⟨k1, k2⟩ := h.fresh hf.1 h0
    obtain ⟨G', g1, g2, g3⟩ := SRel.freshAll h0 r _ k1 hf.2
    refine ⟨G', g1, fun d' hd' => ?_, fun d' hd' => g3 d' (killR_fresh hd')⟩
    rcases List.mem_cons.1 hd' with rfl | hd'
    · exact g3 _ k2
    · exact g2 d' hd'

theorem NewTags.fresh {d d' : Nat} {G G' : Nat → Status} (h : NewTags d G G') (hne : d ≠ d') (hf : Fresh d' G) : Fresh d' G' := by
  refine ⟨hf.1, fun b t hb => ?_⟩
  rcases h.tags b t hb with h | h
  · exact hf.2 b t h
  · omega

section
variable {ops : Array Oper} {m : Nat} {vs : List (Nat × AV)} {σ : St} {K : St → Prop} {G0 : Orig} {w0 : World} {Q : Exit → Act → World → Prop}

theorem binds_edges {o : Oper} {L : Nat → Bool} : (∀ e ∈ o.after, Region.binds .any e = true → L e.on = true) ↔ ∀ k ∈ edges o, L k = true := by
  unfold edges
  constructor
  · intro h k hk
    obtain ⟨e, he, rfl⟩ := List.mem_map.1 hk
    have := List.mem_filter.1 he
    exact h e (by simpa using this.1) this.2
  · intro h e he hb
    exact h e.on (List.mem_map.2 ⟨e, List.mem_filter.2 ⟨by simpa using he, hb⟩, rfl⟩)

theorem ready_iff {i : Nat} {listed : Array Bool} (hs : listed.size = ops.size) : i ∈ Region.ready .any ops listed ↔
    ∃ o, ops[i]? = some o ∧ listed.getD i false = false ∧ ∀ k ∈ edges o, listed.getD k false = true := by
  rw [mem_ready]
  constructor
  · rintro ⟨h1, o, ho, h2⟩
    refine ⟨o, ho, ?_, binds_edges.1 h2⟩
    have hlt : i < listed.size := by rw [hs]; exact (Array.getElem?_eq_some_iff.1 ho).1
    simpa [hlt] using h1
  · rintro ⟨o, ho, h1, h2⟩
    refine ⟨?_, o, ho, binds_edges.2 h2⟩
    have hlt : i < listed.size := by rw [hs]; exact (Array.getElem?_eq_some_iff.1 ho).1
    simpa [hlt] using h1

theorem set_getD {i j : Nat} {listed : Array Bool} (hi : i < listed.size) : (listed.setIfInBounds i true).getD j false = if i = j then true else listed.getD j false := by
  by_cases h : i = j
  · subst h; simp [hi]
  · simp [h, Array.getElem?_setIfInBounds_ne h]

/-- those that are left, each once -/
structure Left (ops : Array Oper) (listed : Array Bool) (U : List Nat) : Prop where
  size : listed.size = ops.size
  nodup : U.Nodup
  mem : ∀ i, i ∈ U ↔ i < ops.size ∧ listed.getD i false = false

theorem Left.step {listed : Array Bool} {U : List Nat} {i : Nat} (h : Left ops listed U) (hi : i ∈ U) : Left ops (listed.setIfInBounds i true) (U.erase i) ∧ (U.erase i).length + 1 = U.length := by
  have hlt := ((h.mem i).1 hi).1
  refine ⟨⟨by simpa using h.size, h.nodup.erase i, fun j => ?_⟩, ?_⟩
  · rw [h.nodup.mem_erase_iff, h.mem j, set_getD (by rw [h.size]; exact hlt)]
    constructor
    · rintro ⟨h1, h2, h3⟩; exact ⟨h2, by rw [if_neg (Ne.symm h1)]; exact h3⟩
    · rintro ⟨h1, h2⟩
      by_cases hij : i = j
      · rw [if_pos hij] at h2; cases h2
      · rw [if_neg hij] at h2; exact ⟨Ne.symm hij, h1, h2⟩
  · rw [List.length_erase_of_mem hi]
    have : 0 < U.length := List.length_pos_of_mem hi
    omega

theorem Closed.step {listed : Array Bool} {i : Nat} {o : Oper} (hc : Closed ops (fun k => listed.getD k false)) (hlt : i < listed.size) (ho : ops[i]? = some o) (hl : ∀ k ∈ edges o, listed.getD k false = true) :
    Closed ops (fun k => (listed.setIfInBounds i true).getD k false) := by
  intro j oj hoj hj k hk
  simp only [set_getD hlt] at hj ⊢
  by_cases hik : i = k
  · rw [if_pos hik]
  · rw [if_neg hik]
    by_cases hij : i = j
    · subst hij; rw [ho] at hoj; cases hoj; exact hl k hk
    · rw [if_neg hij] at hj; exact hc j oj hoj hj k hk

/-- someone is ready, while someone is left -/
theorem some_ready {listed : Array Bool} {U : List Nat} (h : Left ops listed U) (hlt : ∀ i o, ops[i]? = some o → ∀ k ∈ edges o, k < i) (hne : U ≠ []) : Region.ready .any ops listed ≠ [] := by
  obtain ⟨u, hu⟩ := List.exists_mem_of_ne_nil U hne
  have key : ∀ n, ∀ u ∈ U, u ≤ n → ∃ i, i ∈ Region.ready .any ops listed := by
    intro n
    induction n with
    | zero =>
      intro u hu hn
      have := (h.mem u).1 hu
      obtain ⟨o, ho⟩ : ∃ o, ops[u]? = some o := ⟨ops[u], by simp [this.1]⟩
      exact ⟨u, (ready_iff h.size).2 ⟨o, ho, this.2, fun k hk => by have := hlt u o ho k hk; omega⟩⟩
    | succ n ih =>
      intro u hu hn
      have hm := (h.mem u).1 hu
      obtain ⟨o, ho⟩ : ∃ o, ops[u]? = some o := ⟨ops[u], by simp [hm.1]⟩
      by_cases hall : ∀ k ∈ edges o, listed.getD k false = true
      · exact ⟨u, (ready_iff h.size).2 ⟨o, ho, hm.2, hall⟩⟩
      · have : ∃ k, k ∈ edges o ∧ listed.getD k false = false := by
          apply Classical.byContradiction
          intro hcon
          exact hall fun k hk => by
            cases hb : listed.getD k false
            · exact absurd ⟨k, hk, hb⟩ hcon
            · rfl
        obtain ⟨k, hk, hkf⟩ := this
        have hku := hlt u o ho k hk
        exact ih k ((h.mem k).2 ⟨by omega, hkf⟩) (by omega)
  obtain ⟨i, hi⟩ := key u u hu (Nat.le_refl u)
  exact fun h => by rw [h] at hi; simp at hi

/-- what the check says -/
structure Plan (ops : Array Oper) (m : Nat) : Prop where
  le : m ≤ ops.size
  lt : ∀ i o, ops[i]? = some o → ∀ k ∈ edges o, k < i
  head : ∀ i o, ops[i]? = some o → i < m → ∃ d, o.dst = some d ∧ d ∉ slotsG ops o ∧ ∀ j p s, j < m → j ≠ i → ops[j]? = some p → p.dst = some s → s ≠ d ∧ (s ∈ slotsG ops o → if j < i then reach ops ops.size i j = true else reach ops ops.size j i = true)
  tail : ∀ i o, ops[i]? = some o → m ≤ i → ∀ j, j < i → reach ops ops.size i j = true

theorem drawOk_plan (h : drawOk ops m = true) : Plan ops m := by
  simp only [drawOk, Bool.and_eq_true, decide_eq_true_eq, List.all_eq_true, List.mem_range] at h
  obtain ⟨h1, h2⟩ := h
  have hof : ∀ i o, ops[i]? = some o → (if i < m then headOkG ops m i o else tailOk ops i o) = true := fun i o ho => by
    have := h2 i (Array.getElem?_eq_some_iff.1 ho).1
    rw [ho] at this; simpa using this
  refine ⟨h1, fun i o ho k hk => ?_, fun i o ho hi => ?_, fun i o ho hi j hj => ?_⟩
  · have := hof i o ho
    split at this
    · simp only [headOkG, Bool.and_eq_true, List.all_eq_true, decide_eq_true_eq] at this
      exact this.1 k hk
    · simp only [tailOk, Bool.and_eq_true, List.all_eq_true, decide_eq_true_eq] at this
      exact this.1 k hk
  · have := hof i o ho
    rw [if_pos hi] at this
    simp only [headOkG, Bool.and_eq_true] at this
    obtain ⟨_, g3⟩ := this
    split at g3
    · cases g3
    · rename_i d hd
      simp only [Bool.and_eq_true, List.all_eq_true, List.mem_range, Bool.not_eq_true', Bool.or_eq_true, beq_iff_eq] at g3
      refine ⟨d, hd, by simpa using g3.1, fun j p s hj hji hp hs => ?_⟩
      have := (g3.2 j hj).resolve_left hji
      simp only [hp, hs, Bool.and_eq_true, bne_iff_ne, ne_eq, Bool.or_eq_true, Bool.not_eq_true'] at this
      refine ⟨this.1, fun hm => ?_⟩
      have h' := this.2.resolve_left (by simpa using hm)
      split at h'
      · rename_i hlt; rw [if_pos hlt]; exact h'
      · rename_i hlt; rw [if_neg hlt]; exact h'
  · have := hof i o ho
    rw [if_neg (by omega)] at this
    simp only [tailOk, Bool.and_eq_true, List.all_eq_true, List.mem_range] at this
    exact this.2 j hj

theorem tail_run (hp : Plan ops m) (h0 : True) (hQ : ∀ σ' G' a' w', K σ' → SRel G0 w0 σ' G' a' w' → Q .normal a' w') :
    ∀ (fuel k : Nat) (listed : Array Bool) (U : List Nat) (σ : St) (G : Nat → Status) (a : Act) (w : World), Left ops listed U → U.length = fuel → m ≤ k → (∀ i, i < ops.size → (listed.getD i false = true ↔ i < k)) → k ≤ ops.size →
      Closed ops (fun k => listed.getD k false) → opsA P ops (ops.toList.drop k) σ K → SRel G0 w0 σ G a w → wpAny P .any ops Q fuel listed a w := by
  intro fuel
  induction fuel with
  | zero =>
    intro k listed U σ G a w hl hU hmk hk hks hc hw h
    have hUn : U = [] := List.eq_nil_of_length_eq_zero hU
    subst hUn
    have hkk : k = ops.size := by
      apply Classical.byContradiction
      intro hne
      have hlt : k < ops.size := by omega
      have : listed.getD k false = false := by
        cases hb : listed.getD k false
        · rfl
        · have := (hk k hlt).1 hb; omega
      have := (hl.mem k).2 ⟨hlt, this⟩
      simp at this
    subst hkk
    refine ⟨?_, ?_⟩
    · apply List.eq_nil_iff_forall_not_mem.2
      intro i hi
      obtain ⟨o, ho, h1, _⟩ := (ready_iff hl.size).1 hi
      have := (hl.mem i).2 ⟨(Array.getElem?_eq_some_iff.1 ho).1, h1⟩
      simp at this
    · have hd : ops.toList.drop ops.size = [] := by simp
      rw [hd] at hw
      exact hQ σ G a w hw h
  | succ fuel ih =>
    intro k listed U σ G a w hl hU hmk hk hks hc hw h
    have hUn : U ≠ [] := by intro h; rw [h] at hU; simp at hU
    refine ⟨fun hr => absurd hr (some_ready hl hp.lt hUn), fun i hi => ?_⟩
    obtain ⟨o, ho, h1, h2⟩ := (ready_iff hl.size).1 hi
    have hlt := (Array.getElem?_eq_some_iff.1 ho).1
    have hki : ¬ i < k := fun h => by have := (hk i hlt).2 h; rw [h1] at this; cases this
    have hik : i = k := by
      apply Classical.byContradiction
      intro hne
      have hlk : k < i := by omega
      have := reach_listed hc ops.size i k o ho h2 (hp.tail i o ho (by omega) k hlk)
      have := (hk k (by omega)).1 this
      omega
    subst hik
    have hdrop : ops.toList.drop i = o :: ops.toList.drop (i + 1) := by
      have hlt' : i < ops.toList.length := by simpa using hlt
      rw [List.drop_eq_getElem_cons hlt']
      have : ops.toList[i] = o := by
        have := Array.getElem?_eq_some_iff.1 ho
        simpa using this.2
      rw [this]
    rw [hdrop] at hw
    have hmem : i ∈ U := (hl.mem i).2 ⟨hlt, h1⟩
    obtain ⟨l1, l2⟩ := hl.step hmem
    have hsz : i < listed.size := by rw [hl.size]; exact hlt
    have hk' : ∀ j, j < ops.size → ((listed.setIfInBounds i true).getD j false = true ↔ j < i + 1) := fun j hj => by
      rw [set_getD hsz]
      by_cases hij : i = j
      · subst hij; simp
      · rw [if_neg hij, hk j hj]; omega
    have hcont : ∀ {σ' G' a' w'}, opsA P ops (ops.toList.drop (i + 1)) σ' K → SRel G0 w0 σ' G' a' w' → wpAny P .any ops Q fuel (listed.setIfInBounds i true) a' w' := fun hk2 hs2 =>
      ih (i + 1) _ _ _ _ _ _ l1 (by omega) (by omega) hk' (by omega) (hc.step hsz ho h2) hk2 hs2
    simp only [opsA] at hw
    simp only [Go.wpOp, ho]
    have run : ∀ {σ}, AM.wpOp P o σ (fun σ' => opsA P ops (ops.toList.drop (i + 1)) σ' K) → SRel G0 w0 σ G a w → o.wp P a w (wpAny P .any ops Q fuel (listed.setIfInBounds i true)) Q := fun hw h =>
      wpOp_sound hw h h0 _ _ fun σ' G' a' w' hk hs => hcont hk hs
    cases hg : o.guard with
    | none =>
      simp only [hg] at hw
      rw [if_pos (by simp [Region.wanted, hg])]
      exact .inl (run hw h)
    | some p =>
      obtain ⟨j, want⟩ := p
      simp only [hg] at hw
      cases hgs : guardSlot ops j with
      | none => simp [hgs] at hw
      | some g =>
        simp only [hgs] at hw
        split at hw
        · rename_i b hb
          have hv := h.slots g
          rw [hb] at hv
          have hy := yielded_bool hgs hv.sc_inv
          by_cases hbw : b = want
          · subst hbw
            rw [if_pos (by simp [Region.wanted, hg, hy])]
            exact .inl (run (hw.1 rfl) (h.same hb))
          · rw [if_neg (by simp [Region.wanted, hg, hy, hbw])]
            have hbn : b = !want := by cases b <;> cases want <;> simp_all
            obtain ⟨hdst, hw⟩ := hw.2 hbn
            have hs := (h.same (g := g) (x := .sc (.bool (!want))) (by rw [hb, hbn])).add (.refl G w) h.good (fun _ _ h => h) (d := o.dst) (x := .sc undef) (v := undef) (by rw [put_n]; exact hdst) (.froz (.sc _))
            exact hcont hw hs
        · rename_i vs hb
          have hv := h.slots g
          rw [hb] at hv
          have hy := yielded_none hgs hv.sc_inv
          rw [if_neg (by simp [Region.wanted, hg, hy])]
          obtain ⟨hdst, hw⟩ := hw
          have hs := h.add (.refl G w) h.good (fun _ _ h => h) (d := o.dst) (x := .sc undef) (v := undef) hdst (.froz (.sc _))
          exact hcont hw hs
        · exact hw.elim

theorem head_run (hp : Plan ops m) (h0 : True) (hQ : ∀ σ' G' a' w', K σ' → SRel G0 w0 σ' G' a' w' → Q .normal a' w') (hvl : vs.length = m) (hap : Apart vs)
    (hK : opsA P ops (ops.toList.drop m) (puts σ vs) K)
    (hst : ∀ i o, i < m → ops[i]? = some o → ∃ d y, vs[i]? = some (d, y) ∧ o.dst = some d ∧ d < σ.n ∧ StepG P ops o d (puts σ (vs.take i)) σ.boxes y) :
    ∀ (fuel : Nat) (listed : Array Bool) (U : List Nat) (τ : St) (G : Nat → Status) (a : Act) (w : World), Left ops listed U → U.length = fuel → (∀ i, m ≤ i → listed.getD i false = false) →
      Closed ops (fun k => listed.getD k false) → At vs (fun i => listed.getD i false) σ τ → SRel G0 w0 τ G a w →
      (∀ i o d, ops[i]? = some o → i < m → o.dst = some d → creates o.op = true → listed.getD i false = false → Fresh d G) → wpAny P .any ops Q fuel listed a w := by
  intro fuel
  induction fuel with
  | zero =>
    intro listed U τ G a w hl hU hm hc hat h hfr
    have hUn : U = [] := List.eq_nil_of_length_eq_zero hU
    subst hUn
    have hall : ∀ i, i < ops.size → listed.getD i false = true := fun i hi => by
      cases hb : listed.getD i false
      · have := (hl.mem i).2 ⟨hi, hb⟩; simp at this
      · rfl
    have hms : m = ops.size := by
      apply Classical.byContradiction
      intro hne
      have := hp.le
      have h1 := hall m (by omega)
      rw [hm m (Nat.le_refl m)] at h1; cases h1
    have heq : SRel G0 w0 (puts σ vs) G a w := by
      have hpa := puts_at m vs σ hap
      rw [List.take_of_length_le (by omega)] at hpa
      refine h.slotsEq (by rw [hpa.n, hat.n]) (by rw [hpa.boxes, hat.boxes]) fun s => ?_
      by_cases hs : ∀ (i d : Nat) (y : AV), vs[i]? = some (d, y) → d ≠ s
      · rw [hpa.rest s hs, hat.rest s hs]
      · have : ∃ (i : Nat) (y : AV), vs[i]? = some (s, y) := by
          apply Classical.byContradiction
          intro hcon
          exact hs fun i d y hi hds => hcon ⟨i, y, by rw [← hds]; exact hi⟩
        obtain ⟨i, y, hi⟩ := this
        have hil : i < m := by rw [← hvl]; exact (List.getElem?_eq_some_iff.1 hi).1
        rw [hpa.dst i s y hi, hat.dst i s y hi]
        simp [hil, hall i (by omega)]
    exact tail_run (P := P) hp h0 hQ 0 m listed [] (puts σ vs) G a w hl rfl (Nat.le_refl m) (fun i hi => by simp [hall i hi]; omega) hp.le hc hK heq
  | succ fuel ih =>
    intro listed U τ G a w hl hU hm hc hat h hfr
    have hUn : U ≠ [] := by intro h; rw [h] at hU; simp at hU
    by_cases hdone : ∀ i, i < m → listed.getD i false = true
    · have heq : SRel G0 w0 (puts σ vs) G a w := by
        have hpa := puts_at m vs σ hap
        rw [List.take_of_length_le (by omega)] at hpa
        refine h.slotsEq (by rw [hpa.n, hat.n]) (by rw [hpa.boxes, hat.boxes]) fun s => ?_
        by_cases hs : ∀ (i d : Nat) (y : AV), vs[i]? = some (d, y) → d ≠ s
        · rw [hpa.rest s hs, hat.rest s hs]
        · have : ∃ (i : Nat) (y : AV), vs[i]? = some (s, y) := by
            apply Classical.byContradiction
            intro hcon
            exact hs fun i d y hi hds => hcon ⟨i, y, by rw [← hds]; exact hi⟩
          obtain ⟨i, y, hi⟩ := this
          have hil : i < m := by rw [← hvl]; exact (List.getElem?_eq_some_iff.1 hi).1
          rw [hpa.dst i s y hi, hat.dst i s y hi]
          simp [hil, hdone i hil]
      refine tail_run (P := P) hp h0 hQ (fuel + 1) m listed U (puts σ vs) G a w hl hU (Nat.le_refl m) (fun i hi => ⟨fun hb => ?_, fun hlt => hdone i hlt⟩) hp.le hc hK heq
      apply Classical.byContradiction
      intro hge
      rw [hm i (by omega)] at hb; cases hb
    · refine ⟨fun hr => absurd hr (some_ready hl hp.lt hUn), fun i hi => ?_⟩
      obtain ⟨o, ho, h1, h2⟩ := (ready_iff hl.size).1 hi
      have hlt := (Array.getElem?_eq_some_iff.1 ho).1
      have him : i < m := by
        apply Classical.byContradiction
        intro hge
        exact hdone fun j hj => reach_listed hc ops.size i j o ho h2 (hp.tail i o ho (by omega) j (by omega))
      obtain ⟨d, y, hv, hd, hdn, hstep⟩ := hst i o him ho
      obtain ⟨d', hd', hself, hpair⟩ := hp.head i o ho him
      rw [hd] at hd'; cases hd'
      have hmem : i ∈ U := (hl.mem i).2 ⟨hlt, h1⟩
      obtain ⟨l1, l2⟩ := hl.step hmem
      have hsz : i < listed.size := by rw [hl.size]; exact hlt
      have hsame : ∀ s ∈ slotsG ops o, (puts σ (vs.take i)).get s = τ.get s := by
        intro s hsm
        have hpa := puts_at i vs σ hap
        by_cases hs : ∀ (i d : Nat) (y : AV), vs[i]? = some (d, y) → d ≠ s
        · rw [hpa.rest s hs, hat.rest s hs]
        · have : ∃ (j : Nat) (y : AV), vs[j]? = some (s, y) := by
            apply Classical.byContradiction
            intro hcon
            exact hs fun i d y hi hds => hcon ⟨i, y, by rw [← hds]; exact hi⟩
          obtain ⟨j, y', hj⟩ := this
          have hjl : j < m := by rw [← hvl]; exact (List.getElem?_eq_some_iff.1 hj).1
          obtain ⟨p, hpj⟩ : ∃ p, ops[j]? = some p := ⟨ops[j]'(by have := hp.le; omega), by have := hp.le; simp [show j < ops.size by omega]⟩
          obtain ⟨d'', y'', hv'', hds'', _⟩ := hst j p hjl hpj
          rw [hj] at hv''; cases hv''
          have hji : j ≠ i := fun hji => by subst hji; rw [hv] at hj; cases hj; exact hself hsm
          have hre := (hpair j p s hjl hji hpj hds'').2 hsm
          rw [hpa.dst j s y' hj, hat.dst j s y' hj]
          by_cases hjlt : j < i
          · rw [if_pos hjlt] at hre
            have := reach_listed hc ops.size i j o ho h2 hre
            simp [hjlt, this]
          · rw [if_neg hjlt] at hre
            have hjf : listed.getD j false = false := by
              cases hb : listed.getD j false
              · rfl
              · have := reach_listed hc ops.size j i p hpj (fun k hk => hc j p hpj hb k hk) hre
                rw [h1] at this; cases this
            simp [hjlt, hjf]
      have hops : ∀ x ∈ o.op.operands, VRel G w ((puts σ (vs.take i)).ev x) (a.eval x) := by
        intro x hx
        have hrel := h.ev x
        suffices (puts σ (vs.take i)).ev x = τ.ev x by rw [this]; exact hrel
        cases x with
        | tmp s =>
          simp only [St.ev]
          refine hsame s (List.mem_append.2 (.inr ?_))
          unfold slotsOf
          exact List.mem_filterMap.2 ⟨.tmp s, by simpa using hx, rfl⟩
        | const v => rfl
        | func f => rfl
        | global g => rfl
      have hgo : ∀ {G' a' w'} (hs' : SRel G0 w0 (τ.put (some d) y) G' a' w') (g4 : NewTags d G G'), wpAny P .any ops Q fuel (listed.setIfInBounds i true) a' w' := by
        intro G' a' w' hs' g4
        refine ih _ _ _ G' _ _ l1 (by omega) (fun j hj => ?_) (hc.step hsz ho h2) (hat.step hap hv (fun j hj => ?_) ?_) hs' (fun j oj dj hoj hjm hdj hcr hjf => ?_)
        · rw [set_getD hsz, if_neg (by omega)]; exact hm j hj
        · simp only [set_getD hsz]; rw [if_neg (Ne.symm hj)]
        · simp only [set_getD hsz]; simp
        · rw [set_getD hsz] at hjf
          by_cases hij : i = j
          · rw [if_pos hij] at hjf; cases hjf
          · rw [if_neg hij] at hjf
            have hne := (hpair j oj dj hjm (Ne.symm hij) hoj hdj).1
            exact g4.fresh (Ne.symm hne) (hfr j oj dj hoj hjm hdj hcr hjf)
      have hrun : StepOk P o d (puts σ (vs.take i)).ev σ.boxes y → o.wp P a w (wpAny P .any ops Q fuel (listed.setIfInBounds i true)) Q := fun hstep =>
        hstep _ G a w h.good (by rw [← hat.boxes]; exact h.boxes) (fun hcr => hfr i o d ho him hd hcr h1) hops _ _ fun v w' G' g1 g2 g3 g4 =>
          hgo (by rw [hd]; exact h.add g2 g3 g4.boxes (by simp [dstOk, hat.n, hdn]) g1) g4
      simp only [Go.wpOp, ho]
      rcases hstep with ⟨hg, hstep⟩ | ⟨j, want, g, c, hg, hgs, hgv, hc2⟩ | ⟨j, want, g, vs', hg, hgs, hgv, rfl⟩
      · rw [if_pos (by simp [Region.wanted, hg])]
        exact .inl (hrun hstep)
      · have hgm : g ∈ slotsG ops o := by simp [slotsG, guardS, hg, hgs]
        have hv2 := h.slots g
        rw [← hsame g hgm, hgv] at hv2
        have hy := yielded_bool hgs hv2.sc_inv
        rcases hc2 with ⟨rfl, hstep⟩ | ⟨hne, rfl⟩
        · rw [if_pos (by simp [Region.wanted, hg, hy])]
          exact .inl (hrun hstep)
        · rw [if_neg (by simp [Region.wanted, hg, hy, hne])]
          have hs' := h.add (.refl G w) h.good (fun _ _ h => h) (d := o.dst) (x := .sc undef) (v := undef) (by rw [hd]; simp [dstOk, hat.n, hdn]) (.froz (.sc _))
          refine hgo (G' := G) (by rw [hd] at hs' ⊢; exact hs') ⟨fun b t hb => .inl hb, fun b i hb => hb⟩
      · have hgm : g ∈ slotsG ops o := by simp [slotsG, guardS, hg, hgs]
        have hv2 := h.slots g
        rw [← hsame g hgm, hgv] at hv2
        have hy := yielded_none hgs hv2.sc_inv
        rw [if_neg (by simp [Region.wanted, hg, hy])]
        have hs' := h.add (.refl G w) h.good (fun _ _ h => h) (d := o.dst) (x := .sc undef) (v := undef) (by rw [hd]; simp [dstOk, hat.n, hdn]) (.froz (.sc _))
        exact hgo (G' := G) (by rw [hd] at hs' ⊢; exact hs') ⟨fun b t hb => .inl hb, fun b i hb => hb⟩

/-- A DRAWN REGION, walked in the text's order: the first m operations only add, and yield the same in each order; the others come one after the other, behind all that stand before them. -/
theorem DrawK.intro (m : Nat) (hm : P.follows .mixedOrders = true) (hok : drawOk ops m = true) (hfree : freeAll σ (creators ops m) = true) (h : headA P ops (ops.toList.take m) σ fun σ' => opsA P ops (ops.toList.drop m) σ' K) : DrawK P ops σ K := by
  intro G0 w0 G a w id Q h0 hs hQ
  have hp := drawOk_plan hok
  obtain ⟨vs, hvl, hK, hst⟩ := headA_vals _ _ _ h
  have hlen : (ops.toList.take m).length = m := by have := hp.le; simp; omega
  have hst' : ∀ i o, i < m → ops[i]? = some o → ∃ d y, vs[i]? = some (d, y) ∧ o.dst = some d ∧ d < σ.n ∧ StepG P ops o d (puts σ (vs.take i)) σ.boxes y := fun i o hi ho => by
    refine hst i o ?_
    rw [List.getElem?_take, if_pos hi]
    simpa using ho
  have hap : Apart vs := by
    intro i j d y d' y' h1 h2 hij
    have hil : i < m := by have := (List.getElem?_eq_some_iff.1 h1).1; omega
    have hjl : j < m := by have := (List.getElem?_eq_some_iff.1 h2).1; omega
    have hle := hp.le
    obtain ⟨oi, hoi⟩ : ∃ p, ops[i]? = some p := ⟨ops[i]'(by omega), by simp [show i < ops.size by omega]⟩
    obtain ⟨oj, hoj⟩ : ∃ p, ops[j]? = some p := ⟨ops[j]'(by omega), by simp [show j < ops.size by omega]⟩
    obtain ⟨_, _, k1, k2, _⟩ := hst' i oi hil hoi
    obtain ⟨_, _, k3, k4, _⟩ := hst' j oj hjl hoj
    rw [h1] at k1; cases k1
    rw [h2] at k3; cases k3
    obtain ⟨d1, e1, _, e2⟩ := hp.head j oj hoj hjl
    rw [k4] at e1; cases e1
    exact (e2 i oi d hil hij hoi k2).1
  refine wp_region_any hm ?_
  obtain ⟨G', g1, g2, _⟩ := (hs.drawn (w.drawn + 1)).freshAll h0 (creators ops m) G hfree
  have hgd : ∀ i, (Array.replicate ops.size false).getD i false = false := fun i => by
    by_cases hi : i < ops.size <;> simp [hi]
  refine head_run (P := P) hp h0 hQ (by omega) hap hK hst' ops.size (Array.replicate ops.size false) (List.range ops.size) σ G' a _ ⟨by simp, List.nodup_range, fun i => ?_⟩ (by simp) (fun i _ => hgd i) (fun i o _ hi => absurd (show (Array.replicate ops.size false).getD i false = true from hi) (by rw [hgd]; simp)) ⟨rfl, rfl, fun i d y _ => by simp only [hgd]; simp, fun _ _ => rfl⟩ g1 (fun i o d ho hi hd hcr _ => ?_)
  · rw [List.mem_range, hgd]; simp
  · refine g2 d ?_
    unfold creators
    refine List.mem_filterMap.2 ⟨o, ?_, by rw [if_pos hcr]; exact hd⟩
    refine List.mem_of_getElem? (i := i) ?_
    rw [List.getElem?_take, if_pos hi]; simpa using ho

end
end
end Go.AM

/-! ## AmS -/
namespace Go.AM
open Go.RowKit

section
variable {P : Program} {n : Nat} {t : List (Nat × AV)} {b : List (List AV)}
variable {d : Nat} {T : TypeId} {pos : String} {af : Array Edge} {g : Option (Nat × Bool)} {K : St → Prop}
@[congr] theorem headOp_congr {o : Oper} {K : St → Prop} {σ σ' : St} (h : mkd σ = σ') : headOp P o σ K = headOp P o σ' K := by subst_vars; rfl
@[congr] theorem CallY_congr {f : FuncId} {args args' : List AV} {d : Nat} {K : St → Prop} {σ σ' : St} (h1 : mkd args = args') (h : σ = σ') : CallY P f args d σ K = CallY P f args' d σ' K := by subst_vars; rfl
@[go_sem] theorem knownB_bool {c want : Bool} : knownB want (.sc (.bool c)) = some c := rfl
@[go_sem] theorem knownB_undef {want : Bool} : knownB want (.sc undef) = some (!want) := rfl
@[go_sem] theorem headOp_move {x : Operand} : headOp P ⟨some d, .move x, T, pos, af, g⟩ ⟨n, t, b⟩ K = andK (d < n) (K (St.put ⟨n, t, b⟩ (some d) (typed P d T (St.ev ⟨n, t, b⟩ x)))) := rfl
@[go_sem] theorem headOp_assign {x : Operand} : headOp P ⟨some d, .assign x, T, pos, af, g⟩ ⟨n, t, b⟩ K = andK (d < n) (K (St.put ⟨n, t, b⟩ (some d) (typed P d T (St.ev ⟨n, t, b⟩ x)))) := rfl
@[go_sem] theorem headOp_pick {c x y : Operand} : headOp P ⟨some d, .pick c x y, T, pos, af, g⟩ ⟨n, t, b⟩ K = andK (d < n) (onBool (St.ev ⟨n, t, b⟩ c) fun v => both v (K (St.put ⟨n, t, b⟩ (some d) (St.ev ⟨n, t, b⟩ x))) (K (St.put ⟨n, t, b⟩ (some d) (St.ev ⟨n, t, b⟩ y)))) := by
  simp only [headOp, evOp, andK, onBool, both]
  cases St.ev ⟨n, t, b⟩ c <;> simp
  rename_i v; cases v <;> simp
  rename_i v; intro _; cases v <;> simp
@[go_sem] theorem headOp_load {T' : TypeId} {x : Operand} : headOp P ⟨some d, .load T' x, T, pos, af, g⟩ ⟨n, t, b⟩ K = andK (d < n) (evLoad P b T' (St.ev ⟨n, t, b⟩ x) fun r => K (St.put ⟨n, t, b⟩ (some d) r)) := by simp [headOp, evOp, andK]
@[go_sem] theorem headOp_nilCheck {x : Operand} : headOp P ⟨some d, .nilCheck x, T, pos, af, g⟩ ⟨n, t, b⟩ K = andK (d < n) (andK ((isPtr (St.ev ⟨n, t, b⟩ x) || isFn (St.ev ⟨n, t, b⟩ x)) = true) (K (St.put ⟨n, t, b⟩ (some d) (St.ev ⟨n, t, b⟩ x)))) := by simp [headOp, evOp, andK]
@[go_sem] theorem headOp_binOp {op : BinOp} {T' T'' : TypeId} {x y : Operand} : headOp P ⟨some d, .binOp op T' x y T'', T, pos, af, g⟩ ⟨n, t, b⟩ K = andK (d < n) (evBinOp P op T' (St.ev ⟨n, t, b⟩ x) (St.ev ⟨n, t, b⟩ y) fun r => K (St.put ⟨n, t, b⟩ (some d) r)) := by simp [headOp, evOp, andK]
@[go_sem] theorem headOp_unOp {op : UnOp} {T' : TypeId} {x : Operand} : headOp P ⟨some d, .unOp op T' x, T, pos, af, g⟩ ⟨n, t, b⟩ K = andK (d < n) (evUn op (St.ev ⟨n, t, b⟩ x) fun r => K (St.put ⟨n, t, b⟩ (some d) r)) := by simp [headOp, evOp, andK]
@[go_sem] theorem headOp_convert {T' T'' : TypeId} {x : Operand} : headOp P ⟨some d, .convert T' T'' x, T, pos, af, g⟩ ⟨n, t, b⟩ K = andK (d < n) (evConv P T' T'' (St.ev ⟨n, t, b⟩ x) fun r => K (St.put ⟨n, t, b⟩ (some d) r)) := by simp [headOp, evOp, andK]
@[go_sem] theorem headOp_slice {T' : TypeId} {x : Operand} {lo hi mx : Option Operand} : headOp P ⟨some d, .slice T' x lo hi mx, T, pos, af, g⟩ ⟨n, t, b⟩ K = andK (d < n) (evSlice P T' (St.ev ⟨n, t, b⟩ x) (lo.map (St.ev ⟨n, t, b⟩)) (hi.map (St.ev ⟨n, t, b⟩)) (mx.map (St.ev ⟨n, t, b⟩)) fun r => K (St.put ⟨n, t, b⟩ (some d) r)) := by simp [headOp, evOp, andK]
@[go_sem] theorem headOp_fieldAddr {T' : TypeId} {x : Operand} {f : Nat} : headOp P ⟨some d, .fieldAddr T' x f, T, pos, af, g⟩ ⟨n, t, b⟩ K = andK (d < n) (evFieldAddr P T' (St.ev ⟨n, t, b⟩ x) f fun r => K (St.put ⟨n, t, b⟩ (some d) r)) := by simp [headOp, evOp, andK]
@[go_sem] theorem headOp_field {T' : TypeId} {x : Operand} {f : Nat} : headOp P ⟨some d, .field T' x f, T, pos, af, g⟩ ⟨n, t, b⟩ K = andK (d < n) (evField P T' (St.ev ⟨n, t, b⟩ x) f fun r => K (St.put ⟨n, t, b⟩ (some d) r)) := by simp [headOp, evOp, andK]
@[go_sem] theorem headOp_indexAddr {T' : TypeId} {x i : Operand} : headOp P ⟨some d, .indexAddr T' x i, T, pos, af, g⟩ ⟨n, t, b⟩ K = andK (d < n) (evIndexAddr P T' (St.ev ⟨n, t, b⟩ x) (St.ev ⟨n, t, b⟩ i) fun r => K (St.put ⟨n, t, b⟩ (some d) r)) := by simp [headOp, evOp, andK]
@[go_sem] theorem headOp_index {T' : TypeId} {x i : Operand} : headOp P ⟨some d, .index T' x i, T, pos, af, g⟩ ⟨n, t, b⟩ K = andK (d < n) (evIndex P T' (St.ev ⟨n, t, b⟩ x) (St.ev ⟨n, t, b⟩ i) fun r => K (St.put ⟨n, t, b⟩ (some d) r)) := by simp [headOp, evOp, andK]
@[go_sem] theorem headOp_extract {x : Operand} {i : Nat} : headOp P ⟨some d, .extract x i, T, pos, af, g⟩ ⟨n, t, b⟩ K = andK (d < n) (evExtract (St.ev ⟨n, t, b⟩ x) i fun r => K (St.put ⟨n, t, b⟩ (some d) r)) := by simp [headOp, evOp, andK]
@[go_sem] theorem headOp_build {T' : TypeId} {ps : List (Nat × Operand)} : headOp P ⟨some d, .build T' ps.toArray, T, pos, af, g⟩ ⟨n, t, b⟩ K = andK (d < n) (evBuild P T' (evParts ⟨n, t, b⟩ ps) fun r => K (St.put ⟨n, t, b⟩ (some d) r)) := by simp [headOp, evOp, andK, evParts_eq]
@[go_sem] theorem headOp_buildSlice {T' : TypeId} {len : Nat} {ps : List (Nat × Operand)} : headOp P ⟨some d, .buildSlice T' len ps.toArray, T, pos, af, g⟩ ⟨n, t, b⟩ K = andK (d < n) (evBuildSlice P d T' len (evParts ⟨n, t, b⟩ ps) fun r => K (St.put ⟨n, t, b⟩ (some d) r)) := by simp [headOp, evOp, andK, evParts_eq]
@[go_sem] theorem headOp_makeSlice {T' : TypeId} {l c : Operand} : headOp P ⟨some d, .makeSlice T' l c, T, pos, af, g⟩ ⟨n, t, b⟩ K = andK (d < n) ((evMake P d T' (St.ev ⟨n, t, b⟩ l) (St.ev ⟨n, t, b⟩ c) fun r => K (St.put ⟨n, t, b⟩ (some d) r))) := by simp [headOp, evOp, andK]
@[go_sem] theorem headOp_makeFunc {f : FuncId} {caps : List Operand} : headOp P ⟨some d, .makeFunc (.func f) (List.toArray []) caps.toArray, T, pos, af, g⟩ ⟨n, t, b⟩ K = andK (d < n) (onB (allFz (evAll ⟨n, t, b⟩ caps)) (K (St.put ⟨n, t, b⟩ (some d) (.fn f (evAll ⟨n, t, b⟩ caps)))) (andK (allCap (evAll ⟨n, t, b⟩ caps) = true) (K (St.put ⟨n, t, b⟩ (some d) (.cl f (evAll ⟨n, t, b⟩ caps)))))) := by simp [headOp, evOp, andK, onB, allCap_eq, evAll_eq, allFz_eq, List.all_map, Function.comp_def]
@[go_sem] theorem headOp_alloc {T' : TypeId} : headOp P ⟨some d, .alloc T', T, pos, af, g⟩ ⟨n, t, b⟩ K = andK (d < n) (caseO (tinfo P T') fun q => caseO q.2.2 fun z => andK (zeroOk q.1 z = true) (K (St.put ⟨n, t, b⟩ (some d) (.pe (64 * (d + 1)) q.1 [ofConst z] 0 0)))) := by
  simp [headOp, evOp, evAllocE, andK, caseO]
@[go_sem] theorem headOp_makeMap {T' : TypeId} : headOp P ⟨some d, .makeMap T' none, T, pos, af, g⟩ ⟨n, t, b⟩ K = andK (d < n) (evMakeMap P d T' fun r => K (St.put ⟨n, t, b⟩ (some d) r)) := by simp [headOp, evOp, andK]
@[go_sem] theorem headOp_lookup {T' : TypeId} {x y : Operand} : headOp P ⟨some d, .lookup T' x y false, T, pos, af, g⟩ ⟨n, t, b⟩ K = andK (d < n) (evLookup P T' (St.ev ⟨n, t, b⟩ x) (St.ev ⟨n, t, b⟩ y) fun r => K (St.put ⟨n, t, b⟩ (some d) r)) := by simp [headOp, evOp, andK]
@[go_sem] theorem headOp_len {x : Operand} {T' : TypeId} : headOp P ⟨some d, .call ⟨.builtin .len, [x].toArray, [T'].toArray⟩, T, pos, af, g⟩ ⟨n, t, b⟩ K = andK (d < n) (evLenM P T' (St.ev ⟨n, t, b⟩ x) fun r => K (St.put ⟨n, t, b⟩ (some d) r)) := by simp [headOp, evOp, andK]
@[go_sem] theorem headOp_cap {x : Operand} {T' : TypeId} : headOp P ⟨some d, .call ⟨.builtin .cap, [x].toArray, [T'].toArray⟩, T, pos, af, g⟩ ⟨n, t, b⟩ K = andK (d < n) (evCap P T' (St.ev ⟨n, t, b⟩ x) fun r => K (St.put ⟨n, t, b⟩ (some d) r)) := by simp [headOp, evOp, andK]
@[go_sem] theorem headOp_max {x y : Operand} {As : Array TypeId} : headOp P ⟨some d, .call ⟨.builtin .max, [x, y].toArray, As⟩, T, pos, af, g⟩ ⟨n, t, b⟩ K = andK (d < n) (evMax (St.ev ⟨n, t, b⟩ x) (St.ev ⟨n, t, b⟩ y) fun r => K (St.put ⟨n, t, b⟩ (some d) r)) := by simp [headOp, evOp, andK]
@[go_sem] theorem headOp_min {x y : Operand} {As : Array TypeId} : headOp P ⟨some d, .call ⟨.builtin .min, [x, y].toArray, As⟩, T, pos, af, g⟩ ⟨n, t, b⟩ K = andK (d < n) (evMin (St.ev ⟨n, t, b⟩ x) (St.ev ⟨n, t, b⟩ y) fun r => K (St.put ⟨n, t, b⟩ (some d) r)) := by simp [headOp, evOp, andK]
@[go_sem] theorem headOp_append {x y : Operand} {T' T'' : TypeId} : headOp P ⟨some d, .call ⟨.builtin .append, [x, y].toArray, [T', T''].toArray⟩, T, pos, af, g⟩ ⟨n, t, b⟩ K = andK (d < n) (evAppendX P d T' T'' (St.ev ⟨n, t, b⟩ x) (St.ev ⟨n, t, b⟩ y) fun r => K (St.put ⟨n, t, b⟩ (some d) r)) := by simp [headOp, evOp, andK]
@[go_sem] theorem headOp_call {f : FuncId} {args : List Operand} {As : Array TypeId} : headOp P ⟨some d, .call ⟨.value (.func f), args.toArray, As⟩, T, pos, af, g⟩ ⟨n, t, b⟩ K = andK (d < n) (CallY P f (evAll ⟨n, t, b⟩ args) d ⟨n, t, b⟩ K) := by simp [headOp, andK, St.ev, evAll_eq]

/-- a drawn region, as a frame for the rules -/
def crs : List Oper → List Nat
  | [] => []
  | o :: r => if creates o.op = true then (match o.dst with | some d => d :: crs r | none => crs r) else crs r
theorem crs_eq : ∀ l : List Oper, crs l = l.filterMap fun o => if creates o.op = true then o.dst else none
  | [] => rfl
  | o :: r => by
    rw [crs, crs_eq r, List.filterMap_cons]
    split
    · cases o.dst <;> rfl
    · rfl
attribute [go_sem] crs creates needsFresh
def headT (P : Program) (ops : Array Oper) : Nat → List Oper → St → (St → Prop) → Prop
  | 0, l, σ, K => opsA P ops l σ K
  | _ + 1, [], σ, K => K σ
  | m + 1, o :: l, σ, K => headG P ops o σ fun σ' => headT P ops m l σ' K
theorem headT_eq {ops : Array Oper} {K : St → Prop} : ∀ (m : Nat) (l : List Oper) (σ : St), headT P ops m l σ K = headA P ops (l.take m) σ fun σ' => opsA P ops (l.drop m) σ' K
  | 0, l, σ => by cases l <;> rfl
  | _ + 1, [], σ => rfl
  | m + 1, o :: l, σ => by
    show (headG P ops o σ fun σ' => headT P ops m l σ' K) = headG P ops o σ fun σ' => headA P ops (l.take m) σ' fun σ' => opsA P ops (l.drop m) σ' K
    have : (fun σ' => headT P ops m l σ' K) = fun σ' => headA P ops (l.take m) σ' fun σ' => opsA P ops (l.drop m) σ' K := funext fun σ' => headT_eq m l σ'
    rw [this]
@[congr] theorem headT_congr {ops : Array Oper} {m : Nat} {l : List Oper} {K : St → Prop} {σ σ' : St} (h : mkd σ = σ') : headT P ops m l σ K = headT P ops m l σ' K := by subst_vars; rfl
@[go_sem] theorem headT_zero {ops : Array Oper} {l : List Oper} {K : St → Prop} : headT P ops 0 l ⟨n, t, b⟩ K = opsA P ops l ⟨n, t, b⟩ K := rfl
@[go_sem] theorem headT_succ {ops : Array Oper} {m : Nat} {dst : Option Tmp} {op : Op} {l : List Oper} {K : St → Prop} : headT P ops (m + 1) (⟨dst, op, T, pos, af, none⟩ :: l) ⟨n, t, b⟩ K = headOp P ⟨dst, op, T, pos, af, none⟩ ⟨n, t, b⟩ fun σ' => headT P ops m l σ' K := rfl
@[go_sem] theorem headT_guard {ops : Array Oper} {m : Nat} {op : Op} {l : List Oper} {K : St → Prop} {j : Nat} {want : Bool} : headT P ops (m + 1) (⟨some d, op, T, pos, af, some (j, want)⟩ :: l) ⟨n, t, b⟩ K = caseO (guardSlot ops j) fun g => caseO (knownB want (lookT t g)) fun c =>
    both (c == want) (headOp P ⟨some d, op, T, pos, af, some (j, want)⟩ ⟨n, t, b⟩ fun σ' => headT P ops m l σ' K) (andK (d < n) (headT P ops m l (St.put ⟨n, t, b⟩ (some d) (.sc undef)) K)) := by
  simp only [headT, headG, caseO, both, andK, St.get]
  apply propext
  constructor
  · rintro ⟨g, c, h1, h2, h3, h4⟩
    refine ⟨g, h1, c, h2, h3, fun hc => ?_⟩
    obtain ⟨d', hd, h5, h6⟩ := h4 hc
    cases hd
    exact ⟨h5, h6⟩
  · rintro ⟨g, h1, c, h2, h3, h4⟩
    exact ⟨g, c, h1, h2, h3, fun hc => ⟨d, rfl, (h4 hc).1, (h4 hc).2⟩⟩
theorem DrawK.walk {l : List Oper} {σ : St} (m : Nat) (hm : P.follows .mixedOrders = true) (hok : drawOk l.toArray m = true)
    (h : andK (freeAll σ (crs (l.take m)) = true) (headT P l.toArray m l σ K)) : DrawK P l.toArray σ K :=
  DrawK.intro m hm hok (by rw [crs_eq] at h; exact h.1) (by rw [headT_eq] at h; exact h.2)

/-! ### calls -/
theorem CallU.free {f : FuncId} {args args' : List AV} {post : AV → List (List AV) → Prop} {σ : St} (hcon : Con P f args' [] post) (hc : σ.free d = true ∧ d < σ.n ∧ dedup (pbss args) = [] ∧ tagss args = []) (ha : mapTops viewLeaf args = args')
    (hk : ∀ r bx, post r bx → r.allLeaf lt64 = true ∧ K (σ.put (some d) (r.shift (64 * (d + 1))))) : CallU P f args d σ K := by
  unfold CallU
  rw [hc.2.2.1]
  refine .inl ⟨hc.1, hc.2.1, ?_⟩
  have : args.map AV.view = args' := by rw [← ha, mapTops_eq]; rfl
  rw [this]
  exact hcon.mono fun r bx h => ⟨(hk r bx h).1, .free hc.2.2.2 (hk r bx h).2⟩
theorem CallU.flat {f : FuncId} {args args' : List AV} {post : AV → List (List AV) → Prop} {σ : St} (hcon : Con P f args' [] post) (hc : σ.free d = true ∧ d < σ.n ∧ dedup (pbss args) = []) (ha : mapTops viewLeaf args = args')
    (hk : ∀ r bx, post r bx → r.allLeaf lt64 = true ∧ r.allLeaf flatLeaf = true ∧ K (σ.put (some d) (r.shift (64 * (d + 1))))) : CallU P f args d σ K := by
  unfold CallU
  rw [hc.2.2]
  refine .inl ⟨hc.1, hc.2.1, ?_⟩
  have : args.map AV.view = args' := by rw [← ha, mapTops_eq]; rfl
  rw [this]
  exact hcon.mono fun r bx h => ⟨(hk r bx h).1, .flat (hk r bx h).2.1 (hk r bx h).2.2⟩
theorem CallU.freeze {f : FuncId} {args args' : List AV} {post : AV → List (List AV) → Prop} {σ : St} (hcon : Con P f args' [] post) (hc : σ.free d = true ∧ d < σ.n ∧ dedup (pbss args) = []) (ha : mapTops viewLeaf args = args')
    (hk : ∀ r bx, post r bx → r.allLeaf lt64 = true ∧ K ((σ.map (freezeLeaf fun t => (tagss args).contains t)).put (some d) (r.shift (64 * (d + 1))))) : CallU P f args d σ K := by
  unfold CallU
  rw [hc.2.2]
  refine .inl ⟨hc.1, hc.2.1, ?_⟩
  have : args.map AV.view = args' := by rw [← ha, mapTops_eq]; rfl
  rw [this]
  exact hcon.mono fun r bx h => ⟨(hk r bx h).1, .freeze (hk r bx h).2⟩
theorem CallU.boxes {f : FuncId} {args args' : List AV} {i : Nat} {is : List Nat} {bx0 bx : List (List AV)} {post : AV → List (List AV) → Prop} {σ : St} (hcon : Con P f args' bx post) (hi : dedup (pbss args) = i :: is) (hb : getAll σ.boxes (i :: is) = some bx0)
    (hc : σ.free d = true ∧ d < σ.n ∧ allLeafs noTag args = true ∧ nodupB (i :: is) = true ∧ allNoTags bx0 = true) (ha : mapTops (pbIn (i :: is)) args = args') (hbx : mapB (pbIn (i :: is)) bx0 = bx)
    (hk : ∀ r bx', post r bx' → r.allLeaf lt64b = true ∧ allNoTags bx' = true ∧ K (St.put ⟨σ.n, σ.tmps, setAll (i :: is) (mapB (outLeaf (64 * (d + 1)) (i :: is) σ.boxes.length) (bx'.take (i :: is).length)) σ.boxes ++ mapB (outLeaf (64 * (d + 1)) (i :: is) σ.boxes.length) (bx'.drop (i :: is).length)⟩ (some d) (r.mapTop (outLeaf (64 * (d + 1)) (i :: is) σ.boxes.length)))) : CallU P f args d σ K := by
  unfold CallU
  rw [hi]
  exact .inl ⟨hc.1, hc.2.1, hc.2.2.1, hc.2.2.2.1, bx0, hb, hc.2.2.2.2, by rw [ha, hbx]; exact hcon.mono hk⟩
theorem CallU.news {f : FuncId} {args args' : List AV} {bx0 bx : List (List AV)} {post : AV → List (List AV) → Prop} {σ : St} (hcon : Con P f args' bx post) (hi : dedup (pbss args) = []) (hb : getAll σ.boxes [] = some bx0)
    (hc : σ.free d = true ∧ d < σ.n ∧ allLeafs noTag args = true ∧ nodupB [] = true ∧ allNoTags bx0 = true) (ha : mapTops (pbIn []) args = args') (hbx : mapB (pbIn []) bx0 = bx)
    (hk : ∀ r bx', post r bx' → r.allLeaf lt64b = true ∧ allNoTags bx' = true ∧ K (St.put ⟨σ.n, σ.tmps, setAll [] (mapB (outLeaf (64 * (d + 1)) [] σ.boxes.length) (bx'.take ([] : List Nat).length)) σ.boxes ++ mapB (outLeaf (64 * (d + 1)) [] σ.boxes.length) (bx'.drop ([] : List Nat).length)⟩ (some d) (r.mapTop (outLeaf (64 * (d + 1)) [] σ.boxes.length)))) : CallU P f args d σ K := by
  unfold CallU
  rw [hi]
  exact .inr (.inl ⟨hc.1, hc.2.1, hc.2.2.1, hc.2.2.2.1, bx0, hb, hc.2.2.2.2, by rw [ha, hbx]; exact hcon.mono hk⟩)
theorem CallU.lend {f : FuncId} {args args' : List AV} {post : AV → Prop} {σ : St} (hcon : ConC P f args' post) (hc : σ.free d = true ∧ d < σ.n ∧ dedup (pbss args) = [] ∧ allLeafs (pbLt 0) args = true ∧ (tagss args).length < 60) (ha : mapTops (renLeaf (tagss args)) args = args')
    (hk : ∀ r, post r → r.allLeaf lt64c = true ∧ K ((σ.map (killS (tagss args))).put (some d) (r.shift (64 * (d + 1))))) : CallU P f args d σ K := by
  unfold CallU
  rw [hc.2.2.1]
  exact .inr (.inr (.inl ⟨hc.1, hc.2.1, hc.2.2.2.1, hc.2.2.2.2, by rw [ha]; exact ⟨hcon.1, fun G w vs h1 h2 h3 => (hcon.2 G w vs h1 h2 h3).mono fun e w' ⟨v, r, G', he, hq, rest⟩ => ⟨v, r, G', he, hk r hq, rest⟩⟩⟩))
/-- a call that hands back what it was given -/
theorem CallU.back {f : FuncId} {args args' : List AV} {post : AV → List AV → Prop} {σ : St} (hcon : ConW P f args' post) (hc : σ.free d = true ∧ d < σ.n ∧ dedup (pbss args) = [] ∧ allLeafs (pbLt 0) args = true ∧ (tagss args).length < 60) (ha : mapTops (renLeaf (tagss args)) args = args')
    (hk : ∀ r ys, post r ys → r.allLeaf lt64c = true ∧ allLeafs lt64c ys = true ∧ posG (giveOf args (mapTops (shiftLeaf (64 * (d + 1))) ys)) = true ∧
      K ((σ.map (giveLeaf (tagss args) (giveOf args (mapTops (shiftLeaf (64 * (d + 1))) ys)))).put (some d) (r.shift (64 * (d + 1))))) : CallU P f args d σ K := by
  unfold CallU
  rw [hc.2.2.1]
  exact .inr (.inr (.inr (.inl ⟨hc.1, hc.2.1, hc.2.2.2.1, hc.2.2.2.2, by rw [ha]; exact ⟨hcon.1, fun G w vs h1 h2 h3 => (hcon.2 G w vs h1 h2 h3).mono fun e w' ⟨v, r, ys, G', he, hq, rest⟩ => ⟨v, r, ys, G', he, hk r ys hq, rest⟩⟩⟩)))
/-- a call that looks at the caller's variables (closures and their pointers among the arguments), writes to nothing, and hands back plain data -/
theorem CallU.look {f : FuncId} {args args' : List AV} {post : AV → List (List AV) → Prop} {σ : St} (hcon : Con P f args' [] post) (hc : σ.free d = true ∧ d < σ.n) (ha : mapTops (viewV σ.boxes) args = args')
    (hk : ∀ r bx, post r bx → r.allLeaf lt64 = true ∧ r.allLeaf flatLeaf = true ∧ K (σ.put (some d) (r.shift (64 * (d + 1))))) : CallU P f args d σ K := by
  have h : CallV P f args d σ K := ⟨hc.1, hc.2, by rw [ha]; exact hcon.mono hk⟩
  unfold CallU
  split
  · exact .inr (.inr (.inr (.inr h)))
  · exact .inr (.inl h)
/-- a call that is given variables, and may write to what these and the arguments own -/
theorem CallU.own {f : FuncId} {args args' : List AV} {i : Nat} {is : List Nat} {bx0 bx : List (List AV)} {post : AV → List (List AV) → Prop} {σ : St} (hcon : ConX P f args' bx post) (hi : dedup (pbss args) = i :: is) (hb : getAll σ.boxes (i :: is) = some bx0) (ts : List Nat) (hts : tagss (args ++ catB bx0) = ts)
    (hc : σ.free d = true ∧ d < σ.n ∧ nodupB (i :: is) = true ∧ allLeafs okX (args ++ catB bx0) = true ∧ ts.length < 60) (ha : mapTops (inX ts (i :: is)) args = args') (hbx : mapB (inX ts (i :: is)) bx0 = bx)
    (hk : ∀ r bx', post r bx' → r.allLeaf lt64b = true ∧ allLeafs lt64b (catB bx') = true ∧
      K (St.put ⟨σ.n, mapT (killS ts) σ.tmps, setAll (i :: is) (mapB (outLeaf (64 * (d + 1)) (i :: is) σ.boxes.length) (bx'.take (i :: is).length)) (mapB (killS ts) σ.boxes) ++ mapB (outLeaf (64 * (d + 1)) (i :: is) σ.boxes.length) (bx'.drop (i :: is).length)⟩ (some d) (r.mapTop (outLeaf (64 * (d + 1)) (i :: is) σ.boxes.length)))) : CallU P f args d σ K := by
  subst hts
  unfold CallU
  rw [hi]
  exact .inr (.inr (.inl ⟨hc.1, hc.2.1, hc.2.2.1, bx0, hb, hc.2.2.2.1, hc.2.2.2.2, by rw [ha, hbx]; exact hcon.mono hk⟩))
/-- a call that is given variables; what bears a tag of L is frozen from here on, and the rest that the arguments own is hidden (args0 says less than the arguments) -/
theorem CallU.hide (L : List Nat) (args0 : List AV) {f : FuncId} {args args' : List AV} {i : Nat} {is : List Nat} {bx0 bx : List (List AV)} {post : AV → List (List AV) → Prop} {σ : St} (hcon : Con P f args' bx post) (hi : dedup (pbss args) = i :: is) (hle : leC (mapTops (freezeLeaf fun t => L.contains t) args) args0)
    (hf : σ.free d = true) (hb : getAll (σ.map (freezeLeaf fun t => L.contains t)).boxes (i :: is) = some bx0)
    (hc : (σ.map (freezeLeaf fun t => L.contains t)).free d = true ∧ d < σ.n ∧ allLeafs noTag args0 = true ∧ nodupB (i :: is) = true ∧ allNoTags bx0 = true) (ha : mapTops (pbIn (i :: is)) args0 = args') (hbx : mapB (pbIn (i :: is)) bx0 = bx)
    (hk : ∀ r bx', post r bx' → r.allLeaf lt64b = true ∧ allNoTags bx' = true ∧ K (St.put ⟨σ.n, (σ.map (freezeLeaf fun t => L.contains t)).tmps, setAll (i :: is) (mapB (outLeaf (64 * (d + 1)) (i :: is) (σ.map (freezeLeaf fun t => L.contains t)).boxes.length) (bx'.take (i :: is).length)) (σ.map (freezeLeaf fun t => L.contains t)).boxes ++ mapB (outLeaf (64 * (d + 1)) (i :: is) (σ.map (freezeLeaf fun t => L.contains t)).boxes.length) (bx'.drop (i :: is).length)⟩ (some d) (r.mapTop (outLeaf (64 * (d + 1)) (i :: is) (σ.map (freezeLeaf fun t => L.contains t)).boxes.length)))) : CallU P f args d σ K := by
  unfold CallU
  rw [hi]
  exact .inr (.inr (.inr ⟨hf, _, args0, fun _ _ _ => leC_pw hle, hc.1, hc.2.1, hc.2.2.1, hc.2.2.2.1, bx0, hb, hc.2.2.2.2, by rw [ha, hbx]; exact hcon.mono hk⟩))
attribute [go_sem] inX okX
attribute [go_sem] viewV viewCap allFzV
attribute [go_sem] giveLeaf giveOf lookG posG
theorem CallY.mk {f : FuncId} {args args' : List AV} {r : AV} {σ : St} (hcon : Con P f args' [] fun r' _ => r' = r) (ha : mapTops viewLeaf args = args') (hr : r.allLeaf lt64 = true) (ht : tagss args = [] ∨ r.allLeaf flatLeaf = true) (hk : K (σ.put (some d) (r.shift (64 * (d + 1))))) : CallY P f args d σ K := by
  have : args.map AV.view = args' := by rw [← ha, mapTops_eq]; rfl
  exact ⟨r, by rw [this]; exact hcon, hr, ht, hk⟩
attribute [go_sem] pbIn outLeaf lt64b getAll setAll nodupB allNoTags pbss AV.pbs dedup freeAll
attribute [go_sem] List.take_zero List.drop_zero List.drop_succ_cons List.drop_nil List.contains_cons List.contains_nil List.nil_append List.cons_append List.set_cons_zero List.set_cons_succ List.map_map
/-! ### copy -/
@[go_sem] theorem evCopy_sl {P : Program} {T : TypeId} {d t t' : Nat} {xs ys : List AV} {σ : St} {K : St → Prop} : evCopy P T d σ (.sl t 1 xs) (.sl t' 1 ys) K = onSlice (P.underlying T) fun E => caseO (tinfo P E) fun q => andK (q.1 = 1) (andK (2 ≤ t)
    (0 < xs.length ∧ 0 < ys.length ∧ leafAll ys = true ∧ K ((σ.map (copyLeaf t 0 (ys.take (xs.length - 0)))).put (some d) (.sc (.int .i64 (min ys.length (xs.length - 0) : Nat)))))) := by
  unfold evCopy onSlice caseO andK
  simp only [copyDst]
  apply propext
  constructor
  · rintro ⟨h1, ⟨E, q, h2, h3, h4⟩, h5, h6, h7, h8⟩
    exact ⟨E, h2, q, h3, h4, h1, h5, h6, h7, h8⟩
  · rintro ⟨E, h2, q, h3, h4, h1, h5, h6, h7, h8⟩
    exact ⟨h1, ⟨E, q, h2, h3, h4⟩, h5, h6, h7, h8⟩
@[go_sem] theorem evCopy_tl {P : Program} {T : TypeId} {d t t' i : Nat} {xs ys : List AV} {σ : St} {K : St → Prop} : evCopy P T d σ (.tl t 1 xs i) (.sl t' 1 ys) K = onSlice (P.underlying T) fun E => caseO (tinfo P E) fun q => andK (q.1 = 1) (andK (2 ≤ t)
    (i < xs.length ∧ 0 < ys.length ∧ leafAll ys = true ∧ K ((σ.map (copyLeaf t i (ys.take (xs.length - i)))).put (some d) (.sc (.int .i64 (min ys.length (xs.length - i) : Nat)))))) := by
  unfold evCopy onSlice caseO andK
  simp only [copyDst]
  apply propext
  constructor
  · rintro ⟨h1, ⟨E, q, h2, h3, h4⟩, h5, h6, h7, h8⟩
    exact ⟨E, h2, q, h3, h4, h1, h5, h6, h7, h8⟩
  · rintro ⟨E, h2, q, h3, h4, h1, h5, h6, h7, h8⟩
    exact ⟨h1, ⟨E, q, h2, h3, h4⟩, h5, h6, h7, h8⟩
@[go_sem] theorem evClear_tl {P : Program} {T : TypeId} {t i : Nat} {xs : List AV} {σ : St} {K : St → Prop} : evClear P T σ (.tl t 1 xs i) K = onSlice (P.underlying T) fun E => caseO (tinfo P E) fun q => caseO q.2.2 fun z => andK (q.1 = 1 ∧ 2 ≤ t ∧ z.cells = #[z] ∧ z.oneCell' = true ∧ leafAll [ofConst z] = true)
    (i < xs.length ∧ K (σ.map (copyLeaf t i (List.replicate (xs.length - i) (ofConst z))))) := by
  unfold evClear onSlice caseO andK
  simp only [copyDst]
  apply propext
  constructor
  · rintro ⟨h1, h2, E, q, z, h3, h4, h5, h6, h7, h8, h9, h10⟩
    exact ⟨E, h3, q, h4, z, h6, ⟨h5, h1, h7, h8, h9⟩, h2, h10⟩
  · rintro ⟨E, h3, q, h4, z, h6, ⟨h5, h1, h7, h8, h9⟩, h2, h10⟩
    exact ⟨h1, h2, E, q, z, h3, h4, h5, h6, h7, h8, h9, h10⟩
@[go_sem] theorem modify_one {α : Type} (x : α) (f : α → α) : [x].modify 0 f = [f x] := rfl
theorem setSeg_map {α β : Type} (f : α → β) : ∀ (m l : List α) (i : Nat), setSeg (l.map f) i (m.map f) = (setSeg l i m).map f
  | [], _, _ => rfl
  | x :: m, l, i => by simp only [List.map_cons, setSeg]; rw [← List.map_set, setSeg_map f m]
attribute [go_sem] copyLeaf mvLeaf
end
end Go.AM

/-! ## Ty -/
namespace Go.AM
open Go Go.Proofs

theorem tinfo_0 : tinfo Tryz.prog 0 = some (1, 0, some (Value.tuple (List.toArray []))) := by kernel_rfl
theorem agg_0 : aggT Tryz.prog 0 = some false := by kernel_rfl
theorem tinfo_1 : tinfo Tryz.prog 1 = some (1, 8, some Value.nilFunc) := by kernel_rfl
theorem agg_1 : aggT Tryz.prog 1 = some false := by kernel_rfl
theorem tinfo_2 : tinfo Tryz.prog 2 = some (1, 8, some (Value.int IntKind.i64 (0))) := by kernel_rfl
theorem agg_2 : aggT Tryz.prog 2 = some false := by kernel_rfl
theorem tinfo_3 : tinfo Tryz.prog 3 = some (1, 8, some (Value.int IntKind.i64 (0))) := by kernel_rfl
theorem agg_3 : aggT Tryz.prog 3 = some false := by kernel_rfl
theorem tinfo_4 : tinfo Tryz.prog 4 = some (1, 1, some (Value.bool false)) := by kernel_rfl
theorem agg_4 : aggT Tryz.prog 4 = some false := by kernel_rfl
theorem tinfo_5 : tinfo Tryz.prog 5 = some (1, 1, some (Value.int IntKind.u8 (0))) := by kernel_rfl
theorem agg_5 : aggT Tryz.prog 5 = some false := by kernel_rfl
theorem tinfo_6 : tinfo Tryz.prog 6 = some (1, 1, some (Value.int IntKind.u8 (0))) := by kernel_rfl
theorem agg_6 : aggT Tryz.prog 6 = some false := by kernel_rfl
theorem tinfo_7 : tinfo Tryz.prog 7 = some (4, 24, some (Value.agg (List.toArray [Value.int IntKind.i64 (0), Value.int IntKind.i64 (0), Value.bool false, Value.int IntKind.u8 (0)]))) := by kernel_rfl
theorem agg_7 : aggT Tryz.prog 7 = some true := by kernel_rfl
theorem tinfo_8 : tinfo Tryz.prog 8 = some (4, 24, some (Value.agg (List.toArray [Value.int IntKind.i64 (0), Value.int IntKind.i64 (0), Value.bool false, Value.int IntKind.u8 (0)]))) := by kernel_rfl
theorem agg_8 : aggT Tryz.prog 8 = some true := by kernel_rfl
theorem tinfo_9 : tinfo Tryz.prog 9 = some (1, 16, some (Value.string (ByteArray.mk (List.toArray [])))) := by kernel_rfl
theorem agg_9 : aggT Tryz.prog 9 = some false := by kernel_rfl
theorem tinfo_10 : tinfo Tryz.prog 10 = some (1, 16, some (Value.string (ByteArray.mk (List.toArray [])))) := by kernel_rfl
theorem agg_10 : aggT Tryz.prog 10 = some false := by kernel_rfl
theorem tinfo_11 : tinfo Tryz.prog 11 = some (1, 16, some (Value.string (ByteArray.mk (List.toArray [])))) := by kernel_rfl
theorem agg_11 : aggT Tryz.prog 11 = some false := by kernel_rfl
theorem tinfo_12 : tinfo Tryz.prog 12 = some (1, 8, some (Value.int IntKind.u64 (0))) := by kernel_rfl
theorem agg_12 : aggT Tryz.prog 12 = some false := by kernel_rfl
theorem tinfo_13 : tinfo Tryz.prog 13 = some (2, 24, some (Value.agg (List.toArray [Value.string (ByteArray.mk (List.toArray [])), Value.int IntKind.u64 (0)]))) := by kernel_rfl
theorem agg_13 : aggT Tryz.prog 13 = some true := by kernel_rfl
theorem tinfo_14 : tinfo Tryz.prog 14 = some (2, 24, some (Value.agg (List.toArray [Value.string (ByteArray.mk (List.toArray [])), Value.int IntKind.u64 (0)]))) := by kernel_rfl
theorem agg_14 : aggT Tryz.prog 14 = some true := by kernel_rfl
theorem tinfo_15 : tinfo Tryz.prog 15 = some (1, 8, some (Value.pointer none)) := by kernel_rfl
theorem agg_15 : aggT Tryz.prog 15 = some false := by kernel_rfl
theorem tinfo_16 : tinfo Tryz.prog 16 = some (1, 8, some (Value.pointer none)) := by kernel_rfl
theorem agg_16 : aggT Tryz.prog 16 = some false := by kernel_rfl
theorem tinfo_17 : tinfo Tryz.prog 17 = some (1, 8, some (Value.pointer none)) := by kernel_rfl
theorem agg_17 : aggT Tryz.prog 17 = some false := by kernel_rfl
theorem tinfo_18 : tinfo Tryz.prog 18 = some (1, 8, some (Value.agg (List.toArray [Value.pointer none]))) := by kernel_rfl
theorem agg_18 : aggT Tryz.prog 18 = some true := by kernel_rfl
theorem tinfo_19 : tinfo Tryz.prog 19 = some (1, 8, some (Value.agg (List.toArray [Value.pointer none]))) := by kernel_rfl
theorem agg_19 : aggT Tryz.prog 19 = some true := by kernel_rfl
theorem tinfo_20 : tinfo Tryz.prog 20 = some (1, 16, some Value.nilIface) := by kernel_rfl
theorem agg_20 : aggT Tryz.prog 20 = some false := by kernel_rfl
theorem tinfo_21 : tinfo Tryz.prog 21 = some (1, 4, some (Value.int IntKind.i32 (0))) := by kernel_rfl
theorem agg_21 : aggT Tryz.prog 21 = some false := by kernel_rfl
theorem tinfo_22 : tinfo Tryz.prog 22 = some (1, 24, some (Value.slice none 0 0)) := by kernel_rfl
theorem agg_22 : aggT Tryz.prog 22 = some false := by kernel_rfl
theorem tinfo_23 : tinfo Tryz.prog 23 = some (1, 24, some (Value.slice none 0 0)) := by kernel_rfl
theorem agg_23 : aggT Tryz.prog 23 = some false := by kernel_rfl
theorem tinfo_24 : tinfo Tryz.prog 24 = some (1, 24, some (Value.slice none 0 0)) := by kernel_rfl
theorem agg_24 : aggT Tryz.prog 24 = some false := by kernel_rfl
theorem tinfo_25 : tinfo Tryz.prog 25 = some (1, 24, some (Value.slice none 0 0)) := by kernel_rfl
theorem agg_25 : aggT Tryz.prog 25 = some false := by kernel_rfl
theorem tinfo_26 : tinfo Tryz.prog 26 = some (2, 32, some (Value.agg (List.toArray [Value.int IntKind.i64 (0), Value.slice none 0 0]))) := by kernel_rfl
theorem agg_26 : aggT Tryz.prog 26 = some true := by kernel_rfl
theorem tinfo_27 : tinfo Tryz.prog 27 = some (2, 32, some (Value.agg (List.toArray [Value.int IntKind.i64 (0), Value.slice none 0 0]))) := by kernel_rfl
theorem agg_27 : aggT Tryz.prog 27 = some true := by kernel_rfl
theorem tinfo_28 : tinfo Tryz.prog 28 = some (10, 176, some (Value.agg (List.toArray [Value.int IntKind.i64 (0), Value.slice none 0 0, Value.slice none 0 0, Value.slice none 0 0, Value.slice none 0 0, Value.int IntKind.i64 (0), Value.int IntKind.i64 (0), Value.slice none 0 0, Value.int IntKind.i64 (0), Value.slice none 0 0]))) := by kernel_rfl
theorem agg_28 : aggT Tryz.prog 28 = some true := by kernel_rfl
theorem tinfo_29 : tinfo Tryz.prog 29 = some (10, 176, some (Value.agg (List.toArray [Value.int IntKind.i64 (0), Value.slice none 0 0, Value.slice none 0 0, Value.slice none 0 0, Value.slice none 0 0, Value.int IntKind.i64 (0), Value.int IntKind.i64 (0), Value.slice none 0 0, Value.int IntKind.i64 (0), Value.slice none 0 0]))) := by kernel_rfl
theorem agg_29 : aggT Tryz.prog 29 = some true := by kernel_rfl
theorem tinfo_30 : tinfo Tryz.prog 30 = some (1, 8, some Value.nilFunc) := by kernel_rfl
theorem agg_30 : aggT Tryz.prog 30 = some false := by kernel_rfl
theorem tinfo_31 : tinfo Tryz.prog 31 = some (1, 8, some Value.nilFunc) := by kernel_rfl
theorem agg_31 : aggT Tryz.prog 31 = some false := by kernel_rfl
theorem tinfo_32 : tinfo Tryz.prog 32 = some (1, 8, some Value.nilFunc) := by kernel_rfl
theorem agg_32 : aggT Tryz.prog 32 = some false := by kernel_rfl
theorem tinfo_33 : tinfo Tryz.prog 33 = some (1, 8, some Value.nilFunc) := by kernel_rfl
theorem agg_33 : aggT Tryz.prog 33 = some false := by kernel_rfl
theorem tinfo_34 : tinfo Tryz.prog 34 = some (1, 8, some (Value.pointer none)) := by kernel_rfl
theorem agg_34 : aggT Tryz.prog 34 = some false := by kernel_rfl
theorem tinfo_35 : tinfo Tryz.prog 35 = some (1, 8, some Value.nilFunc) := by kernel_rfl
theorem agg_35 : aggT Tryz.prog 35 = some false := by kernel_rfl
theorem tinfo_36 : tinfo Tryz.prog 36 = some (1, 8, some Value.nilFunc) := by kernel_rfl
theorem agg_36 : aggT Tryz.prog 36 = some false := by kernel_rfl
theorem tinfo_37 : tinfo Tryz.prog 37 = some (1, 8, some Value.nilFunc) := by kernel_rfl
theorem agg_37 : aggT Tryz.prog 37 = some false := by kernel_rfl
theorem tinfo_38 : tinfo Tryz.prog 38 = some (1, 24, some (Value.slice none 0 0)) := by kernel_rfl
theorem agg_38 : aggT Tryz.prog 38 = some false := by kernel_rfl
theorem tinfo_39 : tinfo Tryz.prog 39 = some (1, 8, some (Value.int IntKind.i64 (0))) := by kernel_rfl
theorem agg_39 : aggT Tryz.prog 39 = some false := by kernel_rfl
theorem tinfo_40 : tinfo Tryz.prog 40 = some (1, 8, some Value.nilFunc) := by kernel_rfl
theorem agg_40 : aggT Tryz.prog 40 = some false := by kernel_rfl
theorem tinfo_41 : tinfo Tryz.prog 41 = some (1, 8, some Value.nilFunc) := by kernel_rfl
theorem agg_41 : aggT Tryz.prog 41 = some false := by kernel_rfl
theorem tinfo_42 : tinfo Tryz.prog 42 = some (1, 24, some (Value.slice none 0 0)) := by kernel_rfl
theorem agg_42 : aggT Tryz.prog 42 = some false := by kernel_rfl
theorem tinfo_43 : tinfo Tryz.prog 43 = some (4, 64, some (Value.agg (List.toArray [Value.int IntKind.i64 (0), Value.int IntKind.i64 (0), Value.slice none 0 0, Value.slice none 0 0]))) := by kernel_rfl
theorem agg_43 : aggT Tryz.prog 43 = some true := by kernel_rfl
theorem tinfo_44 : tinfo Tryz.prog 44 = some (4, 64, some (Value.agg (List.toArray [Value.int IntKind.i64 (0), Value.int IntKind.i64 (0), Value.slice none 0 0, Value.slice none 0 0]))) := by kernel_rfl
theorem agg_44 : aggT Tryz.prog 44 = some true := by kernel_rfl
theorem tinfo_45 : tinfo Tryz.prog 45 = some (1, 0, some (Value.tuple (List.toArray [Value.agg (List.toArray [Value.int IntKind.i64 (0), Value.int IntKind.i64 (0), Value.slice none 0 0, Value.slice none 0 0]), Value.int IntKind.i64 (0)]))) := by kernel_rfl
theorem agg_45 : aggT Tryz.prog 45 = some false := by kernel_rfl
theorem tinfo_46 : tinfo Tryz.prog 46 = some (1, 8, some Value.nilFunc) := by kernel_rfl
theorem agg_46 : aggT Tryz.prog 46 = some false := by kernel_rfl
theorem tinfo_47 : tinfo Tryz.prog 47 = some (1, 8, some Value.nilFunc) := by kernel_rfl
theorem agg_47 : aggT Tryz.prog 47 = some false := by kernel_rfl
theorem tinfo_48 : tinfo Tryz.prog 48 = some (1, 24, some (Value.slice none 0 0)) := by kernel_rfl
theorem agg_48 : aggT Tryz.prog 48 = some false := by kernel_rfl
theorem tinfo_49 : tinfo Tryz.prog 49 = some (1, 0, some (Value.tuple (List.toArray [Value.slice none 0 0, Value.int IntKind.i64 (0)]))) := by kernel_rfl
theorem agg_49 : aggT Tryz.prog 49 = some false := by kernel_rfl
theorem tinfo_50 : tinfo Tryz.prog 50 = some (1, 8, some Value.nilFunc) := by kernel_rfl
theorem agg_50 : aggT Tryz.prog 50 = some false := by kernel_rfl
theorem tinfo_51 : tinfo Tryz.prog 51 = some (1, 8, some Value.nilFunc) := by kernel_rfl
theorem agg_51 : aggT Tryz.prog 51 = some false := by kernel_rfl
theorem tinfo_52 : tinfo Tryz.prog 52 = some (1, 8, some Value.nilFunc) := by kernel_rfl
theorem agg_52 : aggT Tryz.prog 52 = some false := by kernel_rfl
theorem tinfo_53 : tinfo Tryz.prog 53 = some (1, 0, some (Value.tuple (List.toArray [Value.int IntKind.i64 (0), Value.int IntKind.i64 (0)]))) := by kernel_rfl
theorem agg_53 : aggT Tryz.prog 53 = some false := by kernel_rfl
theorem tinfo_54 : tinfo Tryz.prog 54 = some (1, 8, some Value.nilFunc) := by kernel_rfl
theorem agg_54 : aggT Tryz.prog 54 = some false := by kernel_rfl
theorem tinfo_55 : tinfo Tryz.prog 55 = some (1, 0, some (Value.tuple (List.toArray [Value.agg (List.toArray [Value.int IntKind.i64 (0), Value.slice none 0 0]), Value.int IntKind.i64 (0)]))) := by kernel_rfl
theorem agg_55 : aggT Tryz.prog 55 = some false := by kernel_rfl
theorem tinfo_56 : tinfo Tryz.prog 56 = some (1, 8, some Value.nilFunc) := by kernel_rfl
theorem agg_56 : aggT Tryz.prog 56 = some false := by kernel_rfl
theorem tinfo_57 : tinfo Tryz.prog 57 = some (1, 8, some Value.nilFunc) := by kernel_rfl
theorem agg_57 : aggT Tryz.prog 57 = some false := by kernel_rfl
theorem tinfo_58 : tinfo Tryz.prog 58 = some (1, 8, some Value.nilFunc) := by kernel_rfl
theorem agg_58 : aggT Tryz.prog 58 = some false := by kernel_rfl
theorem tinfo_59 : tinfo Tryz.prog 59 = some (1, 8, some Value.nilFunc) := by kernel_rfl
theorem agg_59 : aggT Tryz.prog 59 = some false := by kernel_rfl
theorem tinfo_60 : tinfo Tryz.prog 60 = some (1, 8, some Value.nilFunc) := by kernel_rfl
theorem agg_60 : aggT Tryz.prog 60 = some false := by kernel_rfl
theorem tinfo_61 : tinfo Tryz.prog 61 = some (1, 8, some Value.nilFunc) := by kernel_rfl
theorem agg_61 : aggT Tryz.prog 61 = some false := by kernel_rfl
theorem tinfo_62 : tinfo Tryz.prog 62 = some (1, 8, some Value.nilFunc) := by kernel_rfl
theorem agg_62 : aggT Tryz.prog 62 = some false := by kernel_rfl
theorem tinfo_63 : tinfo Tryz.prog 63 = some (1, 8, some Value.nilFunc) := by kernel_rfl
theorem agg_63 : aggT Tryz.prog 63 = some false := by kernel_rfl
theorem tinfo_64 : tinfo Tryz.prog 64 = some (1, 24, some (Value.slice none 0 0)) := by kernel_rfl
theorem agg_64 : aggT Tryz.prog 64 = some false := by kernel_rfl
theorem tinfo_65 : tinfo Tryz.prog 65 = some (14, 232, some (Value.agg (List.toArray [Value.string (ByteArray.mk (List.toArray [])), Value.int IntKind.i64 (0), Value.int IntKind.i64 (0), Value.slice none 0 0, Value.slice none 0 0, Value.slice none 0 0, Value.int IntKind.i64 (0), Value.int IntKind.i64 (0), Value.int IntKind.i64 (0), Value.slice none 0 0, Value.slice none 0 0, Value.slice none 0 0, Value.slice none 0 0, Value.int IntKind.i64 (0)]))) := by kernel_rfl
theorem agg_65 : aggT Tryz.prog 65 = some true := by kernel_rfl
theorem tinfo_66 : tinfo Tryz.prog 66 = some (14, 232, some (Value.agg (List.toArray [Value.string (ByteArray.mk (List.toArray [])), Value.int IntKind.i64 (0), Value.int IntKind.i64 (0), Value.slice none 0 0, Value.slice none 0 0, Value.slice none 0 0, Value.int IntKind.i64 (0), Value.int IntKind.i64 (0), Value.int IntKind.i64 (0), Value.slice none 0 0, Value.slice none 0 0, Value.slice none 0 0, Value.slice none 0 0, Value.int IntKind.i64 (0)]))) := by kernel_rfl
theorem agg_66 : aggT Tryz.prog 66 = some true := by kernel_rfl
theorem tinfo_67 : tinfo Tryz.prog 67 = some (1, 24, some (Value.slice none 0 0)) := by kernel_rfl
theorem agg_67 : aggT Tryz.prog 67 = some false := by kernel_rfl
theorem tinfo_68 : tinfo Tryz.prog 68 = some (1, 0, some (Value.tuple (List.toArray [Value.bool false, Value.int IntKind.i64 (0)]))) := by kernel_rfl
theorem agg_68 : aggT Tryz.prog 68 = some false := by kernel_rfl
theorem tinfo_69 : tinfo Tryz.prog 69 = some (1, 8, some Value.nilFunc) := by kernel_rfl
theorem agg_69 : aggT Tryz.prog 69 = some false := by kernel_rfl
theorem tinfo_70 : tinfo Tryz.prog 70 = some (1, 8, some Value.nilFunc) := by kernel_rfl
theorem agg_70 : aggT Tryz.prog 70 = some false := by kernel_rfl
theorem tinfo_71 : tinfo Tryz.prog 71 = some (1, 8, some Value.nilFunc) := by kernel_rfl
theorem agg_71 : aggT Tryz.prog 71 = some false := by kernel_rfl
theorem tinfo_72 : tinfo Tryz.prog 72 = some (1, 0, some (Value.tuple (List.toArray [Value.slice none 0 0, Value.slice none 0 0, Value.int IntKind.i64 (0)]))) := by kernel_rfl
theorem agg_72 : aggT Tryz.prog 72 = some false := by kernel_rfl
theorem tinfo_73 : tinfo Tryz.prog 73 = some (1, 8, some Value.nilFunc) := by kernel_rfl
theorem agg_73 : aggT Tryz.prog 73 = some false := by kernel_rfl
theorem tinfo_74 : tinfo Tryz.prog 74 = some (1, 8, some Value.nilFunc) := by kernel_rfl
theorem agg_74 : aggT Tryz.prog 74 = some false := by kernel_rfl
theorem tinfo_75 : tinfo Tryz.prog 75 = some (1, 8, some Value.nilFunc) := by kernel_rfl
theorem agg_75 : aggT Tryz.prog 75 = some false := by kernel_rfl
theorem tinfo_76 : tinfo Tryz.prog 76 = some (1, 8, some Value.nilFunc) := by kernel_rfl
theorem agg_76 : aggT Tryz.prog 76 = some false := by kernel_rfl
theorem tinfo_77 : tinfo Tryz.prog 77 = some (1, 8, some Value.nilFunc) := by kernel_rfl
theorem agg_77 : aggT Tryz.prog 77 = some false := by kernel_rfl
theorem tinfo_78 : tinfo Tryz.prog 78 = some (1, 8, some Value.nilFunc) := by kernel_rfl
theorem agg_78 : aggT Tryz.prog 78 = some false := by kernel_rfl
theorem tinfo_79 : tinfo Tryz.prog 79 = some (1, 8, some Value.nilFunc) := by kernel_rfl
theorem agg_79 : aggT Tryz.prog 79 = some false := by kernel_rfl
theorem tinfo_80 : tinfo Tryz.prog 80 = some (1, 8, some Value.nilFunc) := by kernel_rfl
theorem agg_80 : aggT Tryz.prog 80 = some false := by kernel_rfl
theorem tinfo_81 : tinfo Tryz.prog 81 = some (1, 8, some (Value.int IntKind.u64 (0))) := by kernel_rfl
theorem agg_81 : aggT Tryz.prog 81 = some false := by kernel_rfl
theorem tinfo_82 : tinfo Tryz.prog 82 = some (3, 40, some (Value.agg (List.toArray [Value.slice none 0 0, Value.int IntKind.i64 (0), Value.int IntKind.u64 (0)]))) := by kernel_rfl
theorem agg_82 : aggT Tryz.prog 82 = some true := by kernel_rfl
theorem tinfo_83 : tinfo Tryz.prog 83 = some (3, 40, some (Value.agg (List.toArray [Value.slice none 0 0, Value.int IntKind.i64 (0), Value.int IntKind.u64 (0)]))) := by kernel_rfl
theorem agg_83 : aggT Tryz.prog 83 = some true := by kernel_rfl
theorem tinfo_84 : tinfo Tryz.prog 84 = some (1, 8, some Value.nilFunc) := by kernel_rfl
theorem agg_84 : aggT Tryz.prog 84 = some false := by kernel_rfl
theorem tinfo_85 : tinfo Tryz.prog 85 = some (1, 8, some (Value.int IntKind.u64 (0))) := by kernel_rfl
theorem agg_85 : aggT Tryz.prog 85 = some false := by kernel_rfl
theorem tinfo_86 : tinfo Tryz.prog 86 = some (1, 8, some Value.nilFunc) := by kernel_rfl
theorem agg_86 : aggT Tryz.prog 86 = some false := by kernel_rfl
theorem tinfo_87 : tinfo Tryz.prog 87 = some (1, 8, some Value.nilFunc) := by kernel_rfl
theorem agg_87 : aggT Tryz.prog 87 = some false := by kernel_rfl
theorem tinfo_88 : tinfo Tryz.prog 88 = some (1, 8, some Value.nilFunc) := by kernel_rfl
theorem agg_88 : aggT Tryz.prog 88 = some false := by kernel_rfl
theorem tinfo_89 : tinfo Tryz.prog 89 = some (1, 8, some Value.nilFunc) := by kernel_rfl
theorem agg_89 : aggT Tryz.prog 89 = some false := by kernel_rfl
theorem tinfo_90 : tinfo Tryz.prog 90 = some (1, 8, some Value.nilFunc) := by kernel_rfl
theorem agg_90 : aggT Tryz.prog 90 = some false := by kernel_rfl
theorem tinfo_91 : tinfo Tryz.prog 91 = some (3, 24, some (Value.agg (List.toArray [Value.int IntKind.i64 (0), Value.int IntKind.i64 (0), Value.int IntKind.i64 (0)]))) := by kernel_rfl
theorem agg_91 : aggT Tryz.prog 91 = some true := by kernel_rfl
theorem tinfo_92 : tinfo Tryz.prog 92 = some (3, 24, some (Value.agg (List.toArray [Value.int IntKind.i64 (0), Value.int IntKind.i64 (0), Value.int IntKind.i64 (0)]))) := by kernel_rfl
theorem agg_92 : aggT Tryz.prog 92 = some true := by kernel_rfl
theorem tinfo_93 : tinfo Tryz.prog 93 = some (1, 8, some Value.nilFunc) := by kernel_rfl
theorem agg_93 : aggT Tryz.prog 93 = some false := by kernel_rfl
theorem tinfo_94 : tinfo Tryz.prog 94 = some (1, 8, some Value.nilFunc) := by kernel_rfl
theorem agg_94 : aggT Tryz.prog 94 = some false := by kernel_rfl
theorem tinfo_95 : tinfo Tryz.prog 95 = some (1, 8, some Value.nilFunc) := by kernel_rfl
theorem agg_95 : aggT Tryz.prog 95 = some false := by kernel_rfl
theorem tinfo_96 : tinfo Tryz.prog 96 = some (1, 8, some Value.nilFunc) := by kernel_rfl
theorem agg_96 : aggT Tryz.prog 96 = some false := by kernel_rfl
theorem tinfo_97 : tinfo Tryz.prog 97 = some (1, 8, some Value.nilFunc) := by kernel_rfl
theorem agg_97 : aggT Tryz.prog 97 = some false := by kernel_rfl
theorem tinfo_98 : tinfo Tryz.prog 98 = some (1, 8, some Value.nilFunc) := by kernel_rfl
theorem agg_98 : aggT Tryz.prog 98 = some false := by kernel_rfl
theorem tinfo_99 : tinfo Tryz.prog 99 = some (1, 8, some Value.nilFunc) := by kernel_rfl
theorem agg_99 : aggT Tryz.prog 99 = some false := by kernel_rfl
theorem tinfo_100 : tinfo Tryz.prog 100 = some (1, 8, some Value.nilFunc) := by kernel_rfl
theorem agg_100 : aggT Tryz.prog 100 = some false := by kernel_rfl
theorem tinfo_101 : tinfo Tryz.prog 101 = some (1, 8, some Value.nilFunc) := by kernel_rfl
theorem agg_101 : aggT Tryz.prog 101 = some false := by kernel_rfl
theorem tinfo_102 : tinfo Tryz.prog 102 = some (1, 8, some Value.nilFunc) := by kernel_rfl
theorem agg_102 : aggT Tryz.prog 102 = some false := by kernel_rfl
theorem tinfo_103 : tinfo Tryz.prog 103 = some (1, 8, some Value.nilFunc) := by kernel_rfl
theorem agg_103 : aggT Tryz.prog 103 = some false := by kernel_rfl
theorem tinfo_104 : tinfo Tryz.prog 104 = some (1, 8, some Value.nilFunc) := by kernel_rfl
theorem agg_104 : aggT Tryz.prog 104 = some false := by kernel_rfl
theorem tinfo_105 : tinfo Tryz.prog 105 = some (1, 8, some Value.nilFunc) := by kernel_rfl
theorem agg_105 : aggT Tryz.prog 105 = some false := by kernel_rfl
theorem tinfo_106 : tinfo Tryz.prog 106 = some (1, 8, some Value.nilFunc) := by kernel_rfl
theorem agg_106 : aggT Tryz.prog 106 = some false := by kernel_rfl
theorem tinfo_107 : tinfo Tryz.prog 107 = some (1, 8, some Value.nilFunc) := by kernel_rfl
theorem agg_107 : aggT Tryz.prog 107 = some false := by kernel_rfl
theorem tinfo_108 : tinfo Tryz.prog 108 = some (1, 8, some Value.nilFunc) := by kernel_rfl
theorem agg_108 : aggT Tryz.prog 108 = some false := by kernel_rfl
theorem tinfo_109 : tinfo Tryz.prog 109 = some (1, 8, some Value.nilFunc) := by kernel_rfl
theorem agg_109 : aggT Tryz.prog 109 = some false := by kernel_rfl
theorem tinfo_110 : tinfo Tryz.prog 110 = some (1, 8, some Value.nilFunc) := by kernel_rfl
theorem agg_110 : aggT Tryz.prog 110 = some false := by kernel_rfl
theorem tinfo_111 : tinfo Tryz.prog 111 = some (1, 8, some Value.nilFunc) := by kernel_rfl
theorem agg_111 : aggT Tryz.prog 111 = some false := by kernel_rfl
theorem tinfo_112 : tinfo Tryz.prog 112 = some (1, 8, some Value.nilFunc) := by kernel_rfl
theorem agg_112 : aggT Tryz.prog 112 = some false := by kernel_rfl
theorem tinfo_113 : tinfo Tryz.prog 113 = some (1, 8, some Value.nilFunc) := by kernel_rfl
theorem agg_113 : aggT Tryz.prog 113 = some false := by kernel_rfl
theorem tinfo_114 : tinfo Tryz.prog 114 = some (1, 8, some Value.nilFunc) := by kernel_rfl
theorem agg_114 : aggT Tryz.prog 114 = some false := by kernel_rfl
theorem tinfo_115 : tinfo Tryz.prog 115 = some (1, 8, some Value.nilFunc) := by kernel_rfl
theorem agg_115 : aggT Tryz.prog 115 = some false := by kernel_rfl
theorem tinfo_116 : tinfo Tryz.prog 116 = some (1, 8, some Value.nilFunc) := by kernel_rfl
theorem agg_116 : aggT Tryz.prog 116 = some false := by kernel_rfl
theorem tinfo_117 : tinfo Tryz.prog 117 = some (1, 8, some Value.nilFunc) := by kernel_rfl
theorem agg_117 : aggT Tryz.prog 117 = some false := by kernel_rfl
theorem tinfo_118 : tinfo Tryz.prog 118 = some (1, 8, some Value.nilFunc) := by kernel_rfl
theorem agg_118 : aggT Tryz.prog 118 = some false := by kernel_rfl
theorem tinfo_119 : tinfo Tryz.prog 119 = some (2, 16, some (Value.agg (List.toArray [Value.int IntKind.i64 (0), Value.int IntKind.i64 (0)]))) := by kernel_rfl
theorem agg_119 : aggT Tryz.prog 119 = some true := by kernel_rfl
theorem tinfo_120 : tinfo Tryz.prog 120 = some (8, 64, some (Value.agg (List.toArray [Value.int IntKind.i64 (0), Value.int IntKind.i64 (0), Value.int IntKind.i64 (0), Value.int IntKind.i64 (0), Value.int IntKind.i64 (0), Value.int IntKind.i64 (0), Value.int IntKind.i64 (0), Value.int IntKind.i64 (0)]))) := by kernel_rfl
theorem agg_120 : aggT Tryz.prog 120 = some true := by kernel_rfl
theorem tinfo_121 : tinfo Tryz.prog 121 = some (8, 64, some (Value.agg (List.toArray [Value.int IntKind.i64 (0), Value.int IntKind.i64 (0), Value.int IntKind.i64 (0), Value.int IntKind.i64 (0), Value.int IntKind.i64 (0), Value.int IntKind.i64 (0), Value.int IntKind.i64 (0), Value.int IntKind.i64 (0)]))) := by kernel_rfl
theorem agg_121 : aggT Tryz.prog 121 = some true := by kernel_rfl
theorem tinfo_122 : tinfo Tryz.prog 122 = some (1, 8, some Value.nilFunc) := by kernel_rfl
theorem agg_122 : aggT Tryz.prog 122 = some false := by kernel_rfl
theorem tinfo_123 : tinfo Tryz.prog 123 = some (1, 8, some (Value.map none)) := by kernel_rfl
theorem agg_123 : aggT Tryz.prog 123 = some false := by kernel_rfl
theorem tinfo_124 : tinfo Tryz.prog 124 = some (1, 8, some Value.nilFunc) := by kernel_rfl
theorem agg_124 : aggT Tryz.prog 124 = some false := by kernel_rfl
theorem tinfo_125 : tinfo Tryz.prog 125 = some (1, 8, some Value.nilFunc) := by kernel_rfl
theorem agg_125 : aggT Tryz.prog 125 = some false := by kernel_rfl
theorem tinfo_126 : tinfo Tryz.prog 126 = some (1, 8, some Value.nilFunc) := by kernel_rfl
theorem agg_126 : aggT Tryz.prog 126 = some false := by kernel_rfl
theorem tinfo_127 : tinfo Tryz.prog 127 = some (1, 8, some Value.nilFunc) := by kernel_rfl
theorem agg_127 : aggT Tryz.prog 127 = some false := by kernel_rfl
theorem tinfo_128 : tinfo Tryz.prog 128 = some (1, 8, some Value.nilFunc) := by kernel_rfl
theorem agg_128 : aggT Tryz.prog 128 = some false := by kernel_rfl
theorem tinfo_129 : tinfo Tryz.prog 129 = some (1, 8, some Value.nilFunc) := by kernel_rfl
theorem agg_129 : aggT Tryz.prog 129 = some false := by kernel_rfl
theorem tinfo_130 : tinfo Tryz.prog 130 = some (1, 8, some Value.nilFunc) := by kernel_rfl
theorem agg_130 : aggT Tryz.prog 130 = some false := by kernel_rfl
theorem tinfo_131 : tinfo Tryz.prog 131 = some (1, 8, some Value.nilFunc) := by kernel_rfl
theorem agg_131 : aggT Tryz.prog 131 = some false := by kernel_rfl
theorem tinfo_132 : tinfo Tryz.prog 132 = some (1, 8, some Value.nilFunc) := by kernel_rfl
theorem agg_132 : aggT Tryz.prog 132 = some false := by kernel_rfl
theorem tinfo_133 : tinfo Tryz.prog 133 = some (1, 8, some Value.nilFunc) := by kernel_rfl
theorem agg_133 : aggT Tryz.prog 133 = some false := by kernel_rfl
theorem tinfo_134 : tinfo Tryz.prog 134 = some (1, 8, some Value.nilFunc) := by kernel_rfl
theorem agg_134 : aggT Tryz.prog 134 = some false := by kernel_rfl
theorem tinfo_135 : tinfo Tryz.prog 135 = some (1, 8, some Value.nilFunc) := by kernel_rfl
theorem agg_135 : aggT Tryz.prog 135 = some false := by kernel_rfl
theorem tinfo_136 : tinfo Tryz.prog 136 = some (1, 8, some Value.nilFunc) := by kernel_rfl
theorem agg_136 : aggT Tryz.prog 136 = some false := by kernel_rfl
theorem tinfo_137 : tinfo Tryz.prog 137 = some (1, 8, some Value.nilFunc) := by kernel_rfl
theorem agg_137 : aggT Tryz.prog 137 = some false := by kernel_rfl
theorem tinfo_138 : tinfo Tryz.prog 138 = some (1, 8, some Value.nilFunc) := by kernel_rfl
theorem agg_138 : aggT Tryz.prog 138 = some false := by kernel_rfl
theorem tinfo_139 : tinfo Tryz.prog 139 = some (1, 8, some Value.nilFunc) := by kernel_rfl
theorem agg_139 : aggT Tryz.prog 139 = some false := by kernel_rfl
theorem tinfo_140 : tinfo Tryz.prog 140 = some (1, 8, some Value.nilFunc) := by kernel_rfl
theorem agg_140 : aggT Tryz.prog 140 = some false := by kernel_rfl
theorem tinfo_141 : tinfo Tryz.prog 141 = some (1, 8, some Value.nilFunc) := by kernel_rfl
theorem agg_141 : aggT Tryz.prog 141 = some false := by kernel_rfl
theorem tinfo_142 : tinfo Tryz.prog 142 = some (1, 8, some Value.nilFunc) := by kernel_rfl
theorem agg_142 : aggT Tryz.prog 142 = some false := by kernel_rfl
theorem tinfo_143 : tinfo Tryz.prog 143 = some (1, 8, some Value.nilFunc) := by kernel_rfl
theorem agg_143 : aggT Tryz.prog 143 = some false := by kernel_rfl
theorem tinfo_144 : tinfo Tryz.prog 144 = some (1, 8, some Value.nilFunc) := by kernel_rfl
theorem agg_144 : aggT Tryz.prog 144 = some false := by kernel_rfl
theorem tinfo_145 : tinfo Tryz.prog 145 = some (1, 24, some (Value.slice none 0 0)) := by kernel_rfl
theorem agg_145 : aggT Tryz.prog 145 = some false := by kernel_rfl
theorem tinfo_146 : tinfo Tryz.prog 146 = some (2, 32, some (Value.agg (List.toArray [Value.int IntKind.i64 (0), Value.slice none 0 0]))) := by kernel_rfl
theorem agg_146 : aggT Tryz.prog 146 = some true := by kernel_rfl
theorem tinfo_147 : tinfo Tryz.prog 147 = some (2, 32, some (Value.agg (List.toArray [Value.int IntKind.i64 (0), Value.slice none 0 0]))) := by kernel_rfl
theorem agg_147 : aggT Tryz.prog 147 = some true := by kernel_rfl
theorem tinfo_148 : tinfo Tryz.prog 148 = some (1, 8, some Value.nilFunc) := by kernel_rfl
theorem agg_148 : aggT Tryz.prog 148 = some false := by kernel_rfl
theorem tinfo_149 : tinfo Tryz.prog 149 = some (1, 8, some Value.nilFunc) := by kernel_rfl
theorem agg_149 : aggT Tryz.prog 149 = some false := by kernel_rfl
theorem tinfo_150 : tinfo Tryz.prog 150 = some (1, 8, some Value.nilFunc) := by kernel_rfl
theorem agg_150 : aggT Tryz.prog 150 = some false := by kernel_rfl
theorem tinfo_151 : tinfo Tryz.prog 151 = some (1, 24, some (Value.slice none 0 0)) := by kernel_rfl
theorem agg_151 : aggT Tryz.prog 151 = some false := by kernel_rfl
theorem tinfo_152 : tinfo Tryz.prog 152 = some (1, 24, some (Value.slice none 0 0)) := by kernel_rfl
theorem agg_152 : aggT Tryz.prog 152 = some false := by kernel_rfl
theorem tinfo_153 : tinfo Tryz.prog 153 = some (1, 0, some (Value.tuple (List.toArray [Value.int IntKind.i64 (0), Value.bool false]))) := by kernel_rfl
theorem agg_153 : aggT Tryz.prog 153 = some false := by kernel_rfl
theorem tinfo_154 : tinfo Tryz.prog 154 = some (1, 8, some Value.nilFunc) := by kernel_rfl
theorem agg_154 : aggT Tryz.prog 154 = some false := by kernel_rfl
theorem tinfo_155 : tinfo Tryz.prog 155 = some (1, 8, some Value.nilFunc) := by kernel_rfl
theorem agg_155 : aggT Tryz.prog 155 = some false := by kernel_rfl
theorem tinfo_156 : tinfo Tryz.prog 156 = some (1, 8, some Value.nilFunc) := by kernel_rfl
theorem agg_156 : aggT Tryz.prog 156 = some false := by kernel_rfl
theorem tinfo_157 : tinfo Tryz.prog 157 = some (1, 24, some (Value.slice none 0 0)) := by kernel_rfl
theorem agg_157 : aggT Tryz.prog 157 = some false := by kernel_rfl
theorem tinfo_158 : tinfo Tryz.prog 158 = some (1, 8, some Value.nilFunc) := by kernel_rfl
theorem agg_158 : aggT Tryz.prog 158 = some false := by kernel_rfl
theorem tinfo_159 : tinfo Tryz.prog 159 = some (1, 8, some Value.nilFunc) := by kernel_rfl
theorem agg_159 : aggT Tryz.prog 159 = some false := by kernel_rfl
theorem tinfo_160 : tinfo Tryz.prog 160 = some (1, 8, some Value.nilFunc) := by kernel_rfl
theorem agg_160 : aggT Tryz.prog 160 = some false := by kernel_rfl
theorem tinfo_161 : tinfo Tryz.prog 161 = some (1, 8, some Value.nilFunc) := by kernel_rfl
theorem agg_161 : aggT Tryz.prog 161 = some false := by kernel_rfl
theorem tinfo_162 : tinfo Tryz.prog 162 = some (1, 8, some Value.nilFunc) := by kernel_rfl
theorem agg_162 : aggT Tryz.prog 162 = some false := by kernel_rfl
theorem tinfo_163 : tinfo Tryz.prog 163 = some (1, 8, some Value.nilFunc) := by kernel_rfl
theorem agg_163 : aggT Tryz.prog 163 = some false := by kernel_rfl
theorem tinfo_164 : tinfo Tryz.prog 164 = some (1, 8, some Value.nilFunc) := by kernel_rfl
theorem agg_164 : aggT Tryz.prog 164 = some false := by kernel_rfl
theorem tinfo_165 : tinfo Tryz.prog 165 = some (1, 8, some Value.nilFunc) := by kernel_rfl
theorem agg_165 : aggT Tryz.prog 165 = some false := by kernel_rfl
theorem tinfo_166 : tinfo Tryz.prog 166 = some (1, 24, some (Value.slice none 0 0)) := by kernel_rfl
theorem agg_166 : aggT Tryz.prog 166 = some false := by kernel_rfl
theorem tinfo_167 : tinfo Tryz.prog 167 = some (1, 8, some Value.nilFunc) := by kernel_rfl
theorem agg_167 : aggT Tryz.prog 167 = some false := by kernel_rfl
theorem tinfo_168 : tinfo Tryz.prog 168 = some (1, 0, some (Value.tuple (List.toArray [Value.slice none 0 0, Value.bool false]))) := by kernel_rfl
theorem agg_168 : aggT Tryz.prog 168 = some false := by kernel_rfl
theorem tinfo_169 : tinfo Tryz.prog 169 = some (1, 8, some Value.nilFunc) := by kernel_rfl
theorem agg_169 : aggT Tryz.prog 169 = some false := by kernel_rfl
theorem tinfo_170 : tinfo Tryz.prog 170 = some (1, 8, some Value.nilFunc) := by kernel_rfl
theorem agg_170 : aggT Tryz.prog 170 = some false := by kernel_rfl
theorem tinfo_171 : tinfo Tryz.prog 171 = some (1, 8, some Value.nilFunc) := by kernel_rfl
theorem agg_171 : aggT Tryz.prog 171 = some false := by kernel_rfl
theorem tinfo_172 : tinfo Tryz.prog 172 = some (1, 8, some Value.nilFunc) := by kernel_rfl
theorem agg_172 : aggT Tryz.prog 172 = some false := by kernel_rfl
theorem tinfo_173 : tinfo Tryz.prog 173 = some (1, 8, some Value.nilFunc) := by kernel_rfl
theorem agg_173 : aggT Tryz.prog 173 = some false := by kernel_rfl
theorem tinfo_174 : tinfo Tryz.prog 174 = some (1, 8, some Value.nilFunc) := by kernel_rfl
theorem agg_174 : aggT Tryz.prog 174 = some false := by kernel_rfl
theorem tinfo_175 : tinfo Tryz.prog 175 = some (1, 8, some Value.nilFunc) := by kernel_rfl
theorem agg_175 : aggT Tryz.prog 175 = some false := by kernel_rfl
theorem tinfo_176 : tinfo Tryz.prog 176 = some (1, 8, some Value.nilFunc) := by kernel_rfl
theorem agg_176 : aggT Tryz.prog 176 = some false := by kernel_rfl
theorem tinfo_177 : tinfo Tryz.prog 177 = some (1, 8, some Value.nilFunc) := by kernel_rfl
theorem agg_177 : aggT Tryz.prog 177 = some false := by kernel_rfl
theorem tinfo_178 : tinfo Tryz.prog 178 = some (1, 8, some Value.nilFunc) := by kernel_rfl
theorem agg_178 : aggT Tryz.prog 178 = some false := by kernel_rfl
theorem tinfo_179 : tinfo Tryz.prog 179 = some (1, 8, some Value.nilFunc) := by kernel_rfl
theorem agg_179 : aggT Tryz.prog 179 = some false := by kernel_rfl
theorem tinfo_180 : tinfo Tryz.prog 180 = some (1, 8, some Value.nilFunc) := by kernel_rfl
theorem agg_180 : aggT Tryz.prog 180 = some false := by kernel_rfl
theorem tinfo_181 : tinfo Tryz.prog 181 = some (1, 8, some Value.nilFunc) := by kernel_rfl
theorem agg_181 : aggT Tryz.prog 181 = some false := by kernel_rfl
theorem tinfo_182 : tinfo Tryz.prog 182 = some (1, 8, some Value.nilFunc) := by kernel_rfl
theorem agg_182 : aggT Tryz.prog 182 = some false := by kernel_rfl
theorem tinfo_183 : tinfo Tryz.prog 183 = some (1, 8, some Value.nilFunc) := by kernel_rfl
theorem agg_183 : aggT Tryz.prog 183 = some false := by kernel_rfl
theorem tinfo_184 : tinfo Tryz.prog 184 = some (1, 8, some Value.nilFunc) := by kernel_rfl
theorem agg_184 : aggT Tryz.prog 184 = some false := by kernel_rfl
theorem tinfo_185 : tinfo Tryz.prog 185 = some (4, 40, some (Value.agg (List.toArray [Value.pointer none, Value.pointer none, Value.pointer none, Value.string (ByteArray.mk (List.toArray []))]))) := by kernel_rfl
theorem agg_185 : aggT Tryz.prog 185 = some true := by kernel_rfl
theorem tinfo_186 : tinfo Tryz.prog 186 = some (4, 40, some (Value.agg (List.toArray [Value.pointer none, Value.pointer none, Value.pointer none, Value.string (ByteArray.mk (List.toArray []))]))) := by kernel_rfl
theorem agg_186 : aggT Tryz.prog 186 = some true := by kernel_rfl
theorem tinfo_187 : tinfo Tryz.prog 187 = some (0, 0, some (Value.agg (List.toArray []))) := by kernel_rfl
theorem agg_187 : aggT Tryz.prog 187 = some true := by kernel_rfl
theorem tinfo_188 : tinfo Tryz.prog 188 = some (0, 0, some (Value.agg (List.toArray []))) := by kernel_rfl
theorem agg_188 : aggT Tryz.prog 188 = some true := by kernel_rfl
theorem tinfo_189 : tinfo Tryz.prog 189 = some (0, 0, some (Value.agg (List.toArray []))) := by kernel_rfl
theorem agg_189 : aggT Tryz.prog 189 = some true := by kernel_rfl
theorem tinfo_190 : tinfo Tryz.prog 190 = some (1, 8, some Value.nilFunc) := by kernel_rfl
theorem agg_190 : aggT Tryz.prog 190 = some false := by kernel_rfl
theorem tinfo_191 : tinfo Tryz.prog 191 = some (1, 4, some (Value.int IntKind.u32 (0))) := by kernel_rfl
theorem agg_191 : aggT Tryz.prog 191 = some false := by kernel_rfl
theorem tinfo_192 : tinfo Tryz.prog 192 = some (1, 1, some (Value.int IntKind.u8 (0))) := by kernel_rfl
theorem agg_192 : aggT Tryz.prog 192 = some false := by kernel_rfl
theorem tinfo_193 : tinfo Tryz.prog 193 = some (1, 1, some (Value.int IntKind.u8 (0))) := by kernel_rfl
theorem agg_193 : aggT Tryz.prog 193 = some false := by kernel_rfl
theorem tinfo_194 : tinfo Tryz.prog 194 = some (1, 8, some Value.nilFunc) := by kernel_rfl
theorem agg_194 : aggT Tryz.prog 194 = some false := by kernel_rfl
theorem tinfo_195 : tinfo Tryz.prog 195 = some (1, 8, some (Value.pointer none)) := by kernel_rfl
theorem agg_195 : aggT Tryz.prog 195 = some false := by kernel_rfl
theorem tinfo_196 : tinfo Tryz.prog 196 = some (1, 4, some (Value.int IntKind.i32 (0))) := by kernel_rfl
theorem agg_196 : aggT Tryz.prog 196 = some false := by kernel_rfl
theorem tinfo_197 : tinfo Tryz.prog 197 = some (1, 4, some (Value.int IntKind.i32 (0))) := by kernel_rfl
theorem agg_197 : aggT Tryz.prog 197 = some false := by kernel_rfl
theorem tinfo_198 : tinfo Tryz.prog 198 = some (11, 48, some (Value.agg (List.toArray [Value.int IntKind.u64 (0), Value.int IntKind.u64 (0), Value.int IntKind.u32 (0), Value.int IntKind.u8 (0), Value.int IntKind.u8 (0), Value.int IntKind.u8 (0), Value.int IntKind.u8 (0), Value.nilFunc, Value.pointer none, Value.int IntKind.i32 (0), Value.int IntKind.i32 (0)]))) := by kernel_rfl
theorem agg_198 : aggT Tryz.prog 198 = some true := by kernel_rfl
theorem tinfo_199 : tinfo Tryz.prog 199 = some (11, 48, some (Value.agg (List.toArray [Value.int IntKind.u64 (0), Value.int IntKind.u64 (0), Value.int IntKind.u32 (0), Value.int IntKind.u8 (0), Value.int IntKind.u8 (0), Value.int IntKind.u8 (0), Value.int IntKind.u8 (0), Value.nilFunc, Value.pointer none, Value.int IntKind.i32 (0), Value.int IntKind.i32 (0)]))) := by kernel_rfl
theorem agg_199 : aggT Tryz.prog 199 = some true := by kernel_rfl
theorem tinfo_200 : tinfo Tryz.prog 200 = some (1, 8, some (Value.pointer none)) := by kernel_rfl
theorem agg_200 : aggT Tryz.prog 200 = some false := by kernel_rfl
theorem places_7 : placesOf Tryz.prog 7 = some [(0, 1), (1, 1), (2, 1), (3, 1)] := by kernel_rfl
theorem field_7_0 : fieldOf Tryz.prog 7 0 = some (0, 2) := by kernel_rfl
theorem field_7_1 : fieldOf Tryz.prog 7 1 = some (1, 3) := by kernel_rfl
theorem field_7_2 : fieldOf Tryz.prog 7 2 = some (2, 4) := by kernel_rfl
theorem field_7_3 : fieldOf Tryz.prog 7 3 = some (3, 6) := by kernel_rfl
theorem places_8 : placesOf Tryz.prog 8 = some [(0, 1), (1, 1), (2, 1), (3, 1)] := by kernel_rfl
theorem field_8_0 : fieldOf Tryz.prog 8 0 = some (0, 2) := by kernel_rfl
theorem field_8_1 : fieldOf Tryz.prog 8 1 = some (1, 3) := by kernel_rfl
theorem field_8_2 : fieldOf Tryz.prog 8 2 = some (2, 4) := by kernel_rfl
theorem field_8_3 : fieldOf Tryz.prog 8 3 = some (3, 6) := by kernel_rfl
theorem places_13 : placesOf Tryz.prog 13 = some [(0, 1), (1, 1)] := by kernel_rfl
theorem field_13_0 : fieldOf Tryz.prog 13 0 = some (0, 9) := by kernel_rfl
theorem field_13_1 : fieldOf Tryz.prog 13 1 = some (1, 12) := by kernel_rfl
theorem places_14 : placesOf Tryz.prog 14 = some [(0, 1), (1, 1)] := by kernel_rfl
theorem field_14_0 : fieldOf Tryz.prog 14 0 = some (0, 9) := by kernel_rfl
theorem field_14_1 : fieldOf Tryz.prog 14 1 = some (1, 12) := by kernel_rfl
theorem places_18 : placesOf Tryz.prog 18 = some [(0, 1)] := by kernel_rfl
theorem field_18_0 : fieldOf Tryz.prog 18 0 = some (0, 17) := by kernel_rfl
theorem places_19 : placesOf Tryz.prog 19 = some [(0, 1)] := by kernel_rfl
theorem field_19_0 : fieldOf Tryz.prog 19 0 = some (0, 17) := by kernel_rfl
theorem places_26 : placesOf Tryz.prog 26 = some [(0, 1), (1, 1)] := by kernel_rfl
theorem field_26_0 : fieldOf Tryz.prog 26 0 = some (0, 3) := by kernel_rfl
theorem field_26_1 : fieldOf Tryz.prog 26 1 = some (1, 25) := by kernel_rfl
theorem places_27 : placesOf Tryz.prog 27 = some [(0, 1), (1, 1)] := by kernel_rfl
theorem field_27_0 : fieldOf Tryz.prog 27 0 = some (0, 3) := by kernel_rfl
theorem field_27_1 : fieldOf Tryz.prog 27 1 = some (1, 25) := by kernel_rfl
theorem places_28 : placesOf Tryz.prog 28 = some [(0, 1), (1, 1), (2, 1), (3, 1), (4, 1), (5, 1), (6, 1), (7, 1), (8, 2)] := by kernel_rfl
theorem field_28_0 : fieldOf Tryz.prog 28 0 = some (0, 3) := by kernel_rfl
theorem field_28_1 : fieldOf Tryz.prog 28 1 = some (1, 23) := by kernel_rfl
theorem field_28_2 : fieldOf Tryz.prog 28 2 = some (2, 23) := by kernel_rfl
theorem field_28_3 : fieldOf Tryz.prog 28 3 = some (3, 23) := by kernel_rfl
theorem field_28_4 : fieldOf Tryz.prog 28 4 = some (4, 22) := by kernel_rfl
theorem field_28_5 : fieldOf Tryz.prog 28 5 = some (5, 3) := by kernel_rfl
theorem field_28_6 : fieldOf Tryz.prog 28 6 = some (6, 3) := by kernel_rfl
theorem field_28_7 : fieldOf Tryz.prog 28 7 = some (7, 24) := by kernel_rfl
theorem field_28_8 : fieldOf Tryz.prog 28 8 = some (8, 27) := by kernel_rfl
theorem places_29 : placesOf Tryz.prog 29 = some [(0, 1), (1, 1), (2, 1), (3, 1), (4, 1), (5, 1), (6, 1), (7, 1), (8, 2)] := by kernel_rfl
theorem field_29_0 : fieldOf Tryz.prog 29 0 = some (0, 3) := by kernel_rfl
theorem field_29_1 : fieldOf Tryz.prog 29 1 = some (1, 23) := by kernel_rfl
theorem field_29_2 : fieldOf Tryz.prog 29 2 = some (2, 23) := by kernel_rfl
theorem field_29_3 : fieldOf Tryz.prog 29 3 = some (3, 23) := by kernel_rfl
theorem field_29_4 : fieldOf Tryz.prog 29 4 = some (4, 22) := by kernel_rfl
theorem field_29_5 : fieldOf Tryz.prog 29 5 = some (5, 3) := by kernel_rfl
theorem field_29_6 : fieldOf Tryz.prog 29 6 = some (6, 3) := by kernel_rfl
theorem field_29_7 : fieldOf Tryz.prog 29 7 = some (7, 24) := by kernel_rfl
theorem field_29_8 : fieldOf Tryz.prog 29 8 = some (8, 27) := by kernel_rfl
theorem places_43 : placesOf Tryz.prog 43 = some [(0, 1), (1, 1), (2, 1), (3, 1)] := by kernel_rfl
theorem field_43_0 : fieldOf Tryz.prog 43 0 = some (0, 3) := by kernel_rfl
theorem field_43_1 : fieldOf Tryz.prog 43 1 = some (1, 3) := by kernel_rfl
theorem field_43_2 : fieldOf Tryz.prog 43 2 = some (2, 22) := by kernel_rfl
theorem field_43_3 : fieldOf Tryz.prog 43 3 = some (3, 42) := by kernel_rfl
theorem places_44 : placesOf Tryz.prog 44 = some [(0, 1), (1, 1), (2, 1), (3, 1)] := by kernel_rfl
theorem field_44_0 : fieldOf Tryz.prog 44 0 = some (0, 3) := by kernel_rfl
theorem field_44_1 : fieldOf Tryz.prog 44 1 = some (1, 3) := by kernel_rfl
theorem field_44_2 : fieldOf Tryz.prog 44 2 = some (2, 22) := by kernel_rfl
theorem field_44_3 : fieldOf Tryz.prog 44 3 = some (3, 42) := by kernel_rfl
theorem places_65 : placesOf Tryz.prog 65 = some [(0, 1), (1, 1), (2, 1), (3, 1), (4, 1), (5, 1), (6, 1), (7, 1), (8, 1), (9, 1), (10, 1), (11, 1), (12, 1), (13, 1)] := by kernel_rfl
theorem field_65_0 : fieldOf Tryz.prog 65 0 = some (0, 9) := by kernel_rfl
theorem field_65_1 : fieldOf Tryz.prog 65 1 = some (1, 3) := by kernel_rfl
theorem field_65_2 : fieldOf Tryz.prog 65 2 = some (2, 3) := by kernel_rfl
theorem field_65_3 : fieldOf Tryz.prog 65 3 = some (3, 22) := by kernel_rfl
theorem field_65_4 : fieldOf Tryz.prog 65 4 = some (4, 22) := by kernel_rfl
theorem field_65_5 : fieldOf Tryz.prog 65 5 = some (5, 22) := by kernel_rfl
theorem field_65_6 : fieldOf Tryz.prog 65 6 = some (6, 3) := by kernel_rfl
theorem field_65_7 : fieldOf Tryz.prog 65 7 = some (7, 3) := by kernel_rfl
theorem field_65_8 : fieldOf Tryz.prog 65 8 = some (8, 3) := by kernel_rfl
theorem field_65_9 : fieldOf Tryz.prog 65 9 = some (9, 22) := by kernel_rfl
theorem field_65_10 : fieldOf Tryz.prog 65 10 = some (10, 22) := by kernel_rfl
theorem field_65_11 : fieldOf Tryz.prog 65 11 = some (11, 64) := by kernel_rfl
theorem field_65_12 : fieldOf Tryz.prog 65 12 = some (12, 22) := by kernel_rfl
theorem field_65_13 : fieldOf Tryz.prog 65 13 = some (13, 3) := by kernel_rfl
theorem places_66 : placesOf Tryz.prog 66 = some [(0, 1), (1, 1), (2, 1), (3, 1), (4, 1), (5, 1), (6, 1), (7, 1), (8, 1), (9, 1), (10, 1), (11, 1), (12, 1), (13, 1)] := by kernel_rfl
theorem field_66_0 : fieldOf Tryz.prog 66 0 = some (0, 9) := by kernel_rfl
theorem field_66_1 : fieldOf Tryz.prog 66 1 = some (1, 3) := by kernel_rfl
theorem field_66_2 : fieldOf Tryz.prog 66 2 = some (2, 3) := by kernel_rfl
theorem field_66_3 : fieldOf Tryz.prog 66 3 = some (3, 22) := by kernel_rfl
theorem field_66_4 : fieldOf Tryz.prog 66 4 = some (4, 22) := by kernel_rfl
theorem field_66_5 : fieldOf Tryz.prog 66 5 = some (5, 22) := by kernel_rfl
theorem field_66_6 : fieldOf Tryz.prog 66 6 = some (6, 3) := by kernel_rfl
theorem field_66_7 : fieldOf Tryz.prog 66 7 = some (7, 3) := by kernel_rfl
theorem field_66_8 : fieldOf Tryz.prog 66 8 = some (8, 3) := by kernel_rfl
theorem field_66_9 : fieldOf Tryz.prog 66 9 = some (9, 22) := by kernel_rfl
theorem field_66_10 : fieldOf Tryz.prog 66 10 = some (10, 22) := by kernel_rfl
theorem field_66_11 : fieldOf Tryz.prog 66 11 = some (11, 64) := by kernel_rfl
theorem field_66_12 : fieldOf Tryz.prog 66 12 = some (12, 22) := by kernel_rfl
theorem field_66_13 : fieldOf Tryz.prog 66 13 = some (13, 3) := by kernel_rfl
theorem places_82 : placesOf Tryz.prog 82 = some [(0, 1), (1, 1), (2, 1)] := by kernel_rfl
theorem field_82_0 : fieldOf Tryz.prog 82 0 = some (0, 22) := by kernel_rfl
theorem field_82_1 : fieldOf Tryz.prog 82 1 = some (1, 3) := by kernel_rfl
theorem field_82_2 : fieldOf Tryz.prog 82 2 = some (2, 81) := by kernel_rfl
theorem places_83 : placesOf Tryz.prog 83 = some [(0, 1), (1, 1), (2, 1)] := by kernel_rfl
theorem field_83_0 : fieldOf Tryz.prog 83 0 = some (0, 22) := by kernel_rfl
theorem field_83_1 : fieldOf Tryz.prog 83 1 = some (1, 3) := by kernel_rfl
theorem field_83_2 : fieldOf Tryz.prog 83 2 = some (2, 81) := by kernel_rfl
theorem places_91 : placesOf Tryz.prog 91 = some [(0, 1), (1, 1), (2, 1)] := by kernel_rfl
theorem field_91_0 : fieldOf Tryz.prog 91 0 = some (0, 3) := by kernel_rfl
theorem field_91_1 : fieldOf Tryz.prog 91 1 = some (1, 3) := by kernel_rfl
theorem field_91_2 : fieldOf Tryz.prog 91 2 = some (2, 3) := by kernel_rfl
theorem places_92 : placesOf Tryz.prog 92 = some [(0, 1), (1, 1), (2, 1)] := by kernel_rfl
theorem field_92_0 : fieldOf Tryz.prog 92 0 = some (0, 3) := by kernel_rfl
theorem field_92_1 : fieldOf Tryz.prog 92 1 = some (1, 3) := by kernel_rfl
theorem field_92_2 : fieldOf Tryz.prog 92 2 = some (2, 3) := by kernel_rfl
theorem places_119 : placesOf Tryz.prog 119 = some [(0, 1), (1, 1)] := by kernel_rfl
theorem places_120 : placesOf Tryz.prog 120 = some [(0, 2), (2, 2), (4, 2), (6, 2)] := by kernel_rfl
theorem field_120_0 : fieldOf Tryz.prog 120 0 = some (0, 119) := by kernel_rfl
theorem field_120_1 : fieldOf Tryz.prog 120 1 = some (2, 119) := by kernel_rfl
theorem field_120_2 : fieldOf Tryz.prog 120 2 = some (4, 119) := by kernel_rfl
theorem field_120_3 : fieldOf Tryz.prog 120 3 = some (6, 119) := by kernel_rfl
theorem places_121 : placesOf Tryz.prog 121 = some [(0, 2), (2, 2), (4, 2), (6, 2)] := by kernel_rfl
theorem field_121_0 : fieldOf Tryz.prog 121 0 = some (0, 119) := by kernel_rfl
theorem field_121_1 : fieldOf Tryz.prog 121 1 = some (2, 119) := by kernel_rfl
theorem field_121_2 : fieldOf Tryz.prog 121 2 = some (4, 119) := by kernel_rfl
theorem field_121_3 : fieldOf Tryz.prog 121 3 = some (6, 119) := by kernel_rfl
theorem places_146 : placesOf Tryz.prog 146 = some [(0, 1), (1, 1)] := by kernel_rfl
theorem field_146_0 : fieldOf Tryz.prog 146 0 = some (0, 3) := by kernel_rfl
theorem field_146_1 : fieldOf Tryz.prog 146 1 = some (1, 145) := by kernel_rfl
theorem places_147 : placesOf Tryz.prog 147 = some [(0, 1), (1, 1)] := by kernel_rfl
theorem field_147_0 : fieldOf Tryz.prog 147 0 = some (0, 3) := by kernel_rfl
theorem field_147_1 : fieldOf Tryz.prog 147 1 = some (1, 145) := by kernel_rfl
theorem places_185 : placesOf Tryz.prog 185 = some [(0, 1), (1, 1), (2, 1), (3, 1)] := by kernel_rfl
theorem field_185_0 : fieldOf Tryz.prog 185 0 = some (0, 17) := by kernel_rfl
theorem field_185_1 : fieldOf Tryz.prog 185 1 = some (1, 17) := by kernel_rfl
theorem field_185_2 : fieldOf Tryz.prog 185 2 = some (2, 17) := by kernel_rfl
theorem field_185_3 : fieldOf Tryz.prog 185 3 = some (3, 9) := by kernel_rfl
theorem places_186 : placesOf Tryz.prog 186 = some [(0, 1), (1, 1), (2, 1), (3, 1)] := by kernel_rfl
theorem field_186_0 : fieldOf Tryz.prog 186 0 = some (0, 17) := by kernel_rfl
theorem field_186_1 : fieldOf Tryz.prog 186 1 = some (1, 17) := by kernel_rfl
theorem field_186_2 : fieldOf Tryz.prog 186 2 = some (2, 17) := by kernel_rfl
theorem field_186_3 : fieldOf Tryz.prog 186 3 = some (3, 9) := by kernel_rfl
theorem places_187 : placesOf Tryz.prog 187 = some [] := by kernel_rfl
theorem places_188 : placesOf Tryz.prog 188 = some [(0, 0)] := by kernel_rfl
theorem field_188_0 : fieldOf Tryz.prog 188 0 = some (0, 187) := by kernel_rfl
theorem places_189 : placesOf Tryz.prog 189 = some [(0, 0)] := by kernel_rfl
theorem field_189_0 : fieldOf Tryz.prog 189 0 = some (0, 187) := by kernel_rfl
theorem places_198 : placesOf Tryz.prog 198 = some [(0, 1), (1, 1), (2, 1), (3, 1), (4, 1), (5, 1), (6, 1), (7, 1), (8, 1), (9, 1), (10, 1)] := by kernel_rfl
theorem field_198_0 : fieldOf Tryz.prog 198 0 = some (0, 12) := by kernel_rfl
theorem field_198_1 : fieldOf Tryz.prog 198 1 = some (1, 12) := by kernel_rfl
theorem field_198_2 : fieldOf Tryz.prog 198 2 = some (2, 191) := by kernel_rfl
theorem field_198_3 : fieldOf Tryz.prog 198 3 = some (3, 192) := by kernel_rfl
theorem field_198_4 : fieldOf Tryz.prog 198 4 = some (4, 5) := by kernel_rfl
theorem field_198_5 : fieldOf Tryz.prog 198 5 = some (5, 5) := by kernel_rfl
theorem field_198_6 : fieldOf Tryz.prog 198 6 = some (6, 193) := by kernel_rfl
theorem field_198_7 : fieldOf Tryz.prog 198 7 = some (7, 194) := by kernel_rfl
theorem field_198_8 : fieldOf Tryz.prog 198 8 = some (8, 195) := by kernel_rfl
theorem field_198_9 : fieldOf Tryz.prog 198 9 = some (9, 196) := by kernel_rfl
theorem field_198_10 : fieldOf Tryz.prog 198 10 = some (10, 197) := by kernel_rfl
theorem places_199 : placesOf Tryz.prog 199 = some [(0, 1), (1, 1), (2, 1), (3, 1), (4, 1), (5, 1), (6, 1), (7, 1), (8, 1), (9, 1), (10, 1)] := by kernel_rfl
theorem field_199_0 : fieldOf Tryz.prog 199 0 = some (0, 12) := by kernel_rfl
theorem field_199_1 : fieldOf Tryz.prog 199 1 = some (1, 12) := by kernel_rfl
theorem field_199_2 : fieldOf Tryz.prog 199 2 = some (2, 191) := by kernel_rfl
theorem field_199_3 : fieldOf Tryz.prog 199 3 = some (3, 192) := by kernel_rfl
theorem field_199_4 : fieldOf Tryz.prog 199 4 = some (4, 5) := by kernel_rfl
theorem field_199_5 : fieldOf Tryz.prog 199 5 = some (5, 5) := by kernel_rfl
theorem field_199_6 : fieldOf Tryz.prog 199 6 = some (6, 193) := by kernel_rfl
theorem field_199_7 : fieldOf Tryz.prog 199 7 = some (7, 194) := by kernel_rfl
theorem field_199_8 : fieldOf Tryz.prog 199 8 = some (8, 195) := by kernel_rfl
theorem field_199_9 : fieldOf Tryz.prog 199 9 = some (9, 196) := by kernel_rfl
theorem field_199_10 : fieldOf Tryz.prog 199 10 = some (10, 197) := by kernel_rfl
theorem mixed : Tryz.prog.follows .mixedOrders = true := by kernel_rfl
attribute [go_sem] tinfo_0 agg_0 Tryz.underlying0 tinfo_1 agg_1 Tryz.underlying1 tinfo_2 agg_2 Tryz.underlying2 tinfo_3 agg_3 Tryz.underlying3 tinfo_4 agg_4 Tryz.underlying4 tinfo_5 agg_5 Tryz.underlying5 tinfo_6 agg_6 Tryz.underlying6 tinfo_7 agg_7 Tryz.underlying7 tinfo_8 agg_8 Tryz.underlying8 tinfo_9 agg_9 Tryz.underlying9 tinfo_10 agg_10 Tryz.underlying10 tinfo_11 agg_11 Tryz.underlying11 tinfo_12 agg_12 Tryz.underlying12 tinfo_13 agg_13 Tryz.underlying13 tinfo_14 agg_14 Tryz.underlying14 tinfo_15 agg_15 Tryz.underlying15 tinfo_16 agg_16 Tryz.underlying16 tinfo_17 agg_17 Tryz.underlying17 tinfo_18 agg_18 Tryz.underlying18 tinfo_19 agg_19 Tryz.underlying19 tinfo_20 agg_20 Tryz.underlying20 tinfo_21 agg_21 Tryz.underlying21 tinfo_22 agg_22 Tryz.underlying22 tinfo_23 agg_23 Tryz.underlying23 tinfo_24 agg_24 Tryz.underlying24 tinfo_25 agg_25 Tryz.underlying25 tinfo_26 agg_26 Tryz.underlying26 tinfo_27 agg_27 Tryz.underlying27 tinfo_28 agg_28 Tryz.underlying28 tinfo_29 agg_29 Tryz.underlying29 tinfo_30 agg_30 Tryz.underlying30 tinfo_31 agg_31 Tryz.underlying31 tinfo_32 agg_32 Tryz.underlying32 tinfo_33 agg_33 Tryz.underlying33 tinfo_34 agg_34 Tryz.underlying34 tinfo_35 agg_35 Tryz.underlying35 tinfo_36 agg_36 Tryz.underlying36 tinfo_37 agg_37 Tryz.underlying37 tinfo_38 agg_38 Tryz.underlying38 tinfo_39 agg_39 Tryz.underlying39 tinfo_40 agg_40 Tryz.underlying40 tinfo_41 agg_41 Tryz.underlying41 tinfo_42 agg_42 Tryz.underlying42 tinfo_43 agg_43 Tryz.underlying43 tinfo_44 agg_44 Tryz.underlying44 tinfo_45 agg_45 Tryz.underlying45 tinfo_46 agg_46 Tryz.underlying46 tinfo_47 agg_47 Tryz.underlying47 tinfo_48 agg_48 Tryz.underlying48 tinfo_49 agg_49 Tryz.underlying49 tinfo_50 agg_50 Tryz.underlying50 tinfo_51 agg_51 Tryz.underlying51 tinfo_52 agg_52 Tryz.underlying52 tinfo_53 agg_53 Tryz.underlying53 tinfo_54 agg_54 Tryz.underlying54 tinfo_55 agg_55 Tryz.underlying55 tinfo_56 agg_56 Tryz.underlying56 tinfo_57 agg_57 Tryz.underlying57 tinfo_58 agg_58 Tryz.underlying58 tinfo_59 agg_59 Tryz.underlying59 tinfo_60 agg_60 Tryz.underlying60 tinfo_61 agg_61 Tryz.underlying61 tinfo_62 agg_62 Tryz.underlying62 tinfo_63 agg_63 Tryz.underlying63 tinfo_64 agg_64 Tryz.underlying64 tinfo_65 agg_65 Tryz.underlying65 tinfo_66 agg_66 Tryz.underlying66 tinfo_67 agg_67 Tryz.underlying67 tinfo_68 agg_68 Tryz.underlying68 tinfo_69 agg_69 Tryz.underlying69 tinfo_70 agg_70 Tryz.underlying70 tinfo_71 agg_71 Tryz.underlying71 tinfo_72 agg_72 Tryz.underlying72 tinfo_73 agg_73 Tryz.underlying73 tinfo_74 agg_74 Tryz.underlying74 tinfo_75 agg_75 Tryz.underlying75 tinfo_76 agg_76 Tryz.underlying76 tinfo_77 agg_77 Tryz.underlying77 tinfo_78 agg_78 Tryz.underlying78 tinfo_79 agg_79 Tryz.underlying79 tinfo_80 agg_80 Tryz.underlying80 tinfo_81 agg_81 Tryz.underlying81 tinfo_82 agg_82 Tryz.underlying82 tinfo_83 agg_83 Tryz.underlying83 tinfo_84 agg_84 Tryz.underlying84 tinfo_85 agg_85 Tryz.underlying85 tinfo_86 agg_86 Tryz.underlying86 tinfo_87 agg_87 Tryz.underlying87 tinfo_88 agg_88 Tryz.underlying88 tinfo_89 agg_89 Tryz.underlying89 tinfo_90 agg_90 Tryz.underlying90 tinfo_91 agg_91 Tryz.underlying91 tinfo_92 agg_92 Tryz.underlying92 tinfo_93 agg_93 Tryz.underlying93 tinfo_94 agg_94 Tryz.underlying94 tinfo_95 agg_95 Tryz.underlying95 tinfo_96 agg_96 Tryz.underlying96 tinfo_97 agg_97 Tryz.underlying97 tinfo_98 agg_98 Tryz.underlying98 tinfo_99 agg_99 Tryz.underlying99 tinfo_100 agg_100 Tryz.underlying100 tinfo_101 agg_101 Tryz.underlying101 tinfo_102 agg_102 Tryz.underlying102 tinfo_103 agg_103 Tryz.underlying103 tinfo_104 agg_104 Tryz.underlying104 tinfo_105 agg_105 Tryz.underlying105 tinfo_106 agg_106 Tryz.underlying106 tinfo_107 agg_107 Tryz.underlying107 tinfo_108 agg_108 Tryz.underlying108 tinfo_109 agg_109 Tryz.underlying109 tinfo_110 agg_110 Tryz.underlying110 tinfo_111 agg_111 Tryz.underlying111 tinfo_112 agg_112 Tryz.underlying112 tinfo_113 agg_113 Tryz.underlying113 tinfo_114 agg_114 Tryz.underlying114 tinfo_115 agg_115 Tryz.underlying115 tinfo_116 agg_116 Tryz.underlying116 tinfo_117 agg_117 Tryz.underlying117 tinfo_118 agg_118 Tryz.underlying118 tinfo_119 agg_119 Tryz.underlying119 tinfo_120 agg_120 Tryz.underlying120 tinfo_121 agg_121 Tryz.underlying121 tinfo_122 agg_122 Tryz.underlying122 tinfo_123 agg_123 Tryz.underlying123 tinfo_124 agg_124 Tryz.underlying124 tinfo_125 agg_125 Tryz.underlying125 tinfo_126 agg_126 Tryz.underlying126 tinfo_127 agg_127 Tryz.underlying127 tinfo_128 agg_128 Tryz.underlying128 tinfo_129 agg_129 Tryz.underlying129 tinfo_130 agg_130 Tryz.underlying130 tinfo_131 agg_131 Tryz.underlying131 tinfo_132 agg_132 Tryz.underlying132 tinfo_133 agg_133 Tryz.underlying133 tinfo_134 agg_134 Tryz.underlying134 tinfo_135 agg_135 Tryz.underlying135 tinfo_136 agg_136 Tryz.underlying136 tinfo_137 agg_137 Tryz.underlying137 tinfo_138 agg_138 Tryz.underlying138 tinfo_139 agg_139 Tryz.underlying139 tinfo_140 agg_140 Tryz.underlying140 tinfo_141 agg_141 Tryz.underlying141 tinfo_142 agg_142 Tryz.underlying142 tinfo_143 agg_143 Tryz.underlying143 tinfo_144 agg_144 Tryz.underlying144 tinfo_145 agg_145 Tryz.underlying145 tinfo_146 agg_146 Tryz.underlying146 tinfo_147 agg_147 Tryz.underlying147 tinfo_148 agg_148 Tryz.underlying148 tinfo_149 agg_149 Tryz.underlying149 tinfo_150 agg_150 Tryz.underlying150 tinfo_151 agg_151 Tryz.underlying151 tinfo_152 agg_152 Tryz.underlying152 tinfo_153 agg_153 Tryz.underlying153 tinfo_154 agg_154 Tryz.underlying154 tinfo_155 agg_155 Tryz.underlying155 tinfo_156 agg_156 Tryz.underlying156 tinfo_157 agg_157 Tryz.underlying157 tinfo_158 agg_158 Tryz.underlying158 tinfo_159 agg_159 Tryz.underlying159 tinfo_160 agg_160 Tryz.underlying160 tinfo_161 agg_161 Tryz.underlying161 tinfo_162 agg_162 Tryz.underlying162 tinfo_163 agg_163 Tryz.underlying163 tinfo_164 agg_164 Tryz.underlying164 tinfo_165 agg_165 Tryz.underlying165 tinfo_166 agg_166 Tryz.underlying166 tinfo_167 agg_167 Tryz.underlying167 tinfo_168 agg_168 Tryz.underlying168 tinfo_169 agg_169 Tryz.underlying169 tinfo_170 agg_170 Tryz.underlying170 tinfo_171 agg_171 Tryz.underlying171 tinfo_172 agg_172 Tryz.underlying172 tinfo_173 agg_173 Tryz.underlying173 tinfo_174 agg_174 Tryz.underlying174 tinfo_175 agg_175 Tryz.underlying175 tinfo_176 agg_176 Tryz.underlying176 tinfo_177 agg_177 Tryz.underlying177 tinfo_178 agg_178 Tryz.underlying178 tinfo_179 agg_179 Tryz.underlying179 tinfo_180 agg_180 Tryz.underlying180 tinfo_181 agg_181 Tryz.underlying181 tinfo_182 agg_182 Tryz.underlying182 tinfo_183 agg_183 Tryz.underlying183 tinfo_184 agg_184 Tryz.underlying184 tinfo_185 agg_185 Tryz.underlying185 tinfo_186 agg_186 Tryz.underlying186 tinfo_187 agg_187 Tryz.underlying187 tinfo_188 agg_188 Tryz.underlying188 tinfo_189 agg_189 Tryz.underlying189 tinfo_190 agg_190 Tryz.underlying190 tinfo_191 agg_191 Tryz.underlying191 tinfo_192 agg_192 Tryz.underlying192 tinfo_193 agg_193 Tryz.underlying193 tinfo_194 agg_194 Tryz.underlying194 tinfo_195 agg_195 Tryz.underlying195 tinfo_196 agg_196 Tryz.underlying196 tinfo_197 agg_197 Tryz.underlying197 tinfo_198 agg_198 Tryz.underlying198 tinfo_199 agg_199 Tryz.underlying199 tinfo_200 agg_200 Tryz.underlying200 places_7 field_7_0 field_7_1 field_7_2 field_7_3 places_8 field_8_0 field_8_1 field_8_2 field_8_3 places_13 field_13_0 field_13_1 places_14 field_14_0 field_14_1 places_18 field_18_0 places_19 field_19_0 places_26 field_26_0 field_26_1 places_27 field_27_0 field_27_1 places_28 field_28_0 field_28_1 field_28_2 field_28_3 field_28_4 field_28_5 field_28_6 field_28_7 field_28_8 places_29 field_29_0 field_29_1 field_29_2 field_29_3 field_29_4 field_29_5 field_29_6 field_29_7 field_29_8 places_43 field_43_0 field_43_1 field_43_2 field_43_3 places_44 field_44_0 field_44_1 field_44_2 field_44_3 places_65 field_65_0 field_65_1 field_65_2 field_65_3 field_65_4 field_65_5 field_65_6 field_65_7 field_65_8 field_65_9 field_65_10 field_65_11 field_65_12 field_65_13 places_66 field_66_0 field_66_1 field_66_2 field_66_3 field_66_4 field_66_5 field_66_6 field_66_7 field_66_8 field_66_9 field_66_10 field_66_11 field_66_12 field_66_13 places_82 field_82_0 field_82_1 field_82_2 places_83 field_83_0 field_83_1 field_83_2 places_91 field_91_0 field_91_1 field_91_2 places_92 field_92_0 field_92_1 field_92_2 places_119 places_120 field_120_0 field_120_1 field_120_2 field_120_3 places_121 field_121_0 field_121_1 field_121_2 field_121_3 places_146 field_146_0 field_146_1 places_147 field_147_0 field_147_1 places_185 field_185_0 field_185_1 field_185_2 field_185_3 places_186 field_186_0 field_186_1 field_186_2 field_186_3 places_187 places_188 field_188_0 places_189 field_189_0 places_198 field_198_0 field_198_1 field_198_2 field_198_3 field_198_4 field_198_5 field_198_6 field_198_7 field_198_8 field_198_9 field_198_10 places_199 field_199_0 field_199_1 field_199_2 field_199_3 field_199_4 field_199_5 field_199_6 field_199_7 field_199_8 field_199_9 field_199_10
end Go.AM
