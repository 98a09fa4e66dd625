/-
  The abstract machine: its operations as rules for 'simp only [go_sem]'.
-/
import Derived.Test.YtpmodjodfimejaaGreatg10
/-! ## AmP -/
namespace Go.AM
open Go.RowKit
theorem beqTF : (true == false) = false := rfl
theorem beqFT : (false == true) = false := rfl
theorem beqTT : (true == true) = true := rfl
theorem beqFF : (false == false) = true := rfl
attribute [go_sem] beqTF beqFT beqTT beqFF
theorem cast0 : ((0 : Nat) : Int) = 0 := rfl
theorem cast1 : ((1 : Nat) : Int) = 1 := rfl
attribute [go_sem] cast0 cast1 Int.cast_ofNat_Int
@[go_sem] theorem cast_lt_lit {a n : Nat} : ((a : Int) < (no_index (OfNat.ofNat n : Int))) = (a < (OfNat.ofNat n : Nat)) := propext Int.ofNat_lt
@[go_sem] theorem lit_lt_cast {a n : Nat} : ((no_index (OfNat.ofNat n : Int)) < (a : Int)) = ((OfNat.ofNat n : Nat) < a) := propext Int.ofNat_lt
@[go_sem] theorem cast_le_lit {a n : Nat} : ((a : Int) ≤ (no_index (OfNat.ofNat n : Int))) = (a ≤ (OfNat.ofNat n : Nat)) := propext Int.ofNat_le
@[go_sem] theorem lit_le_cast {a n : Nat} : ((no_index (OfNat.ofNat n : Int)) ≤ (a : Int)) = ((OfNat.ofNat n : Nat) ≤ a) := propext Int.ofNat_le
theorem cast_bne {a b : Nat} : ((a : Int) != (b : Int)) = decide (a ≠ b) := by
 by_cases h : a = b
 ·subst h; simp
 ·have : (a : Int) ≠ b := by omega
  rw [decide_eq_true h]; exact bne_iff_ne.2 this
theorem cast_beq {a b : Nat} : ((a : Int) == (b : Int)) = decide (a = b) := by
 by_cases h : a = b
 ·subst h; simp
 ·have : (a : Int) ≠ b := by omega
  rw [decide_eq_false h]; exact beq_eq_false_iff_ne.2 this
attribute [go_sem] cast_bne cast_beq
attribute [go_sem] Nat.reduceAdd Nat.reduceMul Nat.reduceEqDiff Nat.reduceLeDiff Nat.reduceLT Nat.reduceSub Nat.reduceDiv Nat.reduceBEq Int.reduceToNat Int.reduceLE Int.reduceLT Int.reduceAdd Int.reduceSub Int.reduceMul Int.reduceNeg if_true if_false Bool.false_eq_true decide_true decide_false Bool.and_true Bool.true_and Bool.and_false Bool.false_and Bool.or_true Bool.true_or Bool.or_false Bool.false_or Bool.not_true Bool.not_false and_true true_and not_true_eq_false not_false_eq_true ne_eq Option.isSome_some List.length_map List.length_cons List.length_nil List.getElem?_cons_zero List.getElem?_cons_succ List.map_cons List.map_nil Int.toNat_natCast Int.natCast_add List.append_nil Option.map_some Option.map_none List.size_toArray Int.natCast_nonneg Int.ofNat_lt Int.ofNat_le List.getElem?_map List.reverse_cons List.idxOf_cons beq_self_eq_true cond_true cond_false Nat.zero_le List.getElem?_toArray Option.bind_some Option.getD_some reduceCtorEq eq_self and_self false_and and_false List.all_cons List.all_nil bne_self_eq_false Int.reduceEq Int.reduceNe Int.reduceBNe Int.reduceBEq Nat.reduceBNe
section
variable {P : Program} {n : Nat} {t : List (Nat × AV)} {b : List (List AV)}
theorem root_small {t : Nat} (h : t < 1048576) : root t = t := Nat.mod_eq_of_lt h
theorem renT_small {ts : List Nat} {t : Nat} (h : t < 1048576) : renT ts t = 2 + ts.idxOf t := by unfold renT; rw [root_small h, Nat.div_eq_of_lt h]; rfl
theorem renT_sub {ts : List Nat} {t i : Nat} (h : t < 1048576) (h2 : 2 + ts.idxOf t < 1048576) : renT ts (subT t i) = subT (2 + ts.idxOf t) i := by
 have h1 := root_sub t i
 rw [root_small h] at h1
 unfold renT; rw [h1]
 unfold subT
 rw [Nat.mod_eq_of_lt h, Nat.div_eq_of_lt h, Nat.mod_eq_of_lt h2, Nat.div_eq_of_lt h2]; omega
theorem sub_lit {t i k : Nat} (h : k < 1048576) : (subT t i = k) = False := eq_false (fun e => by have := sub_big t i; omega)
theorem lit_sub {t i k : Nat} (h : k < 1048576) : (k = subT t i) = False := eq_false (fun e => by have := sub_big t i; omega)
theorem sub_sub {t i s j : Nat} : (subT t i = subT s j) = (t = s ∧ i = j) := propext ⟨sub_inj, fun ⟨h1, h2⟩ => by rw [h1, h2]⟩
theorem sub_two {t i : Nat} : (2 ≤ subT t i) = True := eq_true (by have := sub_big t i; omega)
theorem sub_lt2 {t i : Nat} : (subT t i < 2) = False := eq_false (by have := sub_big t i; omega)
attribute [go_sem] root_small root_sub renT_small renT_sub sub_lit lit_sub sub_sub sub_two sub_lt2
@[go_sem] theorem ev_tmp {s : Nat} : St.ev ⟨n, t, b⟩ (.tmp s) = lookT t s := rfl
@[go_sem] theorem ev_const {v : Value} : St.ev ⟨n, t, b⟩ (.const v) = ofLit v := rfl
@[go_sem] theorem ev_func {f : FuncId} : St.ev ⟨n, t, b⟩ (.func f) = .fn f [] := rfl
@[go_sem] theorem put_some {d : Nat} {x : AV} : St.put ⟨n, t, b⟩ (some d) x = ⟨n, putT t d x, b⟩ := rfl
@[go_sem] theorem put_none {x : AV} : St.put ⟨n, t, b⟩ none x = ⟨n, t, b⟩ := rfl
@[go_sem] theorem st_map {f : AV → AV} : St.map ⟨n, t, b⟩ f = ⟨n, mapT f t, mapB f b⟩ := rfl
@[go_sem] theorem st_free {d : Nat} : St.free ⟨n, t, b⟩ d = (decide (d < 16383) && (freeT d t && freeB d b)) := rfl
attribute [go_sem] putMap lookT putT mapT mapB mapTops AV.mapTop freeT freeB AV.allLeaf allLeafs freeLeaf killLeaf freezeLeaf viewLeaf AV.view shiftLeaf shiftTag AV.shift dstOk evAll evParts allFz fzLeaf AV.fz AV.one AV.cells AV.leafy isPtr isFn ptrAdd idxOk partOk leafAll storeLeaf updAt updElem setSeg fillA zeroOk lt64 flatLeaf memless AV.tags tagss argT tupA AV.canon renLeaf pbLt noTag guardSlot leT leC leB leafConst renRow killRow killS lt64c shiftRow viewRow freezeRow retagRow retagLeaf putLeaf storeRow rowOk AV.rowLike flatRow Nat.reduceMod Nat.mul_zero Nat.add_zero
@[go_sem] theorem ofLit_int {k : IntKind} {i : Int} : ofLit (.int k i) = .sc (.int k i) := rfl
@[go_sem] theorem ofLit_bool {v : Bool} : ofLit (.bool v) = .sc (.bool v) := rfl
@[go_sem] theorem ofLit_string {s : ByteArray} : ofLit (.string s) = .sc (.string s) := rfl
@[go_sem] theorem ofLit_nil : ofLit (.slice none 0 0) = .nil := rfl
@[go_sem] theorem ofLit_pointer : ofLit (.pointer none) = .sc (.pointer none) := rfl
@[go_sem] theorem ofLit_nilFunc : ofLit .nilFunc = .sc .nilFunc := rfl
@[go_sem] theorem ofLit_agg {cs : Array Value} : ofLit (.agg cs) = if (cs.toList.all fun u => u.oneCell') = true then .ag (cs.toList.map leafConst) else .any := rfl
@[go_sem] theorem ofConst_agg {cs : Array Value} : ofConst (.agg cs) = .ag (cs.toList.map leafConst) := rfl
@[go_sem] theorem ofConst_int {k : IntKind} {i : Int} : ofConst (.int k i) = .sc (.int k i) := rfl
@[go_sem] theorem ofConst_bool {v : Bool} : ofConst (.bool v) = .sc (.bool v) := rfl
@[go_sem] theorem ofConst_string {s : ByteArray} : ofConst (.string s) = .sc (.string s) := rfl
@[go_sem] theorem ofConst_nil : ofConst (.slice none 0 0) = .nil := rfl
@[go_sem] theorem leafConst_int {k : IntKind} {i : Int} : leafConst (.int k i) = .sc (.int k i) := rfl
@[go_sem] theorem leafConst_bool {v : Bool} : leafConst (.bool v) = .sc (.bool v) := rfl
@[go_sem] theorem leafConst_string {s : ByteArray} : leafConst (.string s) = .sc (.string s) := rfl
@[go_sem] theorem leafConst_nil : leafConst (.slice none 0 0) = .nil := rfl
@[go_sem] theorem oneCell_int {k : IntKind} {i : Int} : Value.oneCell' (.int k i) = true := rfl
@[go_sem] theorem oneCell_bool {v : Bool} : Value.oneCell' (.bool v) = true := rfl
@[go_sem] theorem oneCell_string {s : ByteArray} : Value.oneCell' (.string s) = true := rfl
@[go_sem] theorem oneCell_slice {a : Option Addr} {l c : Nat} : Value.oneCell' (.slice a l c) = true := rfl
@[go_sem] theorem oneCell_pointer {a : Option Addr} : Value.oneCell' (.pointer a) = true := rfl
@[go_sem] theorem cells_int {k : IntKind} {i : Int} : Value.cells (.int k i) = #[.int k i] := rfl
@[go_sem] theorem cells_bool {v : Bool} : Value.cells (.bool v) = #[.bool v] := rfl
@[go_sem] theorem cells_string {s : ByteArray} : Value.cells (.string s) = #[.string s] := rfl
@[go_sem] theorem cells_slice {a : Option Addr} {l c : Nat} : Value.cells (.slice a l c) = #[.slice a l c] := rfl
@[go_sem] theorem cells_agg {cs : Array Value} : Value.cells (.agg cs) = cs := rfl
@[go_sem] theorem typed_sc {d : Nat} {T : TypeId} {v : Value} : typed P d T (.sc v) = .sc v := rfl
@[go_sem] theorem typed_sl {d : Nat} {T : TypeId} {t es : Nat} {xs : List AV} : typed P d T (.sl t es xs) = .sl t es xs := rfl
@[go_sem] theorem typed_mp {d : Nat} {T : TypeId} {P' : Program} {t : Nat} {k e : TypeId} {D : DataW Unit} : typed P d T (.mp t P' k e D) = .mp t P' k e D := rfl
@[go_sem] theorem typed_tl {d : Nat} {T : TypeId} {t es i : Nat} {xs : List AV} : typed P d T (.tl t es xs i) = .tl t es xs i := rfl
@[go_sem] theorem typed_so {d : Nat} {T : TypeId} {t : Nat} {xs : List AV} : typed P d T (.so t xs) = .so t xs := rfl
@[go_sem] theorem typed_po {d : Nat} {T : TypeId} {t i : Nat} {xs : List AV} : typed P d T (.po t xs i) = .po t xs i := rfl
@[go_sem] theorem typed_ag {d : Nat} {T : TypeId} {xs : List AV} : typed P d T (.ag xs) = .ag xs := rfl
@[go_sem] theorem typed_tup {d : Nat} {T : TypeId} {xs : List AV} : typed P d T (.tup xs) = .tup xs := rfl
@[go_sem] theorem typed_pb {d : Nat} {T : TypeId} {i o : Nat} : typed P d T (.pb i o) = .pb i o := rfl
@[go_sem] theorem typed_pe {d : Nat} {T : TypeId} {t es i o : Nat} {xs : List AV} : typed P d T (.pe t es xs i o) = .pe t es xs i o := rfl
@[go_sem] theorem typed_fn {d : Nat} {T : TypeId} {f : FuncId} {xs : List AV} : typed P d T (.fn f xs) = .fn f xs := rfl
@[go_sem] theorem typed_fp {d : Nat} {T : TypeId} {xs : List AV} {o : Nat} : typed P d T (.fp xs o) = .fp xs o := rfl
@[go_sem] theorem typed_ub {d : Nat} {T : TypeId} : typed P d T .ub = .ub := rfl
@[go_sem] theorem typed_any {d : Nat} {T : TypeId} : typed P d T .any = .any := rfl
@[go_sem] theorem typed_nil {d : Nat} {T : TypeId} : typed P d T .nil = .nil := rfl
@[go_sem] theorem le_mk {n' : Nat} {t' : List (Nat × AV)} {b' : List (List AV)} : St.le ⟨n, t, b⟩ ⟨n', t', b'⟩ = (n' = n ∧ leT t t' ∧ leB b b') := rfl
@[go_sem] theorem leV_self {x : AV} : leV x x = True := eq_true (leV_refl x)
@[go_sem] theorem leV_toAny {x : AV} : leV x .any = True := eq_true (leV_any x)
@[go_sem] theorem leV_toNil {t es : Nat} : leV .nil (.sl t es []) = True := eq_true (leV_nil t es)
theorem leV_int {k : IntKind} {x y : Int} (h : x = y) : leV (.sc (.int k x)) (.sc (.int k y)) := h ▸ leV_refl _
@[go_sem] theorem evBinOp_sc {op : BinOp} {T : TypeId} {u v : Value} {K : AV → Prop} : evBinOp P op T (.sc u) (.sc v) K = evBin P op T u v fun r => K (.sc r) := rfl
def nilK (xs : List AV) (v : Bool) (K : AV → Prop) : Prop := (xs = [] → K .ub) ∧ (xs ≠ [] → K (.sc (.bool v)))
@[congr] theorem nilK_congr {xs xs' : List AV} {v : Bool} {K : AV → Prop} (h : mkd xs = xs') : nilK xs v K = nilK xs' v K := by subst_vars; rfl
@[go_sem] theorem nilK_cons {x : AV} {xs : List AV} {v : Bool} {K : AV → Prop} : nilK (x :: xs) v K = K (.sc (.bool v)) := by simp [nilK]
@[go_sem] theorem evBinOp_eql_nil {T : TypeId} {t es : Nat} {xs : List AV} {K : AV → Prop} : evBinOp P .eql T (.sl t es xs) .nil K = onSlice (P.underlying T) fun _ => nilK xs false K := by simp [evBinOp, onSlice, nilK]
def cellI (x y : Option AV) (K : Bool → Prop) : Prop := match x, y with
 | some (.sc (.int k a)), some (.sc (.int k' b)) => k = k' ∧ K (a == b)
 | _, _ => False
def cellB (x y : Option AV) (K : Bool → Prop) : Prop := match x, y with
 | some (.sc (.bool a)), some (.sc (.bool b)) => K (a == b)
 | _, _ => False
@[go_sem] theorem cellI_some {k k' : IntKind} {a b : Int} {K : Bool → Prop} : cellI (some (.sc (.int k a))) (some (.sc (.int k' b))) K = andK (k = k') (K (a == b)) := rfl
@[go_sem] theorem cellB_some {a b : Bool} {K : Bool → Prop} : cellB (some (.sc (.bool a))) (some (.sc (.bool b))) K = K (a == b) := rfl
@[go_sem] theorem eqCK_nil {xs ys : List AV} {K : Bool → Prop} : eqCK xs ys [] K = K true := rfl
@[go_sem] theorem eqCK_int {xs ys : List AV} {o : Nat} {r : List (Nat × Bool)} {K : Bool → Prop} : eqCK xs ys ((o, true) :: r) K = cellI xs[o]? ys[o]? fun c => eqCK xs ys r fun c' => K (c && c') := by
 rw [eqCK]
 generalize xs[o]? = x
 generalize ys[o]? = y
 unfold cellI
 split
 ·rfl
 ·rename_i h
  split
  ·exact (h _ _ _ _ rfl rfl).elim
  ·rfl
@[go_sem] theorem evBinOp_neq_ag {T : TypeId} {xs ys : List AV} {K : AV → Prop} : evBinOp P .neq T (.ag xs) (.ag ys) K = caseO (flatF P T) fun l => eqCK xs ys l fun c => K (.sc (.bool (!c))) := by simp [evBinOp, caseO]
section
variable {T : TypeId} {k k' : IntKind} {x y : Int} {K : Value → Prop}
@[go_sem] theorem evBin_add : evBin P .add T (.int k x) (.int k' y) K = andK (k = k') (K (.int k (k.wrap (x + y)))) := rfl
@[go_sem] theorem evBin_sub : evBin P .sub T (.int k x) (.int k' y) K = andK (k = k') (K (.int k (k.wrap (x - y)))) := rfl
@[go_sem] theorem evBin_mul : evBin P .mul T (.int k x) (.int k' y) K = andK (k = k') (K (.int k (k.wrap (x * y)))) := rfl
@[go_sem] theorem evBin_quo : evBin P .quo T (.int k x) (.int k' y) K = andK (k = k') (y ≠ 0 ∧ K (.int k (k.wrap (x.tdiv y)))) := rfl
@[go_sem] theorem evBin_rem : evBin P .rem T (.int k x) (.int k' y) K = andK (k = k') (y ≠ 0 ∧ K (.int k (x.tmod y))) := rfl
@[go_sem] theorem evBin_and : evBin P .and T (.int k x) (.int k' y) K = andK (k = k') (K (.int k (k.wrap (BitVec.ofInt k.bits x &&& BitVec.ofInt k.bits y).toNat))) := rfl
@[go_sem] theorem evBin_or : evBin P .or T (.int k x) (.int k' y) K = andK (k = k') (K (.int k (k.wrap (BitVec.ofInt k.bits x ||| BitVec.ofInt k.bits y).toNat))) := rfl
@[go_sem] theorem evBin_xor : evBin P .xor T (.int k x) (.int k' y) K = andK (k = k') (K (.int k (k.wrap (BitVec.ofInt k.bits x ^^^ BitVec.ofInt k.bits y).toNat))) := rfl
@[go_sem] theorem evBin_shl : evBin P .shl T (.int k x) (.int k' y) K = andK (0 ≤ y) (K (.int k (k.wrap (x * 2 ^ (min y.toNat k.bits))))) := rfl
@[go_sem] theorem evBin_shr : evBin P .shr T (.int k x) (.int k' y) K = andK (0 ≤ y) (K (.int k (x.fdiv (2 ^ (min y.toNat k.bits))))) := rfl
@[go_sem] theorem evBin_eql : evBin P .eql T (.int k x) (.int k' y) K = andK (k = k') (K (.bool (x == y))) := rfl
@[go_sem] theorem evBin_neq : evBin P .neq T (.int k x) (.int k' y) K = andK (k = k') (K (.bool (x != y))) := rfl
@[go_sem] theorem evBin_lss : evBin P .lss T (.int k x) (.int k' y) K = andK (k = k') (K (.bool (decide (x < y)))) := rfl
@[go_sem] theorem evBin_leq : evBin P .leq T (.int k x) (.int k' y) K = andK (k = k') (K (.bool (decide (x ≤ y)))) := rfl
@[go_sem] theorem evBin_gtr : evBin P .gtr T (.int k x) (.int k' y) K = andK (k = k') (K (.bool (decide (y < x)))) := rfl
@[go_sem] theorem evBin_geq : evBin P .geq T (.int k x) (.int k' y) K = andK (k = k') (K (.bool (decide (y ≤ x)))) := rfl
@[go_sem] theorem evBin_beql {u v : Bool} : evBin P .eql T (.bool u) (.bool v) K = andK (P.underlying T = some .bool) (K (.bool (u == v))) := rfl
@[go_sem] theorem evBin_bneq {u v : Bool} : evBin P .neq T (.bool u) (.bool v) K = andK (P.underlying T = some .bool) (K (.bool (!(u == v)))) := rfl
@[go_sem] theorem evBin_sadd {u v : ByteArray} : evBin P .add T (.string u) (.string v) K = (u.size + v.size ≤ 9223372036854775807 ∧ K (.string (u ++ v))) := rfl
@[go_sem] theorem evBin_seql {u v : ByteArray} : evBin P .eql T (.string u) (.string v) K = K (.bool (u.toList == v.toList)) := rfl
@[go_sem] theorem evBin_sneq {u v : ByteArray} : evBin P .neq T (.string u) (.string v) K = K (.bool (!(u.toList == v.toList))) := rfl
@[go_sem] theorem evBin_slss {u v : ByteArray} : evBin P .lss T (.string u) (.string v) K = K (.bool (Op.bytesLess u.toList v.toList)) := rfl
@[go_sem] theorem evBin_sleq {u v : ByteArray} : evBin P .leq T (.string u) (.string v) K = K (.bool (Op.bytesLess u.toList v.toList || u.toList == v.toList)) := rfl
@[go_sem] theorem evBin_sgtr {u v : ByteArray} : evBin P .gtr T (.string u) (.string v) K = K (.bool (!(Op.bytesLess u.toList v.toList || u.toList == v.toList))) := rfl
@[go_sem] theorem evBin_sgeq {u v : ByteArray} : evBin P .geq T (.string u) (.string v) K = K (.bool (!(Op.bytesLess u.toList v.toList))) := rfl
end
section
variable {T : TypeId} {K : AV → Prop}
@[go_sem] theorem evPart_eq {cs : List AV} {o : Nat} : evPart P T cs o K = caseO (aggT P T) fun a => onB a (caseO (tinfo P T) fun q => andK (o + q.1 ≤ cs.length) (K (.ag ((cs.drop o).take q.1)))) (caseO cs[o]? K) := by
 unfold evPart caseO onB andK
 cases aggT P T with
 | none => simp
 | some a => cases a with
  | false => simp
  | true => cases tinfo P T <;> simp
@[go_sem] theorem evLoad_pe {bx : List (List AV)} {t es i o : Nat} {xs : List AV} : evLoad P bx T (.pe t es xs i o) K = caseO xs[i]? fun x => evPart P T x.cells o K := by
 cases h : xs[i]? <;> simp [evLoad, cellsAt, h, caseO, evPart]
@[go_sem] theorem evLoad_pb {bx : List (List AV)} {i o : Nat} : evLoad P bx T (.pb i o) K = caseO bx[i]? fun cs => evPart P T cs o K := by
 cases h : bx[i]? <;> simp [evLoad, cellsAt, h, caseO, evPart]
@[go_sem] theorem evLoad_fp {bx : List (List AV)} {cs : List AV} {o : Nat} : evLoad P bx T (.fp cs o) K = evPart P T cs o K := rfl
@[go_sem] theorem evLoad_po {bx : List (List AV)} {t i : Nat} {xs : List AV} : evLoad P bx T (.po t xs i) K = caseO xs[i]? fun x => evPart P T [x] 0 K := by
 cases h : xs[i]? <;> simp [evLoad, cellsAt, h, caseO, evPart]
@[go_sem] theorem evIndexAddr_so {t : Nat} {xs : List AV} {k : IntKind} {i : Int} : evIndexAddr P T (.so t xs) (.sc (.int k i)) K =
  onSlice (P.underlying T) fun E => caseO (tinfo P E) fun q => (q.1 = 1 ∧ 0 ≤ i ∧ i < xs.length ∧ K (.po t xs i.toNat)) := by
 unfold evIndexAddr onSlice caseO
 cases hU : P.underlying T with
 | none => simp
 | some D =>
  cases D <;> simp [isPtr]
  constructor
  ·rintro ⟨⟨a, b, h1⟩, h3⟩; exact ⟨1, ⟨a, b, h1⟩, rfl, h3⟩
  ·rintro ⟨_, ⟨a, b, h1⟩, rfl, h3⟩; exact ⟨⟨a, b, h1⟩, h3⟩
@[go_sem] theorem evIndexAddr_sl {t es : Nat} {xs : List AV} {k : IntKind} {i : Int} : evIndexAddr P T (.sl t es xs) (.sc (.int k i)) K =
  onSlice (P.underlying T) fun E => caseO (tinfo P E) fun q => andK (q.1 = es) (0 ≤ i ∧ i < xs.length ∧ K (.pe t es xs i.toNat 0)) := by
 unfold evIndexAddr onSlice caseO andK
 apply propext
 constructor
 ·intro h
  generalize hu : P.underlying T = u at h
  match u, hu, h with
  | none, _, h => exact h.elim
  | some d, hu, h =>
   cases d with
   | slice E => obtain ⟨⟨q, hq, h1⟩, h2⟩ := h; exact ⟨E, rfl, q, hq, h1, h2⟩
   | array len E => exact absurd h.1 (by simp [isPtr])
   | _ => exact h.elim
 ·rintro ⟨E, hT, q, hq, h1, h2⟩
  simp only [hT]
  exact ⟨⟨q, hq, h1⟩, h2⟩
theorem evIndexAddr_arr {x : AV} {k : IntKind} {i : Int} (hx : isPtr x = true) : evIndexAddr P T x (.sc (.int k i)) K =
  onArray (P.underlying T) fun len E => caseO (tinfo P E) fun q => (0 ≤ i ∧ i < len ∧ K (ptrAdd x (i.toNat * q.1))) := by
 cases x <;> simp only [isPtr, Bool.false_eq_true] at hx
 all_goals
  unfold evIndexAddr onArray caseO
  apply propext
  constructor
  ·intro h
   generalize hu : P.underlying T = u at h
   match u, hu, h with
   | none, _, h => exact h.elim
   | some d, hu, h =>
    cases d with
    | array len E => obtain ⟨_, h1, h2, q, hq, h3⟩ := h; exact ⟨len, E, rfl, q, hq, h1, h2, h3⟩
    | _ => exact h.elim
  ·rintro ⟨len, E, hT, q, hq, h1, h2, h3⟩
   simp only [hT]
   exact ⟨rfl, h1, h2, q, hq, h3⟩
@[go_sem] theorem evIndexAddr_pb {j o : Nat} {k : IntKind} {i : Int} : evIndexAddr P T (.pb j o) (.sc (.int k i)) K = onArray (P.underlying T) fun len E => caseO (tinfo P E) fun q => (0 ≤ i ∧ i < len ∧ K (ptrAdd (.pb j o) (i.toNat * q.1))) := evIndexAddr_arr rfl
@[go_sem] theorem evIndexAddr_pe {t es j o : Nat} {xs : List AV} {k : IntKind} {i : Int} : evIndexAddr P T (.pe t es xs j o) (.sc (.int k i)) K = onArray (P.underlying T) fun len E => caseO (tinfo P E) fun q => (0 ≤ i ∧ i < len ∧ K (ptrAdd (.pe t es xs j o) (i.toNat * q.1))) := evIndexAddr_arr rfl
@[go_sem] theorem evFieldAddr_eq {x : AV} {f : Nat} : evFieldAddr P T x f K = andK (isPtr x = true) (caseO (fieldOf P T f) fun p => caseO (tinfo P p.2) fun q => andK (q.1 ≠ 0) (K (ptrAdd x p.1))) := by
 unfold evFieldAddr andK caseO
 apply propext
 constructor
 ·rintro ⟨h1, p, h2, ⟨q, h3, h4⟩, h5⟩; exact ⟨h1, p, h2, q, h3, h4, h5⟩
 ·rintro ⟨h1, p, h2, q, h3, h4, h5⟩; exact ⟨h1, p, h2, ⟨q, h3, h4⟩, h5⟩
@[go_sem] theorem evField_ag {cs : List AV} {f : Nat} : evField P T (.ag cs) f K = caseO (fieldOf P T f) fun p => evPart P p.2 cs p.1 K := rfl
def isString (d : Option TypeDesc) : Bool := match d with | some .string => true | _ => false
@[go_sem] theorem isString_some : isString (some .string) = true := rfl
@[go_sem] theorem evIndex_str {s : ByteArray} {k : IntKind} {i : Int} : evIndex P T (.sc (.string s)) (.sc (.int k i)) K = andK (isString (P.underlying T) = true) (0 ≤ i ∧ caseO s[i.toNat]? fun c => K (.sc (.int .u8 c.toNat))) := by
 unfold evIndex andK caseO isString
 apply propext
 constructor
 ·intro h
  simp only at h
  split at h
  ·rename_i hx; cases hx
  ·rename_i s' hT hx; cases hx; exact ⟨by rw [hT], h⟩
  ·exact h.elim
 ·rintro ⟨hT, h⟩
  split at hT
  ·rename_i hT'; simp only [hT']; exact h
  ·cases hT
@[go_sem] theorem evExtract_tup {xs : List AV} {i : Nat} : evExtract (.tup xs) i K = caseO xs[i]? K := rfl
@[go_sem] theorem evUn_not {v : Bool} : evUn .not (.sc (.bool v)) K = K (.sc (.bool (!v))) := rfl
@[go_sem] theorem evUn_not_ub : evUn .not .ub K = K .ub := rfl
@[go_sem] theorem evUn_neg {k : IntKind} {i : Int} : evUn .neg (.sc (.int k i)) K = K (.sc (.int k (k.wrap (0 - i)))) := rfl
def onInt (d : Option TypeDesc) (k : IntKind → Prop) : Prop := ∃ i, d = some (.int i) ∧ k i
@[congr] theorem onInt_congr {d d' : Option TypeDesc} {k : IntKind → Prop} (h : mkd d = d') : onInt d k = onInt d' k := by subst_vars; rfl
@[go_sem] theorem onInt_some (i : IntKind) (k : IntKind → Prop) : onInt (some (.int i)) k = k i := by simp [onInt]
@[go_sem] theorem evConv_int {s s' : TypeId} {k : IntKind} {i : Int} : evConv P s s' (.sc (.int k i)) K = onInt (P.underlying s) fun _ => onInt (P.underlying s') fun k' => K (.sc (.int k' (k'.wrap i))) := by
 unfold evConv onInt
 apply propext
 constructor
 ·intro h
  split at h
  ·rename_i h1 h2 hx; cases hx; exact ⟨_, h1, _, h2, h⟩
  ·rename_i hx; cases hx
  ·rename_i hx; cases hx
  ·exact h.elim
 ·rintro ⟨_, h1, _, h2, h⟩
  simp only [h1, h2]; exact h
@[go_sem] theorem evConv_bytes {s s' : TypeId} {t : Nat} {xs : List AV} : evConv P s s' (.sl t 1 xs) K = onSlice (P.underlying s) fun E => onInt (P.underlying E) fun k => andK (k = .u8) (andK (isString (P.underlying s') = true) (xs ≠ [] ∧ caseO (bytesOf xs) fun ns => K (.sc (.string (strOf ns))))) := by
 unfold evConv onSlice onInt andK isString caseO
 apply propext
 constructor
 ·intro h
  split at h
  ·rename_i hx; cases hx
  ·rename_i hx; cases hx
  ·rename_i e t' xs' h1 h2 hx
   cases hx
   exact ⟨e, h1, .u8, h.1, rfl, by rw [h2], h.2.1, h.2.2⟩
  ·exact h.elim
 ·rintro ⟨e, h1, k, h2, rfl, h3, h4, h5⟩
  have h6 : P.underlying s' = some .string := by
   split at h3
   ·assumption
   ·cases h3
  simp only [h1, h6]
  exact ⟨h2, h4, h5⟩
@[go_sem] theorem evLen_sl {t es : Nat} {xs : List AV} : evLen P T (.sl t es xs) K = onSlice (P.underlying T) fun _ => K (.sc (.int .i64 xs.length)) := by
 unfold evLen onSlice
 cases hU : P.underlying T with
 | none => simp
 | some D => cases D <;> simp
@[go_sem] theorem evLen_nil : evLen P T .nil K = onSlice (P.underlying T) fun _ => K (.sc (.int .i64 0)) := by
 unfold evLen onSlice
 cases hU : P.underlying T with
 | none => simp
 | some D => cases D <;> simp
@[go_sem] theorem evLen_str {s : ByteArray} : evLen P T (.sc (.string s)) K = andK (isString (P.underlying T) = true) (K (.sc (.int .i64 s.size))) := by
 unfold evLen andK isString
 cases hU : P.underlying T with
 | none => simp
 | some D => cases D <;> simp
@[go_sem] theorem evMax_int {k k' : IntKind} {x y : Int} : evMax (.sc (.int k x)) (.sc (.int k' y)) K = K (.sc (.int k (max x y))) := rfl
@[go_sem] theorem evMin_int {k k' : IntKind} {x y : Int} : evMin (.sc (.int k x)) (.sc (.int k' y)) K = K (.sc (.int k (min x y))) := rfl
@[go_sem] theorem evBound_none {n : Nat} {K : Nat → Prop} : evBound none n K = K n := rfl
@[go_sem] theorem evBound_int {n : Nat} {k : IntKind} {i : Int} {K : Nat → Prop} : evBound (some (.sc (.int k i))) n K = (0 ≤ i ∧ K i.toNat) := rfl
@[go_sem] theorem evSlice_sl {t es : Nat} {xs : List AV} {lo hi : Option AV} : evSlice P T (.sl t es xs) lo hi none K = onSlice (P.underlying T) fun E => caseO (tinfo P E) fun q => andK (q.1 = es) (onB (decide (t < 2))
  (evBound hi xs.length fun h => evBound lo 0 fun l => (l ≤ h ∧ h ≤ xs.length ∧ K (.sl 0 es ((xs.take h).drop l))))
  (onB (hi.isNone && lo.isSome) (evBound lo 0 fun l => (l < xs.length ∧ K (.tl t es xs l)))
  (evBound hi xs.length fun h => evBound lo 0 fun l => (l = 0 ∧ h ≤ xs.length ∧ K (.sl t es (xs.take h)))))) := by
 unfold evSlice onSlice caseO andK onB
 apply propext
 constructor
 ·intro h
  split at h
  ·rename_i E t' es' xs' hT hx; cases hx
   obtain ⟨⟨q, hq, h1⟩, h2⟩ := h; exact ⟨E, hT, q, hq, h1, by by_cases ht : t < 2 <;> by_cases hb : (hi.isNone && lo.isSome) = true <;> simp [ht, hb] at h2 ⊢ <;> exact h2⟩
  ·rename_i hx; cases hx
  ·rename_i hx; cases hx
  ·rename_i hx; cases hx
  ·exact h.elim
 ·rintro ⟨E, hT, q, hq, h1, h2⟩
  simp only [hT]; exact ⟨⟨q, hq, h1⟩, by by_cases ht : t < 2 <;> by_cases hb : (hi.isNone && lo.isSome) = true <;> simp [ht, hb] at h2 ⊢ <;> exact h2⟩
@[go_sem] theorem isSomeA_some {x : AV} : (some x).isSome = true := rfl
@[go_sem] theorem isSomeA_none : (none : Option AV).isSome = false := rfl
@[go_sem] theorem isNoneA_some {x : AV} : (some x).isNone = false := rfl
@[go_sem] theorem isNoneA_none : (none : Option AV).isNone = true := rfl
@[go_sem] theorem evSlice_nil {lo hi : Option AV} : evSlice P T .nil lo hi none K = onSlice (P.underlying T) fun E => andK ((tinfo P E).isSome = true) (evBound hi 0 fun h => evBound lo 0 fun l => (l = 0 ∧ h = 0 ∧ K .nil)) := by
 unfold evSlice onSlice andK
 apply propext
 constructor
 ·intro h
  split at h
  ·rename_i hx; cases hx
  ·rename_i hx; cases hx
  ·rename_i E hT _; obtain ⟨_, ⟨q, hq⟩, h⟩ := h; exact ⟨E, hT, by simp [hq], h⟩
  ·rename_i hx; cases hx
  ·exact h.elim
 ·rintro ⟨E, hT, hq, h⟩
  simp only [hT]
  obtain ⟨q, hq⟩ := Option.isSome_iff_exists.1 hq
  exact ⟨by simp, ⟨q, hq⟩, h⟩
@[go_sem] theorem evCap_nil : evCap P T .nil K = onSlice (P.underlying T) fun _ => K (.sc (.int .i64 0)) := by
 unfold evCap onSlice
 apply propext
 constructor
 ·intro h
  split at h
  ·rename_i hx; cases hx
  ·rename_i hT _; exact ⟨_, hT, h⟩
  ·exact h.elim
 ·rintro ⟨_, h1, h⟩
  simp only [h1]; exact h
def allPart (es : Nat) : List (Nat × AV) → Bool
 | [] => true
 | p :: r => partOk es p.2 && allPart es r
theorem allPart_eq (es : Nat) : ∀ l, allPart es l = l.all fun p => partOk es p.2
 | [] => rfl
 | p :: r => by simp [allPart, allPart_eq es r]
attribute [go_sem] allPart
@[go_sem] theorem evBuildSlice_eq {d : Nat} {len : Nat} {ps : List (Nat × AV)} : evBuildSlice P d T len ps K = onSlice (P.underlying T) fun E => caseO (tinfo P E) fun q => andK (0 < q.1 ∧ q.2.2.isSome = true ∧ len * q.1 ≤ 16777216 ∧ ps.length = len ∧ idxOk 0 ps = true) (andK (allPart q.1 ps = true) (K (.sl (64 * (d + 1)) q.1 (ps.map (·.2))))) := by
 unfold evBuildSlice onSlice caseO andK
 simp only [allPart_eq]
 apply propext
 constructor
 ·intro h
  split at h
  ·rename_i E hT; obtain ⟨q, h1, h2, h3, h4, h5, h6, h7, h8⟩ := h; exact ⟨E, hT, q, h1, ⟨h2, h3, h4, h5, h6⟩, h7, h8⟩
  ·exact h.elim
 ·rintro ⟨E, hT, q, h1, ⟨h2, h3, h4, h5, h6⟩, h7, h8⟩
  simp only [hT]; exact ⟨q, h1, h2, h3, h4, h5, h6, h7, h8⟩
@[go_sem] theorem evMake_int {d : Nat} {k k' : IntKind} {l c : Int} : evMake P d T (.sc (.int k l)) (.sc (.int k' c)) K = onSlice (P.underlying T) fun E => caseO (tinfo P E) fun q => caseO q.2.2 fun z => andK (0 < q.1 ∧ zeroOk q.1 z = true) (0 ≤ l ∧ l ≤ c ∧ (q.2.1 : Int) * c ≤ 281474976710656 ∧ c ≤ 9223372036854775807 ∧ K (.sl (64 * (d + 1)) q.1 (List.replicate l.toNat (ofConst z)))) := by
 unfold evMake onSlice caseO andK
 apply propext
 constructor
 ·intro h
  split at h
  ·rename_i E _ _ _ _ hT hx hy; cases hx; cases hy
   obtain ⟨q, h1, h2, h3, h4, h5, h6, z, h7, h8, h9⟩ := h; exact ⟨E, hT, q, h1, z, h7, ⟨h2, h8⟩, h3, h4, h5, h6, h9⟩
  ·exact h.elim
 ·rintro ⟨E, hT, q, h1, z, h7, ⟨h2, h8⟩, h3, h4, h5, h6, h9⟩
  simp only [hT]; exact ⟨q, h1, h2, h3, h4, h5, h6, z, h7, h8, h9⟩
@[go_sem] theorem evBuild_eq {ps : List (Nat × AV)} : evBuild P T ps K = caseO (tinfo P T) fun q => caseO (placesOf P T) fun places => caseO q.2.2 fun z => andK ((z.cells.toList.all fun u => u.oneCell') = true) (caseO (fillA (fun i => places[i]?) (ofConst z).cells ps) fun r => K (.ag r)) := by
 unfold evBuild caseO andK
 apply propext
 constructor
 ·rintro ⟨q, places, z, r, h1, h2, h3, h4, h5, h6⟩; exact ⟨q, h1, places, h2, z, h3, h4, r, h5, h6⟩
 ·rintro ⟨q, h1, places, h2, z, h3, h4, r, h5, h6⟩; exact ⟨q, places, z, r, h1, h2, h3, h4, h5, h6⟩
end
section
variable {T T' : TypeId} {d : Nat} {K : St → Prop} {σ : St}
@[go_sem] theorem evAppend_sl {t es : Nat} {xs : List AV} {y : AV} : evAppend P T T' d σ (.sl t es xs) y K = onB (decide (2 ≤ t)) (evAppendOwn P T T' (.sl t es xs) y fun t r => K ((σ.map (killLeaf t)).put (some d) r)) (andK (σ.free d = true) (evAppendX P d T T' (.sl t es xs) y fun r => K (σ.put (some d) r))) := by
 unfold evAppend onB andK
 by_cases h : 2 ≤ t <;> simp [h]
@[go_sem] theorem evAppend_nil {y : AV} : evAppend P T T' d σ .nil y K = andK (σ.free d = true) (evAppendX P d T T' .nil y fun r => K (σ.put (some d) r)) := rfl
@[go_sem] theorem evAppend_tl {t es i : Nat} {xs : List AV} {y : AV} : evAppend P T T' d σ (.tl t es xs i) y K = evAppendTl P T T' (.tl t es xs i) y fun t r1 r2 => K ((σ.map (killLeaf t)).put (some d) r1) ∧ K ((σ.map (killLeaf t)).put (some d) r2) := rfl
@[go_sem] theorem evAppend_so {t : Nat} {xs : List AV} {y : AV} : evAppend P T T' d σ (.so t xs) y K = evAppSo P T T' d σ t xs y K := rfl
@[go_sem] theorem evAppendX_sl {x : AV} {t es : Nat} {xs : List AV} {K : AV → Prop} : evAppendX P d T T' x (.sl t es xs) K = evAppendNew P d T T' x (.sl t es xs) K := rfl
@[go_sem] theorem evAppendX_nil {x : AV} {K : AV → Prop} : evAppendX P d T T' x .nil K = evAppendNew P d T T' x .nil K := rfl
@[go_sem] theorem evAppendX_int {x : AV} {k : IntKind} {n : Int} {K : AV → Prop} : evAppendX P d T T' x (.sc (.int k n)) K = evAppendZ P d T T' x n K := rfl
@[go_sem] theorem evAppendZ_nil {n : Int} {K : AV → Prop} : evAppendZ P d T T' .nil n K = onSlice (P.underlying T) fun E => onInt (P.underlying T') fun _ => caseO (tinfo P E) fun q => caseO q.2.2 fun z => andK (0 < q.1 ∧ zeroOk q.1 z = true) (0 < n ∧ n.toNat * q.2.1 ≤ 140737488355328 ∧ n ≤ 9223372036854775807 ∧ K (.sl (64 * (d + 1)) q.1 (List.replicate n.toNat (ofConst z)))) := by
 unfold evAppendZ onSlice onInt caseO andK
 apply propext
 constructor
 ·intro h
  split at h
  ·rename_i E k hT hT' _
   obtain ⟨q, h1, h2, h3, h4, h5, z, h6, h7, h8⟩ := h; exact ⟨E, hT, k, hT', q, h1, z, h6, ⟨h2, h7⟩, h3, h4, h5, h8⟩
  ·exact h.elim
 ·rintro ⟨E, hT, k, hT', q, h1, z, h6, ⟨h2, h7⟩, h3, h4, h5, h8⟩
  simp only [hT, hT']; exact ⟨q, h1, h2, h3, h4, h5, z, h6, h7, h8⟩
@[go_sem] theorem evAppendOwn_sl {t es t' es' : Nat} {xs ys : List AV} {K : Nat → AV → Prop} : evAppendOwn P T T' (.sl t es xs) (.sl t' es' ys) K = onSlice (P.underlying T) fun E => andK (T' = T) (caseO (tinfo P E) fun q => caseO q.2.2 fun z => andK (0 < q.1 ∧ z.cells.size = q.1 ∧ 2 ≤ t ∧ t' ≠ t ∧ es = q.1 ∧ es' = q.1) (roomFor (xs.length + ys.length) q.2.1 ∧ K t (.sl t es (xs ++ ys)))) := by
 unfold evAppendOwn onSlice caseO andK
 apply propext
 constructor
 ·intro h
  split at h
  ·rename_i E hT
   obtain ⟨h0, q, h1, h2, ⟨z, h3, h4⟩, h5, h6, h7, h8, h9, h10⟩ := h
   exact ⟨E, hT, h0, q, h1, z, h3, ⟨h2, h4, h5, h6, h7, h8⟩, h9, h10⟩
  ·exact h.elim
 ·rintro ⟨E, hT, h0, q, h1, z, h3, ⟨h2, h4, h5, h6, h7, h8⟩, h9, h10⟩
  simp only [hT]; exact ⟨h0, q, h1, h2, ⟨z, h3, h4⟩, h5, h6, h7, h8, h9, h10⟩
@[go_sem] theorem evAppendNew_nil_sl {t es : Nat} {ys : List AV} {K : AV → Prop} : evAppendNew P d T T' .nil (.sl t es ys) K = onSlice (P.underlying T) fun E => andK (T' = T) (caseO (tinfo P E) fun q => caseO q.2.2 fun z => andK (0 < q.1 ∧ z.cells.size = q.1 ∧ es = q.1) (roomFor ys.length q.2.1 ∧ K (.sl (64 * (d + 1)) es ys))) := by
 unfold evAppendNew onSlice caseO andK
 apply propext
 constructor
 ·intro h
  split at h
  ·rename_i E hT
   obtain ⟨h0, q, h1, h2, ⟨z, h3, h4⟩, h5, h6, h7⟩ := h
   exact ⟨E, hT, h0, q, h1, z, h3, ⟨h2, h4, h5⟩, h6, h7⟩
  ·exact h.elim
 ·rintro ⟨E, hT, h0, q, h1, z, h3, ⟨h2, h4, h5⟩, h6, h7⟩
  simp only [hT]; exact ⟨h0, q, h1, h2, ⟨z, h3, h4⟩, h5, h6, h7⟩
@[go_sem] theorem evStore_pb {i o : Nat} {x : AV} {n : Nat} {t : List (Nat × AV)} {b : List (List AV)} : evStore P T ⟨n, t, b⟩ (.pb i o) x K = caseO b[i]? fun cs => caseO (tinfo P T) fun q => andK (x.cells.length = q.1 ∧ x.one = true ∧ o + q.1 ≤ cs.length) (K ⟨n, t, b.set i (setSeg cs o x.cells)⟩) := by
 unfold evStore caseO andK
 apply propext
 constructor
 ·rintro ⟨cs, q, h1, h2, h3, h4, h5, h6⟩; exact ⟨cs, h1, q, h2, ⟨h3, h4, h5⟩, h6⟩
 ·rintro ⟨cs, h1, q, h2, ⟨h3, h4, h5⟩, h6⟩; exact ⟨cs, q, h1, h2, h3, h4, h5, h6⟩
@[go_sem] theorem evStore_pe {t es i o : Nat} {xs : List AV} {x : AV} : evStore P T σ (.pe t es xs i o) x K = caseO (tinfo P T) fun q => andK (2 ≤ t ∧ x.cells.length = q.1 ∧ 0 < q.1 ∧ o + q.1 ≤ es ∧ x.fz = true ∧ x.one = true ∧ leafAll x.cells = true) (K (σ.map (storeLeaf t es i o x.cells))) := by
 unfold evStore caseO andK
 apply propext
 constructor
 ·rintro ⟨h0, q, h1, h2, h3, h4, h5, h6, h7, h8⟩; exact ⟨q, h1, ⟨h0, h2, h3, h4, h5, h6, h7⟩, h8⟩
 ·rintro ⟨q, h1, ⟨h0, h2, h3, h4, h5, h6, h7⟩, h8⟩; exact ⟨h0, q, h1, h2, h3, h4, h5, h6, h7, h8⟩
@[go_sem] theorem evStore_po {t i : Nat} {xs : List AV} {x : AV} : evStore P T σ (.po t xs i) x K = caseO (tinfo P T) fun q => andK (q.1 = 1 ∧ x.one = true ∧ rowOk t x = true) (K (σ.map (putLeaf t i x))) := by
 unfold evStore caseO andK
 apply propext
 constructor
 ·rintro ⟨q, h1, h2, h3, h4, h5⟩; exact ⟨q, h1, ⟨h2, h3, h4⟩, h5⟩
 ·rintro ⟨q, h1, ⟨h2, h3, h4⟩, h5⟩; exact ⟨q, h1, h2, h3, h4, h5⟩
attribute [go_sem] evAlloc
end
@[go_sem] theorem resK_nil {K : List AV → Prop} : resK P ⟨n, t, b⟩ [] K = K [] := rfl
@[go_sem] theorem resK_tmp {s : Nat} {r : List ResultVar} {K : List AV → Prop} : resK P ⟨n, t, b⟩ (.tmp s :: r) K = resK P ⟨n, t, b⟩ r fun l => K (lookT t s :: l) := rfl
@[go_sem] theorem resK_cell {s : Nat} {T : TypeId} {r : List ResultVar} {K : List AV → Prop} : resK P ⟨n, t, b⟩ (.cell s T :: r) K = evLoad P b T (lookT t s) fun x => resK P ⟨n, t, b⟩ r fun l => K (x :: l) := rfl
def finK (m : Nat) (post : AV → List (List AV) → Prop) (b : List (List AV)) (l : List AV) : Prop :=
 m ≤ b.length ∧ (tupA l).allLeaf (pbLt m) = true ∧ (tupA l).tags.length < 1000 ∧ ((b.take m).all fun cs => cs.all fun x => x.allLeaf fun y => noTag y && pbLt m y) = true ∧ post (tupA l).canon (b.take m)
@[congr] theorem finK_congr {m : Nat} {post : AV → List (List AV) → Prop} {b b' : List (List AV)} {l l' : List AV} (h : mkd b = b') (h1 : l = l') : finK m post b l = finK m post b' l' := by subst_vars; rfl
@[go_sem] theorem endK_eq {rs : List ResultVar} {m : Nat} {post : AV → List (List AV) → Prop} : endK P rs m post ⟨n, t, b⟩ = resK P ⟨n, t, b⟩ rs (finK m post b) := rfl
def allNoTag (m : Nat) : List (List AV) → Bool
 | [] => true
 | cs :: r => allLeafs (fun y => noTag y && pbLt m y) cs && allNoTag m r
theorem allLeafs_all (q : AV → Bool) : ∀ cs : List AV, (cs.all fun x => x.allLeaf q) = allLeafs q cs
 | [] => rfl
 | x :: r => by simp [allLeafs, allLeafs_all q r]
theorem allNoTag_eq (m : Nat) : ∀ b : List (List AV), (b.all fun cs => cs.all fun x => x.allLeaf fun y => noTag y && pbLt m y) = allNoTag m b
 | [] => rfl
 | cs :: r => by rw [List.all_cons, allLeafs_all, allNoTag_eq m r]; rfl
@[go_sem] theorem finK_one {m : Nat} {post : AV → List (List AV) → Prop} {x : AV} : finK m post b [x] = andK (m ≤ b.length) (andK (x.allLeaf (pbLt m) = true) (andK (x.tags.length < 1000) (andK (allNoTag m (b.take m) = true) (post x.canon (b.take m))))) := by
 simp only [finK, allNoTag_eq, andK, tupA]
@[go_sem] theorem finK_two {m : Nat} {post : AV → List (List AV) → Prop} {x y : AV} {l : List AV} : finK m post b (x :: y :: l) = andK (m ≤ b.length) (andK (allLeafs (pbLt m) (x :: y :: l) = true) (andK ((tagss (x :: y :: l)).length < 1000) (andK (allNoTag m (b.take m) = true) (post (AV.tup (x :: y :: l)).canon (b.take m))))) := by
 simp only [finK, allNoTag_eq, andK, tupA, AV.allLeaf, AV.tags]
def finW (post : AV → List AV → Prop) (b : List (List AV)) (l : List AV) : Prop :=
 ∃ ys rest, b = ys :: rest ∧ allLeafs (pbLt 0) (tupA l :: ys) = true ∧ (tagss (tupA l :: ys)).length < 1000 ∧ post ((tupA l).mapTop (renLeaf (tagss (tupA l :: ys)))) (mapTops (renLeaf (tagss (tupA l :: ys))) ys)
@[congr] theorem finW_congr {post : AV → List AV → Prop} {b b' : List (List AV)} {l l' : List AV} (h : mkd b = b') (h1 : l = l') : finW post b l = finW post b' l' := by subst_vars; rfl
@[go_sem] theorem endQW_normal {rs : List ResultVar} {post : AV → List AV → Prop} {σ : St} : endQW P rs post .normal σ = endW P rs post σ := rfl
@[go_sem] theorem endQW_ret {rs : List ResultVar} {post : AV → List AV → Prop} {σ : St} : endQW P rs post .ret σ = endW P rs post σ := rfl
@[go_sem] theorem endW_eq {rs : List ResultVar} {post : AV → List AV → Prop} : endW P rs post ⟨n, t, b⟩ = resK P ⟨n, t, b⟩ rs (finW post b) := rfl
def finX (m : Nat) (post : AV → List (List AV) → Prop) (b : List (List AV)) (l : List AV) : Prop :=
 m ≤ b.length ∧ allLeafs (pbLt m) (tupA l :: catB (b.take m)) = true ∧ (tagss (tupA l :: catB (b.take m))).length < 1000 ∧
  post ((tupA l).mapTop (renLeaf (tagss (tupA l :: catB (b.take m))))) (mapB (renLeaf (tagss (tupA l :: catB (b.take m)))) (b.take m))
@[congr] theorem finX_congr {m : Nat} {post : AV → List (List AV) → Prop} {b b' : List (List AV)} {l l' : List AV} (h : mkd b = b') (h1 : l = l') : finX m post b l = finX m post b' l' := by subst_vars; rfl
@[go_sem] theorem endQX_normal {rs : List ResultVar} {m : Nat} {post : AV → List (List AV) → Prop} {σ : St} : endQX P rs m post .normal σ = endX P rs m post σ := rfl
@[go_sem] theorem endQX_ret {rs : List ResultVar} {m : Nat} {post : AV → List (List AV) → Prop} {σ : St} : endQX P rs m post .ret σ = endX P rs m post σ := rfl
@[go_sem] theorem endX_eq {rs : List ResultVar} {m : Nat} {post : AV → List (List AV) → Prop} : endX P rs m post ⟨n, t, b⟩ = resK P ⟨n, t, b⟩ rs (finX m post b) := rfl
@[go_sem] theorem finX_cons {m : Nat} {post : AV → List (List AV) → Prop} {c : List AV} {b : List (List AV)} {l : List AV} : finX m post (c :: b) l = andK (m ≤ (c :: b).length) (andK (allLeafs (pbLt m) (tupA l :: catB ((c :: b).take m)) = true) (andK ((tagss (tupA l :: catB ((c :: b).take m))).length < 1000)
  (post ((tupA l).mapTop (renLeaf (tagss (tupA l :: catB ((c :: b).take m))))) (mapB (renLeaf (tagss (tupA l :: catB ((c :: b).take m)))) ((c :: b).take m))))) := rfl
attribute [go_sem] catB
attribute [go_sem] allNoTag List.take_zero List.take_succ_cons List.take_nil
end
end Go.AM
