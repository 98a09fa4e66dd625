/- GP GQ GW HV HE HH HI HJ HK HU VW HW0 HW GR GS LEff LFlat FA LCyc FG GT GU GV GX HX HY HL HZ0 BrZ FK BrM Closed21 Closed21z -/
import Derived.Test.YtiklkcjkmhkgjaaGreatg23
import Derived.Test.YtiklkcjkmhkgjaaGreatg15
import Derived.Test.YtiklkcjkmhkgjaaGreatg17
import Derived.Test.YtiklkcjkmhkgjaaGreatg12
import Derived.Test.YtiklkcjkmhkgjaaGreatg7
import Derived.Test.YtiklkcjkmhkgjaaGreatg10
namespace Go.AM
open Go Go.Proofs Go.RowKit
theorem CV.Slim.ok {a : CV} (h : a.Slim) : a.Ok := by
 have key : ∀ (N : Nat) (a : CV), SizeOf.sizeOf a <= N -> a.Slim -> a.Ok := by
  intro N
  induction N with
  | zero => intro a hs; cases a; rw [CV.mk.sizeOf_spec] at hs; omega
  | succ N ih =>
   intro a hs ha
   obtain ⟨n, k⟩ := a
   have hl := ha.len
   exact .mk n k (by show k.length <= _; have : k.length <= 1000000 := hl; omega) fun x hx => ih x (by have := kid_size (a := .mk n k) hx; omega) (ha.kid hx)
 exact key _ a (Nat.le_refl _) h
def cfgO (t s : Nat) (v : List Int) : AV := .ag [vi 0, .sl t 2 (kidZ s :: v.map kidZ)]
attribute [go_sem] cfgO
structure Own (m : MD) : Prop where
 kind : m.kind = 1
 states : 1 <= m.states.length /\ m.states.length <= 8
 places : 1 <= m.places.length /\ m.places.length <= 6
 letters : m.letters = []
 ranks : m.ranks = []
 levels : m.levels = 0
 age : m.age = 0
 names : namesB (m.states ++ m.places) = true
def noRA (m : MD) (st : CV) : AV := .ag [vi m.kind, vss m.states, vss m.places, vss m.letters, vs 0 m.ranks, vi m.levels, vi m.age, .nil, vi st.n, .sl 0 2 (st.kids.map vV)]
attribute [go_sem] noRA
def hidA (m : MD) : AV := .ag [vi m.kind, vss m.states, vss m.places, vss m.letters, vs 0 m.ranks, vi m.levels, vi m.age, .any, .any, .any]
attribute [go_sem] hidA
def noSA (m : MD) : AV := .ag [vi m.kind, vss m.states, vss m.places, vss m.letters, vs 0 m.ranks, vi m.levels, vi m.age, .nil, vi 0, .nil]
attribute [go_sem] noSA
set_option maxRecDepth 100000
def nm1 (a : ByteArray) (i : Nat) : ByteArray := a ++ strOf [48 + (i : Int)]
def nmL (a : ByteArray) (n : Nat) : List ByteArray := (List.range n).map (nm1 a)
theorem nmL_len (a : ByteArray) (n : Nat) : (nmL a n).length = n := by simp [nmL]
theorem nmL_succ (a : ByteArray) (n : Nat) : nmL a (n + 1) = nmL a n ++ [nm1 a n] := by unfold nmL; rw [List.range_succ, List.map_append]; rfl
theorem con_names (a : ByteArray) (n : Nat) (ha : a.size <= 10) (hn : n <= 9) : Con Tryz.prog 35 [vStr a, vi n] [] fun r _ => r = .sl 2 1 ((nmL a n).map vStr) := by
 refine Con.intro Tryz.func35 rfl Tryz.ntmps35 Tryz.results35 (by kernel_rfl) (by simp) 0 (by simp) ?_
 simp only [go_sem]
 refine LoopK.intro (fun i : Nat => ⟨23, [(0, vStr a), (1, vi n), (5, .sl 1408 1 ((nmL a i).map vStr)), (6, vi i)], []⟩)
  (fun i => n - i) (fun i => i <= n) 0 (by omega) ?_ ?_
 ·simp only [go_sem, nmL, List.range_zero, List.map_nil]
  all_goals exact leV_nil _ _
 rintro i hi
 by_cases h : i < n
 ·have hw : IntKind.i64.wrap (i + 1) = i + 1 := wrap_in (by omega) (by omega)
  have hw2 : IntKind.i64.wrap (48 + (i : Int)) = 48 + i := wrap_in (by omega) (by omega)
  have hw3 : IntKind.u8.wrap (48 + (i : Int)) = 48 + i := by rw [IntKind.wrap_u8]; omega
  have hb : bytesOf [.sc (.int .u8 (48 + (i : Int)))] = some [48 + (i : Int)] := rfl
  have hs : a.size + (strOf [48 + (i : Int)]).size <= 9223372036854775807 := by
   have e : (strOf [48 + (i : Int)]).size = 1 := rfl
   omega
  have hr : roomFor ((nmL a i).length + 1) 16 := by rw [nmL_len]; simp only [roomFor]; omega
  simp only [go_sem, h, hw, hw2, hw3, hb, hs, hr]
  refine roundK.intro (i + 1) (by omega) (by omega) ?_
  simp only [go_sem, nmL_succ, nm1, List.map_append, List.map_cons, List.map_nil]
 ·have e : i = n := by omega
  subst e
  simp only [go_sem, h]
def emptyB : ByteArray := ⟨#[]⟩
set_option maxHeartbeats 8000000
theorem same_refl (r : RD) : sameB r r = true := by unfold sameB; simp
theorem right_mk {m : MD} {r : RD} (h1 : endsR m r = true) (h2 : fitsR m r = true) (h3 : onlyR m.kind r = r) : rightR m r = true := by
 unfold rightR
 rw [h1, h2, h3, same_refl]; rfl
theorem index_ok {x : Int} {n : Nat} (h : 0 <= x /\ x < n) : indexB x n = true := by unfold indexB; rw [decide_eq_true h.1, decide_eq_true h.2]; rfl
theorem ends_mk {m : MD} {r : RD} (h1 : 0 <= r.dst /\ r.dst < m.states.length) (h2 : 0 <= r.src /\ r.src < m.states.length) : endsR m r = true := by
 unfold endsR
 rw [index_ok h1, index_ok h2]; rfl
def DealtX (m : MD) (x : RD) : Prop := rightR m x = true /\ x.name = emptyB /\ LenR x
def RuleCon (l : List Int) (s : DS) (m : MD) : Prop :=
 Con Tryz.prog 38 [.pb 0 0, hidA m] [deckA l s] fun r b => ∃ (x : RD) (s' : DS), DealtX m x /\ Dk l s' /\ r = vRule x /\ b = [deckA l s']
theorem RuleCon.mk {l : List Int} {s : DS} {m : MD} (h : Con Tryz.prog 38 [.pb 0 0, hidA m] [deckA l s] fun r b => ∃ (x : RD) (s' : DS), DealtX m x /\ Dk l s' /\ leV (r.freeze fun _ => true) (vRule x) /\ b = [deckA l s']) : RuleCon l s m :=
 (h.freezeB fun _ => true).weak fun r b ⟨r1, b1, ⟨x, s', h1, h2, h3, h4⟩, h7, h8⟩ => by
  subst h4; subst h7; subst h8
  exact ⟨vRule x, ⟨x, s', h1, h2, rfl, rfl⟩, h3⟩
def branchRow : List Nat := [0, 1, 5, 2, 3, 4, 6, 7, 8, 9, 10]
def brR (src dst : Int) (n g : List Int) (sec : Int) : RD := ⟨emptyB, src, dst, n, g, [], 0, 0, 0, [], [], [], [], sec⟩
theorem con_dRule6 (l : List Int) (s : DS) (m : MD) (hd : Dk l s) (hk : m.kind = 6) (hp : 1 <= m.places.length /\ m.places.length <= 6) (h1 : 1 <= m.states.length /\ m.states.length <= 8) : RuleCon l s m := by
 refine RuleCon.mk ?_
 refine Con.intro Tryz.func38 rfl Tryz.ntmps38 Tryz.results38 (by kernel_rfl) (by simp) 1 (by simp) ?_
 have hn1 := nextV_lt (l := l) (s := s) (n := m.states.length) (by omega)
 have hd2 : Dk l (nextS l s m.states.length) := nextS_dk hd
 have hn2 := nextV_lt (l := l) (s := nextS l s m.states.length) (n := m.states.length) (by omega)
 have hd3 : Dk l (nextS l (nextS l s m.states.length) m.states.length) := nextS_dk hd2
 simp only [go_sem, hk]
 refine DrawK.news0 [(11, 3)] [14] [] 0 [4, 9] [] 12 (.one 12 .done) none (deckA l s) mixed (by kernel_rfl) (by kernel_rfl) (by kernel_rfl) (by simp only [go_sem]) (by simp only [go_sem]) ⟨by simp only [go_sem], by simp only [go_sem]⟩ ⟨by simp only [go_sem], by simp only [go_sem]⟩ ?_
 simp only [go_sem, List.length_map]
 refine EffK.mk (con_dNext l s m.states.length hd) (by simp only [go_sem]) (by simp only [go_sem]) (by simp only [go_sem]) (by simp only [go_sem]) ?_
 simp only [go_sem, List.length_map]
 refine EffK.mk (con_dNext l (nextS l s m.states.length) m.states.length hd2) (by simp only [go_sem]) (by simp only [go_sem]) (by simp only [go_sem]) (by simp only [go_sem]) ?_
 generalize nextV l s m.states.length = src at hn1
 generalize nextV l (nextS l s m.states.length) m.states.length = dst at hn2
 generalize nextS l (nextS l s m.states.length) m.states.length = s2 at hd3
 have hrep : List.replicate 14 AV.any = [.any, .any, .any, .any, .any, .any, .any, .any, .any, .any, .any, .any, .any, .any] := rfl
 simp only [go_sem, hrep]
 refine ⟨?_, trivial⟩
 have hV1 := smV_low (l := l) (s := s2) (most := 2) (by omega) m.places.length
 have hL1 := smV_len (l := l) (s := s2) (most := 2) m.places.length
 have hd4 : Dk l (smS l s2 2 m.places.length) := smS_dk hd3 _
 refine DrawK.effs branchRow 0 [5] [] 6 (.one 6 (.front 7 (.one 8 (.front 9 (.one 10 .done))))) none (deckA l s2) mixed (by kernel_rfl) (by simp only [branchRow, permG, renO, List.getElem?_cons_zero, List.getElem?_cons_succ, Option.map_none]; exact rfl) (by kernel_rfl) (by kernel_rfl) (by simp only [go_sem]) (by simp only [go_sem]) ?_
 simp only [go_sem]
 refine ⟨Nat.le_refl _, by omega, by omega, ?_⟩
 refine EffK.mk (con_dSmallF l s2 m.places.length 2 hd3 (by omega) (by omega)) (by simp only [go_sem]) (by simp only [go_sem]) (by simp only [go_sem]) (by simp only [go_sem]) ?_
 generalize smV l s2 2 m.places.length = gv at hV1 hL1
 generalize smS l s2 2 m.places.length = s3 at hd4
 have hsm : ∀ q : List Int, (∀ x ∈ q, 0 <= x /\ x <= 2) -> smallB q = true := fun q hq => by
  unfold smallB
  rw [List.all_eq_true]
  intro x hx
  have := hq x hx
  unfold betweenB
  rw [decide_eq_true (by omega), decide_eq_true (by omega)]; rfl
 have hch : ∀ (a b c : Int) (q : List Int), q.length = m.places.length -> (∀ x ∈ q, 0 <= x /\ x <= 2) -> changesB m.places.length (brR a b q gv c) = true := fun a b c q h3 h4 => by
  show (decide (q.length = m.places.length) && decide (gv.length = m.places.length) && smallB q && smallB gv) = true
  rw [decide_eq_true h3, decide_eq_true hL1, hsm q h4, hsm gv hV1]; rfl
 have hlen : ∀ (a b c : Int) (q : List Int), q.length = m.places.length -> LenR (brR a b q gv c) := fun a b c q h3 => ⟨⟨by show q.length <= _; omega, by show gv.length <= _; omega, by simp [brR], by simp [brR], by simp [brR], by simp [brR], by simp [brR]⟩, by simp [brR], by simp [brR]⟩
 have hfit : ∀ r, fitsR m r = branchB m.states.length m.places.length r := fun r => by unfold fitsR; rw [if_neg (by omega), if_neg (by omega), if_neg (by omega), if_neg (by omega)]
 have honly : ∀ (a b c : Int) (q : List Int), onlyR m.kind (brR a b q gv c) = brR a b q gv c := fun a b c q => by rw [hk]; rfl
 have hd5 : Dk l (nextS l s3 3) := nextS_dk hd4
 simp only [go_sem]
 refine ⟨?_, trivial⟩
 refine CallU.boxes (i := 0) (is := []) (bx0 := [deckA l s3]) (con_dOne l s3 3 hd4) (by simp only [go_sem]) (by simp only [go_sem]) (by simp only [go_sem]) (by simp only [go_sem]) (by simp only [go_sem]) ?_
 rintro r b ⟨rfl, rfl⟩
 generalize nextS l s3 3 = s4 at hd5
 cases ho : oneV l s3 3
 case true =>
  simp only [go_sem]
  refine ⟨brR (-1) dst (List.replicate m.places.length 0) gv (-1), s4, ⟨right_mk ?_ ?_ (honly ..), rfl, hlen _ _ _ _ (List.length_replicate ..)⟩, hd5, ?_, rfl⟩
  ·unfold endsR
   rw [show indexB (brR (-1) dst (List.replicate m.places.length 0) gv (-1)).dst m.states.length = true from index_ok hn2, hk]
   show (true && (indexB (-1) m.states.length || true)) = true
   rw [Bool.or_true]; rfl
  ·rw [hfit]
   unfold branchB
   rw [hch _ _ _ _ (List.length_replicate ..) (fun x hx => by rw [List.eq_of_mem_replicate hx]; omega)]
   show (true && true && (decide ((0 : Int) <= -1) || (true && (List.replicate m.places.length (0 : Int)).all fun x => x == 0))) = true
   have : ((List.replicate m.places.length (0 : Int)).all fun x => x == 0) = true := List.all_eq_true.2 fun x hx => by rw [List.eq_of_mem_replicate hx]; rfl
   rw [this]; rfl
  ·have e : List.replicate m.places.length (AV.sc (.int .i64 0)) = (List.replicate m.places.length (0 : Int)).map vi := by rw [List.map_replicate]; rfl
   rw [e]
   exact leV_ag ⟨leV_refl _, leV_refl _, leV_refl _, leV_refl _, leV_refl _, leV_nil _ _, leV_refl _, leV_refl _, leV_refl _, leV_nil _ _, leV_nil _ _, leV_nil _ _, leV_nil _ _, leV_refl _, trivial⟩
 have hV2 := smV_low (l := l) (s := s4) (most := 1) (by omega) m.places.length
 have hL2 := smV_len (l := l) (s := s4) (most := 1) m.places.length
 have hd6 : Dk l (smS l s4 1 m.places.length) := smS_dk hd5 _
 simp only [go_sem]
 refine CallU.boxes (i := 0) (is := []) (bx0 := [deckA l s4]) (con_dSmallF l s4 m.places.length 1 hd5 (by omega) (by omega)) (by simp only [go_sem]) (by simp only [go_sem]) (by simp only [go_sem]) (by simp only [go_sem]) (by simp only [go_sem]) ?_
 rintro r b ⟨rfl, rfl⟩
 generalize smV l s4 1 m.places.length = nd at hV2 hL2
 generalize smS l s4 1 m.places.length = s5 at hd6
 have hws : IntKind.i64.wrap ((m.states.length : Int) + 1) = (m.states.length : Int) + 1 := wrap_in (by omega) (by omega)
 have hx := nextV_lt (l := l) (s := s5) (n := (m.states.length : Int) + 1) (by omega)
 have hd7 : Dk l (nextS l s5 ((m.states.length : Int) + 1)) := nextS_dk hd6
 simp only [go_sem, hws]
 refine CallU.boxes (i := 0) (is := []) (bx0 := [deckA l s5]) (con_dNext l s5 ((m.states.length : Int) + 1) hd6) (by simp only [go_sem]) (by simp only [go_sem]) (by simp only [go_sem]) (by simp only [go_sem]) (by simp only [go_sem]) ?_
 rintro r b ⟨rfl, rfl⟩
 generalize nextV l s5 ((m.states.length : Int) + 1) = sec at hx
 generalize nextS l s5 ((m.states.length : Int) + 1) = s6 at hd7
 have hwx : IntKind.i64.wrap (sec - 1) = sec - 1 := wrap_in (by omega) (by omega)
 simp only [go_sem, hwx]
 refine ⟨brR src dst nd gv (sec - 1), s6, ⟨right_mk (ends_mk hn2 hn1) ?_ (honly ..), rfl, hlen _ _ _ _ hL2⟩, hd7, ?_, rfl⟩
 ·rw [hfit]
  unfold branchB
  rw [hch _ _ _ _ hL2 (fun x hx => by have := hV2 x hx; omega)]
  have e1 : (sec - 1 == -1 || indexB (sec - 1) m.states.length) = true := by
   by_cases h0 : sec = 0
   ·rw [h0]; rfl
   ·rw [index_ok (by omega), Bool.or_true]
  show (true && (sec - 1 == -1 || indexB (sec - 1) m.states.length) && (decide (0 <= src) || _)) = true
  rw [e1, decide_eq_true hn1.1]; rfl
 ·exact leV_ag ⟨leV_refl _, leV_refl _, leV_refl _, leV_refl _, leV_refl _, leV_nil _ _, leV_refl _, leV_refl _, leV_refl _, leV_nil _ _, leV_nil _ _, leV_nil _ _, leV_nil _ _, leV_refl _, trivial⟩
end Go.AM
namespace Go.AM
end Go.AM
namespace Go.AM
open Go Go.Proofs Go.RowKit
end Go.AM
namespace Go.AM
end Go.AM
namespace Go.AM
open Go Go.Proofs Go.RowKit
def lowN (m : MD) : Nat := if m.kind = 4 \/ m.kind = 5 then 1 else m.places.length
def qB : ByteArray := ⟨#[113]⟩
def pB : ByteArray := ⟨#[112]⟩
def rB : ByteArray := ⟨#[114]⟩
def rkL (k j : Nat) : List ByteArray := (List.range j).map fun t => nm1 rB (k - t)
theorem rk_succ (k j : Nat) : rkL k (j + 1) = rkL k j ++ [nm1 rB (k - j)] := by unfold rkL; rw [List.range_succ, List.map_append]; rfl
theorem con_namesF (a : ByteArray) (n : Nat) (ha : a.size <= 10) (hn : n <= 9) : Con Tryz.prog 35 [vStr a, vi n] [] fun r _ => r = vss (nmL a n) :=
 (Con.freezeR (fun _ => true) (con_names a n ha hn)).weak fun r b ⟨r0, h0, h1⟩ => by
  subst h0; subst h1
  exact ⟨_, rfl, leV_refl _⟩
def cB : ByteArray := ⟨#[99]⟩
def lB : ByteArray := ⟨#[108]⟩
def plB (k : Int) : ByteArray := if k = 2 \/ k = 3 then cB else pB
def dealtG (k : Int) (ns np nl : Nat) (ra : List Int) (lv ag : Int) (rules : List RD) (st : CV) : MD := { kind := k, states := nmL qB ns, places := nmL (plB k) np, letters := nmL lB nl, ranks := ra, levels := lv, age := ag, rules := rules, start := st }
structure NumOk (k : Int) (ns np nl : Nat) (ra : List Int) (lv ag : Int) : Prop where
 kind : 1 <= k /\ k <= 6
 states : 1 <= ns /\ ns <= 3
 places : (k = 4 -> np = 0) /\ (k = 2 \/ k = 3 -> 1 <= np /\ np <= 2) /\ (k = 1 \/ k = 5 \/ k = 6 -> 1 <= np /\ np <= 3)
 letters : (k = 2 \/ k = 3 \/ k = 4 -> 1 <= nl /\ nl <= 3) /\ (k = 1 \/ k = 5 \/ k = 6 -> nl = 0)
 ranks : (k = 3 -> ra.length = nl /\ ∀ x ∈ ra, 0 <= x /\ x <= 2) /\ (k ≠ 3 -> ra = [])
 levels : (k = 4 -> 1 <= lv /\ lv <= 2) /\ (k ≠ 4 -> lv = 0)
 age : (k = 5 -> 0 <= ag /\ ag <= 2) /\ (k ≠ 5 -> ag = 0)
section
variable {k : Int} {ns np nl : Nat} {ra : List Int} {lv ag : Int} {rules : List RD} {st : CV}
end
structure DealtG (k : Int) (ns np nl : Nat) (ra : List Int) (lv ag : Int) (rules : List RD) (st : CV) : Prop where
 num : NumOk k ns np nl ra lv ag
 few : rules.length <= 4
 names : rules.map RD.name = rkL rules.length rules.length
 rules : ∀ r ∈ rules, rightR (dealtG k ns np nl ra lv ag [] zeroV) r = true /\ LenR r
 start : if k = 6 then st = zeroV else validV (typeM (dealtG k ns np nl ra lv ag [] zeroV)) st = true
 slim : st.Slim
section
variable {k : Int} {ns np nl : Nat} {ra : List Int} {lv ag : Int} {rules : List RD} {st : CV}
end
theorem plB_6 : plB 6 = pB := by unfold plB; rw [if_neg (by omega)]
theorem nmL_zero (a : ByteArray) : nmL a 0 = [] := rfl
theorem num6 {ns np : Nat} (a : 1 <= ns /\ ns <= 3) (b : 1 <= np /\ np <= 3) : NumOk 6 ns np 0 [] 0 0 := ⟨by omega, a, by omega, by omega, ⟨fun h => by omega, fun _ => rfl⟩, by omega, by omega⟩
theorem right_name (m : MD) (x : RD) (a : ByteArray) : rightR m { x with name := a } = rightR m x := by
 have e : sameB { x with name := a } (onlyR m.kind { x with name := a }) = sameB x (onlyR m.kind x) := by
  unfold onlyR
  split
  ·unfold sameB; simp
  ·split
   ·unfold sameB; simp
   ·split
    ·unfold sameB; simp
    ·split
     ·unfold sameB; simp
     ·unfold sameB; simp
 unfold rightR
 rw [e]; rfl
set_option maxRecDepth 100000
set_option maxHeartbeats 8000000
theorem con_dRuleZ (l : List Int) (s : DS) {ns np nl : Nat} {ra : List Int} {lv ag : Int} (hd : Dk l s) (h : NumOk 6 ns np nl ra lv ag) : RuleCon l s (dealtG 6 ns np nl ra lv ag [] zeroV) := by
 have h2 := h.states; have h3 := h.places
 have l1 : (dealtG 6 ns np nl ra lv ag [] zeroV).states.length = ns := nmL_len _ _
 have l2 : (dealtG 6 ns np nl ra lv ag [] zeroV).places.length = np := nmL_len _ _
 exact con_dRule6 l s _ hd rfl (by rw [l2]; omega) (by rw [l1]; omega)
theorem con_dModelZ0 (l : List Int) (s : DS) (hd : Dk l s) : Con Tryz.prog 12 [.pb 0 0, vi 6] [deckA l s]
  fun r b => ∃ (ns np nl : Nat) (ra : List Int) (lv ag : Int) (rules : List RD) (st : CV) (s' : DS), DealtG 6 ns np nl ra lv ag rules st /\ Dk l s' /\ leV (r.freeze fun _ => true) (vM (dealtG 6 ns np nl ra lv ag rules st)) /\ b = [deckA l s'] := by
 refine Con.intro Tryz.func12 rfl Tryz.ntmps12 Tryz.results12 (by kernel_rfl) (by simp) 1 (by simp) ?_
 apply share3 (T := fun τ => ∃ (ns np nl : Nat) (ra : List Int) (lv ag : Int) (K : Nat) (s' : DS), NumOk 6 ns np nl ra lv ag /\ K <= 4 /\ Dk l s' /\ τ.le ⟨103, [(0, .pb 0 0), (1, vi 6), (4, .pb 1 0), (5, .pb 2 0), (6, vi ((K - 0 : Nat) : Int))], [deckA l s', [.any, .any, .any, .any, .any, .any, .any, .any, .any, .any],
    [vi 6, vss (nmL qB ns), vss (nmL (plB 6) np), vss (nmL lB nl), vs 0 ra, vi lv, vi ag, .sl 6080 14 [], vi 0, .nil]]⟩)
 case h =>
  intro hsh
  have hd_s0 := hd
  obtain ⟨s0, hs0⟩ : ∃ s0, s0 = s := ⟨_, rfl⟩
  rw [<- hs0] at hd_s0
  rw [<- hs0]
  simp only [go_sem]
  have hn_ns := nextV_lt (l := l) (s := s0) (n := 3) (by omega)
  have hd_s1 : Dk l (nextS l s0 3) := nextS_dk hd_s0
  refine CallU.boxes (i := 0) (is := []) (bx0 := [deckA l s0]) (con_dNext l s0 3 hd_s0) (by simp only [go_sem]) (by simp only [go_sem]) (by simp only [go_sem]) (by simp only [go_sem]) (by simp only [go_sem]) ?_
  rintro r b ⟨rfl, rfl⟩
  obtain ⟨ns, ens, hns⟩ : ∃ ns : Nat, 1 + nextV l s0 3 = ns /\ (1 <= ns /\ ns <= 3) := ⟨(1 + nextV l s0 3).toNat, by omega, by omega⟩
  have hw_ns : IntKind.i64.wrap (1 + nextV l s0 3) = ns := by rw [wrap_in (by omega) (by omega), ens]
  clear ens hn_ns
  simp only [go_sem, hw_ns]
  clear hw_ns
  generalize nextS l s0 3 = s1 at hd_s1 ⊢
  refine CallU.free (con_namesF qB ns (by decide) (by omega)) (by simp only [go_sem]) (by simp only [go_sem, qB]) ?_
  rintro r b rfl
  simp only [go_sem]
  have hn_np := nextV_lt (l := l) (s := s1) (n := 3) (by omega)
  have hd_s2 : Dk l (nextS l s1 3) := nextS_dk hd_s1
  refine CallU.boxes (i := 0) (is := []) (bx0 := [deckA l s1]) (con_dNext l s1 3 hd_s1) (by simp only [go_sem]) (by simp only [go_sem]) (by simp only [go_sem]) (by simp only [go_sem]) (by simp only [go_sem]) ?_
  rintro r b ⟨rfl, rfl⟩
  obtain ⟨np, enp, hnp⟩ : ∃ np : Nat, 1 + nextV l s1 3 = np /\ (1 <= np /\ np <= 3) := ⟨(1 + nextV l s1 3).toNat, by omega, by omega⟩
  have hw_np : IntKind.i64.wrap (1 + nextV l s1 3) = np := by rw [wrap_in (by omega) (by omega), enp]
  clear enp hn_np
  simp only [go_sem, hw_np]
  clear hw_np
  generalize nextS l s1 3 = s2 at hd_s2 ⊢
  refine CallU.free (con_namesF pB np (by decide) (by omega)) (by simp only [go_sem]) (by simp only [go_sem, pB]) ?_
  rintro r b rfl
  simp only [go_sem]
  have hn_K := nextV_lt (l := l) (s := s2) (n := 5) (by omega)
  have hd_K : Dk l (nextS l s2 5) := nextS_dk hd_s2
  refine CallU.boxes (i := 0) (is := []) (bx0 := [deckA l s2]) (con_dNext l s2 5 hd_s2) (by simp only [go_sem]) (by simp only [go_sem]) (by simp only [go_sem]) (by simp only [go_sem]) (by simp only [go_sem]) ?_
  rintro r b ⟨rfl, rfl⟩
  obtain ⟨K, eK, hK⟩ : ∃ K : Nat, nextV l s2 5 = K /\ K <= 4 := ⟨(nextV l s2 5).toNat, by omega, by omega⟩
  clear hn_K
  simp only [go_sem, eK]
  refine hsh _ ⟨ns, np, 0, [], 0, 0, K, _, num6 hns hnp, hK, hd_K, ?_⟩
  skip
  simp only [go_sem, vss, plB_6, nmL_zero, List.map_nil, Nat.sub_zero]
  repeat' (first | exact trivial | exact leV_nil _ _ | exact leV_refl _ | refine ⟨?_, ?_⟩)
 case key =>
  rintro τ ⟨ns, np, nl, ra, lv, ag, K, s0, hN, hK, hd0, hle⟩
  refine LoopK.intro (fun p : List RD × DS => ⟨103, [(0, .pb 0 0), (1, vi 6), (4, .pb 1 0), (5, .pb 2 0), (6, vi ((K - p.1.length : Nat) : Int))], deckA l p.2 :: [.any, .any, .any, .any, .any, .any, .any, .any, .any, .any] ::
    [vi 6, vss (nmL qB ns), vss (nmL (plB 6) np), vss (nmL lB nl), vs 0 ra, vi lv, vi ag, .sl 6080 14 (p.1.map vRule), vi 0, .nil] :: Rk 14 p.1.length⟩)
   (fun p => K - p.1.length) (fun p => p.1.length <= K /\ Dk l p.2 /\ p.1.map RD.name = rkL K p.1.length /\ ∀ r ∈ p.1, rightR (dealtG 6 ns np nl ra lv ag [] zeroV) r = true /\ LenR r) ([], s0) ⟨by simp, hd0, rfl, fun r hr => by cases hr⟩ hle ?_
  clear hle
  rintro ⟨rules, s4⟩ ⟨h1, h2, h3, h4⟩
  simp only at h1 h2 h3 h4
  have hB := Rk_len 14 rules.length
  have n0 := fun L : List (List AV) => app_at0 (L := L) hB
  have s0' := fun (L : List (List AV)) z => app_set0 (L := L) (z := z) hB
  by_cases h : rules.length < K
  ·have hgt : (0 : Int) < ((K - rules.length : Nat) : Int) := by omega
   have hru : Con Tryz.prog 38 [.pb 0 0, hidA (dealtG 6 ns np nl ra lv ag [] zeroV)] [deckA l s4] _ := con_dRuleZ l s4 h2 hN
   simp only [go_sem, hgt, vss]
   refine CallU.hide [] [.pb 0 0, hidA (dealtG 6 ns np nl ra lv ag [] zeroV)] (i := 0) (is := []) (bx0 := [deckA l s4]) hru (by simp only [go_sem]) ?_ (by simp only [go_sem]) (by simp only [go_sem]) (by simp only [go_sem]) (by simp only [go_sem]) (by simp only [go_sem]) ?_
   ·simp only [go_sem]
    exact leV_ag ⟨leV_refl _, leV_refl _, leV_refl _, leV_refl _, leV_refl _, leV_refl _, leV_refl _, leV_any _, leV_any _, leV_any _, trivial⟩
   rintro r b ⟨x, s5, ⟨g1, g1n, g1l⟩, g3, rfl, rfl⟩
   obtain ⟨q, hq⟩ : ∃ q, q = K - rules.length := ⟨_, rfl⟩
   rw [<- hq]
   have hw3 : IntKind.i64.wrap (48 + (q : Int)) = 48 + q := wrap_in (by omega) (by omega)
   have hw4 : IntKind.u8.wrap (48 + (q : Int)) = 48 + q := by rw [IntKind.wrap_u8]; omega
   have hb : bytesOf [.sc (.int .u8 (48 + (q : Int)))] = some [48 + (q : Int)] := rfl
   have e1 : (strOf [48 + (q : Int)]).size = 1 := rfl
   have hw5 : IntKind.i64.wrap ((q : Int) - 1) = ((K - (rules.length + 1) : Nat) : Int) := by rw [wrap_in (by omega) (by omega)]; omega
   simp only [go_sem, hB, n0, s0', hw3, hw4, hb, hw5]
   refine ⟨by rw [e1]; omega, by simp only [roomFor]; omega, roundK.intro (rules ++ [{ x with name := nm1 rB q }], s5) ⟨by rw [List.length_append]; show rules.length + 1 <= K; omega, g3, ?_, fun r hr => ?_⟩ (by show K - (rules ++ [_]).length < K - rules.length; rw [List.length_append]; show K - (rules.length + 1) < _; omega) ?_⟩
   ·show (rules ++ [{ x with name := nm1 rB q }]).map RD.name = rkL K (rules ++ [_]).length
    rw [List.length_append, List.map_append, h3]
    show rkL K rules.length ++ [nm1 rB q] = rkL K (rules.length + 1)
    rw [rk_succ, hq]
   ·rcases List.mem_append.1 hr with hr | hr
    ·exact h4 r hr
    ·rw [List.mem_singleton] at hr; subst hr
     exact ⟨by rw [right_name]; exact g1, ⟨⟨g1l.len.need, g1l.len.give, g1l.len.move, g1l.len.path, g1l.len.next, g1l.len.takes, g1l.len.makes⟩, g1l.path, g1l.next⟩⟩
   ·simp only [go_sem, Rk_succ, List.length_append, List.length_cons, List.length_nil, List.map_append, List.map_cons, List.map_nil, nm1, rB]
    exact leB_RkA ⟨leC_any _ 14 rfl, trivial⟩
  ·have ek2 : rules.length = K := by omega
   have hgt : ¬ (0 : Int) < ((K - rules.length : Nat) : Int) := by omega
   have b6 : ((6 : Int) != 6) = false := by decide
   simp only [go_sem, hgt, b6, vss]
   refine ⟨ns, np, nl, ra, lv, ag, rules, zeroV, s4, ⟨hN, by omega, by rw [h3, ek2], h4, by rw [if_pos rfl], .leaf 0⟩, h2, ?_, rfl⟩
   exact leV_ag ⟨leV_refl _, leV_refl _, leV_refl _, leV_refl _, leV_refl _, leV_refl _, leV_refl _, leV_refl _, leV_refl _, leV_nil 0 2, trivial⟩
theorem con_dModelZ (l : List Int) (s : DS) (hd : Dk l s) : Con Tryz.prog 12 [.pb 0 0, vi 6] [deckA l s]
  fun r b => ∃ (ns np nl : Nat) (ra : List Int) (lv ag : Int) (rules : List RD) (st : CV) (s' : DS), DealtG 6 ns np nl ra lv ag rules st /\ Dk l s' /\ r = vM (dealtG 6 ns np nl ra lv ag rules st) /\ b = [deckA l s'] :=
 ((con_dModelZ0 l s hd).freezeB fun _ => true).weak fun r b ⟨r1, b1, ⟨ns, np, nl, ra, lv, ag, rules, st, s', h1, h2, h3, h4⟩, h7, h8⟩ => by
  subst h4; subst h7; subst h8
  exact ⟨_, ⟨ns, np, nl, ra, lv, ag, rules, st, s', h1, h2, rfl, rfl⟩, h3⟩
def ordL (a b : Int) : Int := if a < b then -1 else if b < a then 1 else 0
def lexI : List Int -> List Int -> Int
 | x :: xs, y :: ys => if x = y then lexI xs ys else ordL x y
 | _, _ => 0
def cmpI (a b : List Int) : Int := if a.length = b.length then lexI a b else ordL a.length b.length
theorem ord_zero {a b : Int} : ordL a b = 0 ↔ a = b := by unfold ordL; split <;> (try split) <;> omega
theorem lex_zero : ∀ {a b : List Int}, a.length = b.length -> (lexI a b = 0 ↔ a = b)
 | [], [], _ => by simp [lexI]
 | x :: xs, y :: ys, h => by
  unfold lexI
  have hl : xs.length = ys.length := by simpa using h
  split
  ·rename_i e; rw [lex_zero hl, e]; simp
  ·rename_i e; rw [ord_zero]; simp [e]
 | [], _ :: _, h => by simp at h
 | _ :: _, [], h => by simp at h
theorem cmp_zero {a b : List Int} : cmpI a b = 0 ↔ a = b := by
 unfold cmpI
 split
 ·rename_i h; exact lex_zero h
 ·rename_i h
  rw [ord_zero]
  exact ⟨fun e => by omega, fun e => by rw [e]⟩
theorem lex_drop {a b : List Int} (hl : a.length = b.length) : ∀ i, i <= a.length -> (∀ j, j < i -> a[j]! = b[j]!) -> lexI a b = lexI (a.drop i) (b.drop i)
 | 0, _, _ => rfl
 | i + 1, hi, h => by
  rw [lex_drop hl i (by omega) fun j hj => h j (by omega)]
  have h1 : i < a.length := by omega
  have h2 : i < b.length := by omega
  have e := h i (by omega)
  rw [getElem!_pos a i h1, getElem!_pos b i h2] at e
  rw [List.drop_eq_getElem_cons h1, List.drop_eq_getElem_cons h2, lexI, if_pos e]
theorem lex_stop {a b : List Int} (hl : a.length = b.length) {i : Nat} (hi : i < a.length) (h : ∀ j, j < i -> a[j]! = b[j]!) (hn : a[i]! ≠ b[i]!) : lexI a b = ordL a[i]! b[i]! := by
 have h2 : i < b.length := by omega
 rw [lex_drop hl i (by omega) h]
 rw [getElem!_pos a i hi, getElem!_pos b i h2] at *
 rw [List.drop_eq_getElem_cons hi, List.drop_eq_getElem_cons h2, lexI, if_neg hn]
theorem lex_same {a b : List Int} (hl : a.length = b.length) (h : ∀ j, j < a.length -> a[j]! = b[j]!) : lexI a b = 0 := by
 rw [lex_drop hl a.length (Nat.le_refl _) h, List.drop_eq_nil_of_le (Nat.le_refl _)]
 unfold lexI; rfl
theorem con_rorder (a b : Int) : Con Tryz.prog 81 [vi a, vi b] [] fun r _ => r = vi (ordL a b) := by
 refine Con.intro Tryz.func81 rfl Tryz.ntmps81 Tryz.results81 (by kernel_rfl) (by simp) 0 (by simp) ?_
 unfold ordL
 by_cases h1 : a < b
 ·simp only [go_sem, h1, if_true]
 ·by_cases h2 : b < a
  ·simp only [go_sem, h1, h2, if_true, if_false]
  ·simp only [go_sem, h1, h2, if_true, if_false]
theorem con_rcompareI (a b : List Int) (ha : a.length <= 1000000) : Con Tryz.prog 72 [vs 0 a, vs 0 b] [] fun r _ => r = vi (cmpI a b) := by
 refine Con.intro Tryz.func72 rfl Tryz.ntmps72 Tryz.results72 (by kernel_rfl) (by simp) 0 (by simp) ?_
 by_cases hl : a.length = b.length
 case neg =>
  have hl' : ((a.length : Int) != (b.length : Int)) = true := bne_iff_ne.2 (by omega)
  have e : cmpI a b = ordL a.length b.length := by unfold cmpI; rw [if_neg hl]
  simp only [go_sem, hl', List.length_map]
  refine CallU.free (con_rorder a.length b.length) (by simp only [go_sem]) (by simp only [go_sem]) ?_
  rintro x bx rfl
  simp only [go_sem, e]
 have e : cmpI a b = lexI a b := by unfold cmpI; rw [if_pos hl]
 have hl' : ((a.length : Int) != (b.length : Int)) = false := by rw [hl]; simp
 rw [e]
 simp only [go_sem, hl', List.length_map]
 refine LoopK.intro (fun i : Nat => ⟨40, [(0, vs 0 a), (1, vs 0 b), (5, vi i)], []⟩)
  (fun i => a.length - i) (fun i => i <= a.length /\ ∀ j, j < i -> a[j]! = b[j]!) 0 ⟨by omega, fun j hj => by omega⟩ ?_ ?_
 ·simp only [go_sem]
  all_goals exact leV_refl _
 rintro i ⟨hi, hb⟩
 by_cases h : i < a.length
 ·have h2 : i < b.length := by omega
  have g1 := getv h
  have g2 := getv h2
  have hw : IntKind.i64.wrap (i + 1) = i + 1 := wrap_in (by omega) (by omega)
  simp only [go_sem, h]
  refine DrawK.walk 9 mixed (by kernel_rfl) ?_
  by_cases hp : a[i]! = b[i]!
  ·have hp' : (a[i]! != b[i]!) = false := by rw [hp]; simp
   simp only [go_sem, h, h2, g1, g2, hp', hw]
   refine roundK.intro (i + 1) ⟨by omega, fun j hj => ?_⟩ (by omega) ?_
   ·by_cases hji : j = i
    ·subst hji; exact hp
    ·exact hb j (by omega)
   ·simp only [go_sem]
  ·have hp' : (a[i]! != b[i]!) = true := bne_iff_ne.2 hp
   have e2 := lex_stop hl h hb hp
   simp only [go_sem, h, h2, g1, g2, hp']
   refine DrawK.walk 10 mixed (by kernel_rfl) ?_
   simp only [go_sem, h, h2, g1, g2]
   refine CallY.mk (con_rorder a[i]! b[i]!) (by simp only [go_sem]) (by simp only [go_sem]) (.inl (by simp only [go_sem])) ?_
   simp only [go_sem, e2]
 ·have e2 := lex_same hl fun j hj => hb j (by omega)
  simp only [go_sem, h, e2]
theorem con_rsameI (a b : List Int) (ha : a.length <= 1000000) : Con Tryz.prog 33 [vs 0 a, vs 0 b] [] fun r _ => r = vb (a == b) := by
 refine Con.intro Tryz.func33 rfl Tryz.ntmps33 Tryz.results33 (by kernel_rfl) (by simp) 0 (by simp) ?_
 simp only [go_sem]
 refine CallU.free (con_rcompareI a b ha) (by simp only [go_sem]) (by simp only [go_sem]) ?_
 rintro x bx rfl
 have e : (cmpI a b == 0) = (a == b) := by rw [Bool.eq_iff_iff, beq_iff_eq, beq_iff_eq]; exact cmp_zero
 simp only [go_sem, e]
theorem con_few21 (l : List Int) : Con Tryz.prog 9 [vs 0 l] [] fun r _ => r = vb (decide ((l.length : Int) <= 400)) := by
 refine Con.intro Tryz.func9 rfl Tryz.ntmps9 Tryz.results9 (by kernel_rfl) (by simp) 0 (by simp) ?_
 simp only [go_sem]
def seed21 : DS := (0, 11400714819323198485)
theorem con_new21 (l : List Int) : Con Tryz.prog 11 [vs 0 l] [] fun r b => r = .pb 0 0 /\ b = [deckA l seed21] := con_dNew l
theorem deck21 {l : List Int} (h : (l.length : Int) <= 400) : Dk l seed21 := ⟨Nat.zero_le _, by omega⟩
theorem dl_ok {n : Nat} (hn : n <= 4) {x : CV} (h : DlD (numB n) 9 x) : szC x <= 7 /\ fitC x = true := by
 refine ⟨dl_nine h, dl_fit (rs := numB n) (fun r p hp => ?_) h⟩
 unfold numB at hp
 split at hp
 ·omega
 ·cases hp
theorem con_shapesLaw (l : List Int) : Con Tryz.prog 6 [vs 0 l] [] fun r _ => r = vb true := by
 refine Con.intro Tryz.func6 rfl Tryz.ntmps6 Tryz.results6 (by kernel_rfl) (by simp) 0 (by simp) ?_
 simp only [go_sem]
 refine CallU.free con_awake (by simp only [go_sem]) (by simp only [go_sem]) ?_
 rintro z bx rfl
 simp only [go_sem]
 refine CallU.free (con_few21 l) (by simp only [go_sem]) (by simp only [go_sem]) ?_
 rintro z bx rfl
 by_cases hf : (l.length : Int) <= 400
 case neg =>
  simp only [hf, decide_false]
  simp only [go_sem]
  refine CallU.free con_awake (by simp only [go_sem]) (by simp only [go_sem]) ?_
  rintro z bx rfl
  simp only [go_sem]
 have hd0 := deck21 hf
 simp only [hf, decide_true]
 simp only [go_sem]
 refine CallU.news (bx0 := []) (con_new21 l) (by simp only [go_sem]) (by simp only [go_sem]) (by simp only [go_sem]) (by simp only [go_sem]) (by simp only [go_sem]) ?_
 rintro r b ⟨rfl, rfl⟩
 generalize seed21 = s0 at hd0
 simp only [go_sem]
 refine CallU.boxes (i := 0) (is := []) (bx0 := [deckA l s0]) (con_dModelZ l s0 hd0) (by simp only [go_sem]) (by simp only [go_sem]) (by simp only [go_sem]) (by simp only [go_sem]) (by simp only [go_sem]) ?_
 rintro r b ⟨ns, np, nl, ra, lv, ag, rules, st, s1, hG, hd1, rfl, rfl⟩
 have hfew := hG.few
 have hml : (dealtG 6 ns np nl ra lv ag rules st).rules.length <= 4 := hfew
 generalize dealtG 6 ns np nl ra lv ag rules st = m at hml
 have hdr := con_dDer l m (by omega) 3 9 s1 (by omega) (by omega) hd1
 have hdl := drF_dl (l := l) (rs := m.rules) 4 9 s1 hd1
 have hok := dl_ok hml hdl
 generalize (drF l m.rules (3 + 1) 9 s1).1 = x at hdr hok
 generalize (drF l m.rules (3 + 1) 9 s1).2 = s2 at hdr
 obtain ⟨hsz, hfit⟩ := hok
 have hcn : cntC x 12 = szC x := by unfold cntC; omega
 have hsl : x.Slim := sz_slim 7 x hsz (by omega)
 have hxo : x.Ok := hsl.ok
 have hshp := con_bShape x hxo
 have eS : shapeF x = .tup [vV x, vi 0] := by unfold shapeF; rw [if_neg (by omega), if_neg (by rw [hfit]; simp)]
 rw [eS] at hshp
 have hcol := con_collect _ x .nil [] (Nat.le_refl _) (by simp; omega) (.inl ⟨rfl, rfl⟩)
 rw [List.nil_append] at hcol
 have hval : validT4 x = true := by unfold validT4 smallT; rw [hfit, hcn, decide_eq_true (by omega)]; rfl
 have hts := con_brtSize x hxo
 rw [if_pos hval] at hts
 have hlb := con_brLabels x hxo hval
 have hbs := con_bSize x hxo
 have hsame := con_rsameI (labC x) (labC x) (by rw [lab_len]; omega)
 simp only [beq_self_eq_true] at hsame
 rw [vV_eq x] at *
 simp only [go_sem, vM, cM, vss]
 refine CallU.boxes (i := 0) (is := []) (bx0 := [deckA l s1]) hdr (by simp only [go_sem]) (by simp only [go_sem]) (by simp only [go_sem]) (by simp only [go_sem, vM, cM, vss]) (by simp only [go_sem]) ?_
 rintro r b ⟨rfl, rfl⟩
 simp only [go_sem]
 refine CallU.free hshp (by simp only [go_sem]) (by simp only [go_sem]) ?_
 rintro z bx rfl
 simp only [go_sem]
 refine CallU.own (i := 4) (is := []) (bx0 := [[.nil]]) hcol (by simp only [go_sem]) (by simp only [go_sem]) [] (by simp only [go_sem]) (by simp only [go_sem]) (by simp only [go_sem]) (by simp only [go_sem]) ?_
 rintro z bx ⟨rfl, rfl⟩
 simp only [go_sem]
 refine DrawK.walk 11 mixed (by kernel_rfl) ?_
 simp only [go_sem]
 refine CallY.mk hbs (by simp only [go_sem]) (by simp only [go_sem]) (.inl (by simp only [go_sem])) ?_
 simp only [go_sem]
 refine CallY.mk hts (by simp only [go_sem]) (by simp only [go_sem]) (.inl (by simp only [go_sem])) ?_
 simp only [go_sem, beq_self_eq_true]
 refine CallY.mk hlb (by simp only [go_sem]) (by simp only [go_sem]) (.inl (by simp only [go_sem])) ?_
 simp only [go_sem]
 refine CallY.mk hsame (by simp only [go_sem]) (by simp only [go_sem]) (.inr (by simp only [go_sem])) ?_
 simp only [go_sem]
end Go.AM
namespace Go.Proofs.YtiklkcjkmhkgjaaGreat
open Go.ChangeShapes Go.WideShapes Go.ChangeAt Go.RowKit Go.AM
theorem and_mk {a b : Bool} (h1 : a = true) (h2 : b = true) : (a && b) = true := by rw [h1, h2]; rfl
theorem cLaid : laidOutB Tryz.prog = true := by kernel_rfl
theorem cRowed : mapsRowed Tryz.prog = true := by kernel_rfl
theorem cHeard : Tryz.prog.stopsHeard = true := by kernel_rfl
theorem cEnter : Tryz.prog.mayEnter = true := by kernel_rfl
theorem cLifts : (Rows.branchingShapesRow.lifted == Tryz.prog.liftsFinal) = true := by kernel_rfl
theorem branchingShapesC0 : (Rows.branchingShapesRow.wf (OpenSpec.ofChange Rows.branchingShapesSpec)) = true := by kernel_rfl
theorem branchingShapesC3 : (Tryz.f6.params.all (Tryz.prog.readableRec ·)) = true := by kernel_rfl
theorem branchingShapesC4 : (namedTie Tryz.prog Rows.branchingShapesRow.named Rows.branchingShapesSpec.vars) = true := by kernel_rfl
theorem branchingShapesC5 : ((Rows.branchingShapesRow.stops == [])) = true := by kernel_rfl
theorem branchingShapesC6 : ((Tryz.prog.stops == [])) = true := by kernel_rfl
theorem branchingShapesC7 : ((Rows.branchingShapesRow.knobs == [])) = true := by kernel_rfl
theorem branchingShapesC8 : ((Tryz.prog.stopKnobs == [])) = true := by kernel_rfl
theorem branchingShapesC9 : ((Rows.branchingShapesRow.inPlace == Tryz.prog.inPlace 6)) = true := by kernel_rfl
theorem branchingShapesC10 : ((Rows.branchingShapesRow.unfollowed == Tryz.prog.unfollowed 6)) = true := by kernel_rfl
theorem branchingShapesC11 : ((Rows.branchingShapesRow.recurses == Tryz.prog.recurses 6)) = true := by kernel_rfl
theorem branchingShapesC12 : ((Rows.branchingShapesRow.named == Tryz.prog.varsNamed 6)) = true := by kernel_rfl
theorem branchingShapesC13 : ((Rows.branchingShapesRow.maps == (Tryz.f6.params.toList ++ Rows.branchingShapesSpec.plain.varTypes Tryz.prog).any (Tryz.prog.mapsRec ·))) = true := by kernel_rfl
theorem branchingShapesC14 : ((Rows.branchingShapesRow.ifaces == (Tryz.f6.params.toList ++ Rows.branchingShapesSpec.plain.varTypes Tryz.prog).any (Tryz.prog.ifacesRec ·))) = true := by kernel_rfl
theorem branchingShapesC15 : ((Rows.branchingShapesRow.mapsOut == Tryz.prog.mapsAmong Tryz.f6.resultTypes.toList)) = true := by kernel_rfl
theorem branchingShapesC16 : ((Rows.branchingShapesRow.loops == (Tryz.f6.params.toList ++ Rows.branchingShapesSpec.plain.varTypes Tryz.prog).any (Tryz.prog.loopsFrom ·))) = true := by kernel_rfl
theorem branchingShapesC17 : ((Rows.branchingShapesRow.wideKeys == (Tryz.f6.params.toList ++ Rows.branchingShapesSpec.plain.varTypes Tryz.prog ++ Tryz.f6.resultTypes.toList).any (Tryz.prog.wideKeysFrom ·))) = true := by kernel_rfl
theorem branchingShapesC18 : (Rows.branchingShapesSpec.vars.all (Tryz.prog.varReadable ·)) = true := by kernel_rfl
theorem branchingShapesC19 : (Tryz.f6.resultTypes.all (fun t => Tryz.prog.readableRec t && decide (t < Tryz.prog.types.size))) = true := by kernel_rfl
theorem branchingShapesC20 : ((Rows.branchingShapesRow.ifacesOut == Tryz.f6.resultTypes.toList.any (Tryz.prog.ifacesRec ·))) = true := by kernel_rfl
theorem branchingShapesC21 : ((Rows.branchingShapesRow.loopsOut == Tryz.f6.resultTypes.toList.any (Tryz.prog.loopsFrom ·))) = true := by kernel_rfl
theorem branchingShapesC22 : ((Rows.branchingShapesRow.plainKeys == Tryz.prog.plainKeys)) = true := by kernel_rfl
theorem branchingShapesC23 : (Rows.branchingShapesRow.shortTexts.isNone) = true := by kernel_rfl
theorem branchingShapesC27 : ((Tryz.prog.make == some Rows.branchingShapesRow.make)) = true := by kernel_rfl
theorem branchingShapesC28 : ((Rows.branchingShapesRow.kinds == (if Rows.branchingShapesRow.domain.isEmpty then [] else Tryz.f6.params.toList.map fun t => match Tryz.prog.underlying t with | some (.int k) => some k | _ => none))) = true := by kernel_rfl
theorem branchingShapesC29 : ((Rows.branchingShapesRow.pinned == Rows.branchingShapesRow.pinnedBy)) = true := by kernel_rfl
theorem branchingShapesC30 : ((Rows.branchingShapesRow.veiled == (Tryz.f6.params.toList ++ Rows.branchingShapesSpec.plain.varTypes Tryz.prog ++ Tryz.f6.resultTypes.toList).any (Tryz.prog.veiledRec ·))) = true := by kernel_rfl
theorem branchingShapesC31 : (Rows.branchingShapesRow.veiledFits Tryz.prog Tryz.f6.params.toList (Tryz.f6.params.toList ++ Rows.branchingShapesSpec.plain.varTypes Tryz.prog ++ Tryz.f6.resultTypes.toList)) = true := by kernel_rfl
set_option maxRecDepth 100000
theorem branchingShapesClosed : joinedFacts Tryz.prog 6 Tryz.f6 Rows.branchingShapesSpec Rows.branchingShapesRow = true := by
 unfold joinedFacts
 exact and_mk (and_mk (and_mk (and_mk (and_mk (and_mk (and_mk (and_mk (and_mk (and_mk (and_mk (and_mk (and_mk (and_mk (and_mk (and_mk (and_mk (and_mk (and_mk (and_mk (and_mk (and_mk (and_mk (and_mk (and_mk (and_mk (and_mk (and_mk (and_mk (and_mk (and_mk branchingShapesC0 cLaid) cRowed) branchingShapesC3) branchingShapesC4) branchingShapesC5) branchingShapesC6) branchingShapesC7) branchingShapesC8) branchingShapesC9) branchingShapesC10) branchingShapesC11) branchingShapesC12) branchingShapesC13) branchingShapesC14) branchingShapesC15) branchingShapesC16) branchingShapesC17) branchingShapesC18) branchingShapesC19) branchingShapesC20) branchingShapesC21) branchingShapesC22) branchingShapesC23) cHeard) cEnter) cLifts) branchingShapesC27) branchingShapesC28) branchingShapesC29) branchingShapesC30) branchingShapesC31
theorem branchingShapesNamed : Tryz.prog.funcNamed Rows.branchingShapesRow.func = some 6 := by kernel_rfl
end Go.Proofs.YtiklkcjkmhkgjaaGreat
