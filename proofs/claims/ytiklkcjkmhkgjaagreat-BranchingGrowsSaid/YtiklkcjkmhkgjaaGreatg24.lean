/- GP GQ GW HV HE HH HI HJ HK HU VW HW0 HW GR GS LEff LFlat FA LCyc FG GT GU GV GX HX HY HL HZ0 BrZ FK BrM BrN BrO BrCk BrP -/
import Derived.Test.YtiklkcjkmhkgjaaGreatg23
import Derived.Test.YtiklkcjkmhkgjaaGreatg15
import Derived.Test.YtiklkcjkmhkgjaaGreatg17
import Derived.Test.YtiklkcjkmhkgjaaGreatg12
import Derived.Test.YtiklkcjkmhkgjaaGreatg7
import Derived.Test.YtiklkcjkmhkgjaaGreatg10
import Derived.Test.YtiklkcjkmhkgjaaGreatg16
namespace Go.AM
open Go Go.Proofs Go.RowKit
theorem any_bad {α : Type} [Inhabited α] {l : List α} {p : α -> Bool} {i : Nat} (h : i < l.length) (hb : p l[i]! = true) : l.any p = true := by
 rw [List.any_eq_true]
 exact ⟨l[i]!, mem_bangI h, hb⟩
theorem any_ok {α : Type} [Inhabited α] {l : List α} {p : α -> Bool} (h : ∀ i, i < l.length -> p l[i]! = false) : l.any p = false := by
 rw [List.any_eq_false]
 intro x hx
 obtain ⟨i, hi, rfl⟩ := List.getElem_of_mem hx
 have := h i hi
 rw [getElem!_pos l i hi] at this
 rw [this]; simp
theorem CV.Slim.ok {a : CV} (h : a.Slim) : a.Ok := by
 have key : ∀ (N : Nat) (a : CV), SizeOf.sizeOf a <= N -> a.Slim -> a.Ok := by
  intro N
  induction N with
  | zero => intro a hs; cases a; rw [CV.mk.sizeOf_spec] at hs; omega
  | succ N ih =>
   intro a hs ha
   obtain ⟨n, k⟩ := a
   have hl := ha.len
   exact .mk n k (by show k.length <= _; have : k.length <= 1000000 := hl; omega) fun x hx => ih x (by have := kid_size (a := .mk n k) hx; omega) (ha.kid hx)
 exact key _ a (Nat.le_refl _) h
theorem parts_at (ns np : Nat) {k : Nat} (h : k < np + 1) : (partsP ns np)[k]! = if k = 0 then (2, (ns : Int)) else (1, 0) := by
 unfold partsP
 cases k with
 | zero => rfl
 | succ k =>
  have : k < (List.replicate np ((1 : Int), (0 : Int))).length := by rw [List.length_replicate]; omega
  rw [getElem!_pos _ (k + 1) (by rw [List.length_cons]; omega), List.getElem_cons_succ, List.getElem_replicate]; rfl
def cfgO (t s : Nat) (v : List Int) : AV := .ag [vi 0, .sl t 2 (kidZ s :: v.map kidZ)]
attribute [go_sem] cfgO
structure Own (m : MD) : Prop where
 kind : m.kind = 1
 states : 1 <= m.states.length /\ m.states.length <= 8
 places : 1 <= m.places.length /\ m.places.length <= 6
 letters : m.letters = []
 ranks : m.ranks = []
 levels : m.levels = 0
 age : m.age = 0
 names : namesB (m.states ++ m.places) = true
def noR (m : MD) (st : CV) : MD := { m with rules := [], start := st }
def noRA (m : MD) (st : CV) : AV := .ag [vi m.kind, vss m.states, vss m.places, vss m.letters, vs 0 m.ranks, vi m.levels, vi m.age, .nil, vi st.n, .sl 0 2 (st.kids.map vV)]
attribute [go_sem] noRA
def hidA (m : MD) : AV := .ag [vi m.kind, vss m.states, vss m.places, vss m.letters, vs 0 m.ranks, vi m.levels, vi m.age, .any, .any, .any]
attribute [go_sem] hidA
def noSA (m : MD) : AV := .ag [vi m.kind, vss m.states, vss m.places, vss m.letters, vs 0 m.ranks, vi m.levels, vi m.age, .nil, vi 0, .nil]
attribute [go_sem] noSA
set_option maxRecDepth 100000
def nm1 (a : ByteArray) (i : Nat) : ByteArray := a ++ strOf [48 + (i : Int)]
def nmL (a : ByteArray) (n : Nat) : List ByteArray := (List.range n).map (nm1 a)
theorem nmL_len (a : ByteArray) (n : Nat) : (nmL a n).length = n := by simp [nmL]
theorem nmL_succ (a : ByteArray) (n : Nat) : nmL a (n + 1) = nmL a n ++ [nm1 a n] := by unfold nmL; rw [List.range_succ, List.map_append]; rfl
theorem con_names (a : ByteArray) (n : Nat) (ha : a.size <= 10) (hn : n <= 9) : Con Tryz.prog 35 [vStr a, vi n] [] fun r _ => r = .sl 2 1 ((nmL a n).map vStr) := by
 refine Con.intro Tryz.func35 rfl Tryz.ntmps35 Tryz.results35 (by kernel_rfl) (by simp) 0 (by simp) ?_
 simp only [go_sem]
 refine LoopK.intro (fun i : Nat => ⟨23, [(0, vStr a), (1, vi n), (5, .sl 1408 1 ((nmL a i).map vStr)), (6, vi i)], []⟩)
  (fun i => n - i) (fun i => i <= n) 0 (by omega) ?_ ?_
 ·simp only [go_sem, nmL, List.range_zero, List.map_nil]
  all_goals exact leV_nil _ _
 rintro i hi
 by_cases h : i < n
 ·have hw : IntKind.i64.wrap (i + 1) = i + 1 := wrap_in (by omega) (by omega)
  have hw2 : IntKind.i64.wrap (48 + (i : Int)) = 48 + i := wrap_in (by omega) (by omega)
  have hw3 : IntKind.u8.wrap (48 + (i : Int)) = 48 + i := by rw [IntKind.wrap_u8]; omega
  have hb : bytesOf [.sc (.int .u8 (48 + (i : Int)))] = some [48 + (i : Int)] := rfl
  have hs : a.size + (strOf [48 + (i : Int)]).size <= 9223372036854775807 := by
   have e : (strOf [48 + (i : Int)]).size = 1 := rfl
   omega
  have hr : roomFor ((nmL a i).length + 1) 16 := by rw [nmL_len]; simp only [roomFor]; omega
  simp only [go_sem, h, hw, hw2, hw3, hb, hs, hr]
  refine roundK.intro (i + 1) (by omega) (by omega) ?_
  simp only [go_sem, nmL_succ, nm1, List.map_append, List.map_cons, List.map_nil]
 ·have e : i = n := by omega
  subst e
  simp only [go_sem, h]
def emptyB : ByteArray := ⟨#[]⟩
set_option maxHeartbeats 8000000
theorem same_refl (r : RD) : sameB r r = true := by unfold sameB; simp
theorem right_mk {m : MD} {r : RD} (h1 : endsR m r = true) (h2 : fitsR m r = true) (h3 : onlyR m.kind r = r) : rightR m r = true := by
 unfold rightR
 rw [h1, h2, h3, same_refl]; rfl
theorem index_ok {x : Int} {n : Nat} (h : 0 <= x /\ x < n) : indexB x n = true := by unfold indexB; rw [decide_eq_true h.1, decide_eq_true h.2]; rfl
theorem ends_mk {m : MD} {r : RD} (h1 : 0 <= r.dst /\ r.dst < m.states.length) (h2 : 0 <= r.src /\ r.src < m.states.length) : endsR m r = true := by
 unfold endsR
 rw [index_ok h1, index_ok h2]; rfl
def DealtX (m : MD) (x : RD) : Prop := rightR m x = true /\ x.name = emptyB /\ LenR x
def RuleCon (l : List Int) (s : DS) (m : MD) : Prop :=
 Con Tryz.prog 38 [.pb 0 0, hidA m] [deckA l s] fun r b => ∃ (x : RD) (s' : DS), DealtX m x /\ Dk l s' /\ r = vRule x /\ b = [deckA l s']
theorem RuleCon.mk {l : List Int} {s : DS} {m : MD} (h : Con Tryz.prog 38 [.pb 0 0, hidA m] [deckA l s] fun r b => ∃ (x : RD) (s' : DS), DealtX m x /\ Dk l s' /\ leV (r.freeze fun _ => true) (vRule x) /\ b = [deckA l s']) : RuleCon l s m :=
 (h.freezeB fun _ => true).weak fun r b ⟨r1, b1, ⟨x, s', h1, h2, h3, h4⟩, h7, h8⟩ => by
  subst h4; subst h7; subst h8
  exact ⟨vRule x, ⟨x, s', h1, h2, rfl, rfl⟩, h3⟩
def branchRow : List Nat := [0, 1, 5, 2, 3, 4, 6, 7, 8, 9, 10]
def brR (src dst : Int) (n g : List Int) (sec : Int) : RD := ⟨emptyB, src, dst, n, g, [], 0, 0, 0, [], [], [], [], sec⟩
theorem con_dRule6 (l : List Int) (s : DS) (m : MD) (hd : Dk l s) (hk : m.kind = 6) (hp : 1 <= m.places.length /\ m.places.length <= 6) (h1 : 1 <= m.states.length /\ m.states.length <= 8) : RuleCon l s m := by
 refine RuleCon.mk ?_
 refine Con.intro Tryz.func38 rfl Tryz.ntmps38 Tryz.results38 (by kernel_rfl) (by simp) 1 (by simp) ?_
 have hn1 := nextV_lt (l := l) (s := s) (n := m.states.length) (by omega)
 have hd2 : Dk l (nextS l s m.states.length) := nextS_dk hd
 have hn2 := nextV_lt (l := l) (s := nextS l s m.states.length) (n := m.states.length) (by omega)
 have hd3 : Dk l (nextS l (nextS l s m.states.length) m.states.length) := nextS_dk hd2
 simp only [go_sem, hk]
 refine DrawK.news0 [(11, 3)] [14] [] 0 [4, 9] [] 12 (.one 12 .done) none (deckA l s) mixed (by kernel_rfl) (by kernel_rfl) (by kernel_rfl) (by simp only [go_sem]) (by simp only [go_sem]) ⟨by simp only [go_sem], by simp only [go_sem]⟩ ⟨by simp only [go_sem], by simp only [go_sem]⟩ ?_
 simp only [go_sem, List.length_map]
 refine EffK.mk (con_dNext l s m.states.length hd) (by simp only [go_sem]) (by simp only [go_sem]) (by simp only [go_sem]) (by simp only [go_sem]) ?_
 simp only [go_sem, List.length_map]
 refine EffK.mk (con_dNext l (nextS l s m.states.length) m.states.length hd2) (by simp only [go_sem]) (by simp only [go_sem]) (by simp only [go_sem]) (by simp only [go_sem]) ?_
 generalize nextV l s m.states.length = src at hn1
 generalize nextV l (nextS l s m.states.length) m.states.length = dst at hn2
 generalize nextS l (nextS l s m.states.length) m.states.length = s2 at hd3
 have hrep : List.replicate 14 AV.any = [.any, .any, .any, .any, .any, .any, .any, .any, .any, .any, .any, .any, .any, .any] := rfl
 simp only [go_sem, hrep]
 refine ⟨?_, trivial⟩
 have hV1 := smV_low (l := l) (s := s2) (most := 2) (by omega) m.places.length
 have hL1 := smV_len (l := l) (s := s2) (most := 2) m.places.length
 have hd4 : Dk l (smS l s2 2 m.places.length) := smS_dk hd3 _
 refine DrawK.effs branchRow 0 [5] [] 6 (.one 6 (.front 7 (.one 8 (.front 9 (.one 10 .done))))) none (deckA l s2) mixed (by kernel_rfl) (by simp only [branchRow, permG, renO, List.getElem?_cons_zero, List.getElem?_cons_succ, Option.map_none]; exact rfl) (by kernel_rfl) (by kernel_rfl) (by simp only [go_sem]) (by simp only [go_sem]) ?_
 simp only [go_sem]
 refine ⟨Nat.le_refl _, by omega, by omega, ?_⟩
 refine EffK.mk (con_dSmallF l s2 m.places.length 2 hd3 (by omega) (by omega)) (by simp only [go_sem]) (by simp only [go_sem]) (by simp only [go_sem]) (by simp only [go_sem]) ?_
 generalize smV l s2 2 m.places.length = gv at hV1 hL1
 generalize smS l s2 2 m.places.length = s3 at hd4
 have hsm : ∀ q : List Int, (∀ x ∈ q, 0 <= x /\ x <= 2) -> smallB q = true := fun q hq => by
  unfold smallB
  rw [List.all_eq_true]
  intro x hx
  have := hq x hx
  unfold betweenB
  rw [decide_eq_true (by omega), decide_eq_true (by omega)]; rfl
 have hch : ∀ (a b c : Int) (q : List Int), q.length = m.places.length -> (∀ x ∈ q, 0 <= x /\ x <= 2) -> changesB m.places.length (brR a b q gv c) = true := fun a b c q h3 h4 => by
  show (decide (q.length = m.places.length) && decide (gv.length = m.places.length) && smallB q && smallB gv) = true
  rw [decide_eq_true h3, decide_eq_true hL1, hsm q h4, hsm gv hV1]; rfl
 have hlen : ∀ (a b c : Int) (q : List Int), q.length = m.places.length -> LenR (brR a b q gv c) := fun a b c q h3 => ⟨⟨by show q.length <= _; omega, by show gv.length <= _; omega, by simp [brR], by simp [brR], by simp [brR], by simp [brR], by simp [brR]⟩, by simp [brR], by simp [brR]⟩
 have hfit : ∀ r, fitsR m r = branchB m.states.length m.places.length r := fun r => by unfold fitsR; rw [if_neg (by omega), if_neg (by omega), if_neg (by omega), if_neg (by omega)]
 have honly : ∀ (a b c : Int) (q : List Int), onlyR m.kind (brR a b q gv c) = brR a b q gv c := fun a b c q => by rw [hk]; rfl
 have hd5 : Dk l (nextS l s3 3) := nextS_dk hd4
 simp only [go_sem]
 refine ⟨?_, trivial⟩
 refine CallU.boxes (i := 0) (is := []) (bx0 := [deckA l s3]) (con_dOne l s3 3 hd4) (by simp only [go_sem]) (by simp only [go_sem]) (by simp only [go_sem]) (by simp only [go_sem]) (by simp only [go_sem]) ?_
 rintro r b ⟨rfl, rfl⟩
 generalize nextS l s3 3 = s4 at hd5
 cases ho : oneV l s3 3
 case true =>
  simp only [go_sem]
  refine ⟨brR (-1) dst (List.replicate m.places.length 0) gv (-1), s4, ⟨right_mk ?_ ?_ (honly ..), rfl, hlen _ _ _ _ (List.length_replicate ..)⟩, hd5, ?_, rfl⟩
  ·unfold endsR
   rw [show indexB (brR (-1) dst (List.replicate m.places.length 0) gv (-1)).dst m.states.length = true from index_ok hn2, hk]
   show (true && (indexB (-1) m.states.length || true)) = true
   rw [Bool.or_true]; rfl
  ·rw [hfit]
   unfold branchB
   rw [hch _ _ _ _ (List.length_replicate ..) (fun x hx => by rw [List.eq_of_mem_replicate hx]; omega)]
   show (true && true && (decide ((0 : Int) <= -1) || (true && (List.replicate m.places.length (0 : Int)).all fun x => x == 0))) = true
   have : ((List.replicate m.places.length (0 : Int)).all fun x => x == 0) = true := List.all_eq_true.2 fun x hx => by rw [List.eq_of_mem_replicate hx]; rfl
   rw [this]; rfl
  ·have e : List.replicate m.places.length (AV.sc (.int .i64 0)) = (List.replicate m.places.length (0 : Int)).map vi := by rw [List.map_replicate]; rfl
   rw [e]
   exact leV_ag ⟨leV_refl _, leV_refl _, leV_refl _, leV_refl _, leV_refl _, leV_nil _ _, leV_refl _, leV_refl _, leV_refl _, leV_nil _ _, leV_nil _ _, leV_nil _ _, leV_nil _ _, leV_refl _, trivial⟩
 have hV2 := smV_low (l := l) (s := s4) (most := 1) (by omega) m.places.length
 have hL2 := smV_len (l := l) (s := s4) (most := 1) m.places.length
 have hd6 : Dk l (smS l s4 1 m.places.length) := smS_dk hd5 _
 simp only [go_sem]
 refine CallU.boxes (i := 0) (is := []) (bx0 := [deckA l s4]) (con_dSmallF l s4 m.places.length 1 hd5 (by omega) (by omega)) (by simp only [go_sem]) (by simp only [go_sem]) (by simp only [go_sem]) (by simp only [go_sem]) (by simp only [go_sem]) ?_
 rintro r b ⟨rfl, rfl⟩
 generalize smV l s4 1 m.places.length = nd at hV2 hL2
 generalize smS l s4 1 m.places.length = s5 at hd6
 have hws : IntKind.i64.wrap ((m.states.length : Int) + 1) = (m.states.length : Int) + 1 := wrap_in (by omega) (by omega)
 have hx := nextV_lt (l := l) (s := s5) (n := (m.states.length : Int) + 1) (by omega)
 have hd7 : Dk l (nextS l s5 ((m.states.length : Int) + 1)) := nextS_dk hd6
 simp only [go_sem, hws]
 refine CallU.boxes (i := 0) (is := []) (bx0 := [deckA l s5]) (con_dNext l s5 ((m.states.length : Int) + 1) hd6) (by simp only [go_sem]) (by simp only [go_sem]) (by simp only [go_sem]) (by simp only [go_sem]) (by simp only [go_sem]) ?_
 rintro r b ⟨rfl, rfl⟩
 generalize nextV l s5 ((m.states.length : Int) + 1) = sec at hx
 generalize nextS l s5 ((m.states.length : Int) + 1) = s6 at hd7
 have hwx : IntKind.i64.wrap (sec - 1) = sec - 1 := wrap_in (by omega) (by omega)
 simp only [go_sem, hwx]
 refine ⟨brR src dst nd gv (sec - 1), s6, ⟨right_mk (ends_mk hn2 hn1) ?_ (honly ..), rfl, hlen _ _ _ _ hL2⟩, hd7, ?_, rfl⟩
 ·rw [hfit]
  unfold branchB
  rw [hch _ _ _ _ hL2 (fun x hx => by have := hV2 x hx; omega)]
  have e1 : (sec - 1 == -1 || indexB (sec - 1) m.states.length) = true := by
   by_cases h0 : sec = 0
   ·rw [h0]; rfl
   ·rw [index_ok (by omega), Bool.or_true]
  show (true && (sec - 1 == -1 || indexB (sec - 1) m.states.length) && (decide (0 <= src) || _)) = true
  rw [e1, decide_eq_true hn1.1]; rfl
 ·exact leV_ag ⟨leV_refl _, leV_refl _, leV_refl _, leV_refl _, leV_refl _, leV_nil _ _, leV_refl _, leV_refl _, leV_refl _, leV_nil _ _, leV_nil _ _, leV_nil _ _, leV_nil _ _, leV_refl _, trivial⟩
theorem con_rtypeOf16 (m : MD) (hp : m.places.length <= 1000000) (hk : m.kind = 1 \/ m.kind = 6) : Con Tryz.prog 68 [vM m] [] fun r _ => r = flatT 2 (partsP m.states.length m.places.length) := by
 refine Con.intro Tryz.func68 rfl Tryz.ntmps68 Tryz.results68 (by kernel_rfl) (by simp) 0 (by simp) ?_
 have b2 : (m.kind == 2) = false := beq_eq_false_iff_ne.2 (by omega)
 have b3 : (m.kind == 3) = false := beq_eq_false_iff_ne.2 (by omega)
 have b4 : (m.kind == 4) = false := beq_eq_false_iff_ne.2 (by omega)
 have b5 : (m.kind == 5) = false := beq_eq_false_iff_ne.2 (by omega)
 unfold vM cM
 simp only [go_sem, vss, List.length_map, b4, b5]
 refine LoopK.intro (fun i : Nat => ⟨96, [(1, .pb 0 0), (2, .pb 1 0), (3, .pb 2 0), (4, .pb 3 0), (8, vi i)], [vi m.kind, .sl 0 1 (m.states.map vStr), .sl 0 1 (m.places.map vStr), .sl 0 1 (m.letters.map vStr), vs 0 m.ranks, vi m.levels, vi m.age, .sl 0 14 (m.rules.map vRule), vi m.start.n, .sl 0 2 (m.start.kids.map vV)] :: [.any, .any, .any, .any] :: [vi 3, vi 0, .nil, .sl 960 4 ((partsP m.states.length i).map vPT)] :: [.any, .any, .any, .any] :: Rk 4 i⟩)
  (fun i => m.places.length - i) (fun i => i <= m.places.length) 0 (by omega) ?_ ?_
 ·simp only [go_sem, partsP, List.replicate_zero, List.map_cons, List.map_nil]
  all_goals exact leB_self _
 rintro i hi
 by_cases hlt : i < m.places.length
 ·have hw : IntKind.i64.wrap (i + 1) = i + 1 := wrap_in (by omega) (by omega)
  have hB := Rk_len 4 i
  have n0 := fun L : List (List AV) => app_at0 (L := L) hB
  have s0 := fun (L : List (List AV)) z => app_set0 (L := L) (z := z) hB
  have e := parts_succ m.states.length i
  simp only [go_sem, hlt, hw, hB, n0, s0, b2, b3, List.length_map]
  refine ⟨by simp only [roomFor, parts_len]; omega, ?_⟩
  refine roundK.intro (i + 1) (by omega) (by omega) ?_
  simp only [go_sem, Rk_succ, e, List.map_append, List.map_cons, List.map_nil]
  exact leB_RkA ⟨leC_any _ 4 rfl, trivial⟩
 ·obtain rfl : i = m.places.length := by omega
  simp only [go_sem, hlt, List.length_map]
end Go.AM
namespace Go.AM
end Go.AM
namespace Go.AM
open Go Go.Proofs Go.RowKit
end Go.AM
namespace Go.AM
end Go.AM
namespace Go.AM
open Go Go.Proofs Go.RowKit
structure OwnX (m : MD) : Prop where
 kind : betweenB m.kind 1 6 = true
 sized : sizedB (noR m zeroV) = true
 ranked : rankedB m = true
 names : namesB (m.states ++ m.places ++ m.letters) = true
 sizes : ∀ s ∈ m.states ++ m.places ++ m.letters, s.size <= 9223372036854775806
def lowN (m : MD) : Nat := if m.kind = 4 \/ m.kind = 5 then 1 else m.places.length
def qB : ByteArray := ⟨#[113]⟩
def pB : ByteArray := ⟨#[112]⟩
def rB : ByteArray := ⟨#[114]⟩
def rkL (k j : Nat) : List ByteArray := (List.range j).map fun t => nm1 rB (k - t)
theorem rk_succ (k j : Nat) : rkL k (j + 1) = rkL k j ++ [nm1 rB (k - j)] := by unfold rkL; rw [List.range_succ, List.map_append]; rfl
theorem con_namesF (a : ByteArray) (n : Nat) (ha : a.size <= 10) (hn : n <= 9) : Con Tryz.prog 35 [vStr a, vi n] [] fun r _ => r = vss (nmL a n) :=
 (Con.freezeR (fun _ => true) (con_names a n ha hn)).weak fun r b ⟨r0, h0, h1⟩ => by
  subst h0; subst h1
  exact ⟨_, rfl, leV_refl _⟩
def cB : ByteArray := ⟨#[99]⟩
def lB : ByteArray := ⟨#[108]⟩
def plB (k : Int) : ByteArray := if k = 2 \/ k = 3 then cB else pB
def dealtG (k : Int) (ns np nl : Nat) (ra : List Int) (lv ag : Int) (rules : List RD) (st : CV) : MD := { kind := k, states := nmL qB ns, places := nmL (plB k) np, letters := nmL lB nl, ranks := ra, levels := lv, age := ag, rules := rules, start := st }
structure NumOk (k : Int) (ns np nl : Nat) (ra : List Int) (lv ag : Int) : Prop where
 kind : 1 <= k /\ k <= 6
 states : 1 <= ns /\ ns <= 3
 places : (k = 4 -> np = 0) /\ (k = 2 \/ k = 3 -> 1 <= np /\ np <= 2) /\ (k = 1 \/ k = 5 \/ k = 6 -> 1 <= np /\ np <= 3)
 letters : (k = 2 \/ k = 3 \/ k = 4 -> 1 <= nl /\ nl <= 3) /\ (k = 1 \/ k = 5 \/ k = 6 -> nl = 0)
 ranks : (k = 3 -> ra.length = nl /\ ∀ x ∈ ra, 0 <= x /\ x <= 2) /\ (k ≠ 3 -> ra = [])
 levels : (k = 4 -> 1 <= lv /\ lv <= 2) /\ (k ≠ 4 -> lv = 0)
 age : (k = 5 -> 0 <= ag /\ ag <= 2) /\ (k ≠ 5 -> ag = 0)
theorem names_g {k : Int} {ns np nl c : Nat} (h1 : 1 <= ns /\ ns <= 3) (h2 : np <= 3) (h3 : nl <= 3) (h4 : c <= 4) : namesB (nmL qB ns ++ nmL (plB k) np ++ nmL lB nl ++ rkL c c) = true := by
 have key : ∀ p ∈ [cB, pB], ∀ a ∈ [1, 2, 3], ∀ b ∈ [0, 1, 2, 3], ∀ d ∈ [0, 1, 2, 3], ∀ c ∈ [0, 1, 2, 3, 4], namesB (nmL qB a ++ nmL p b ++ nmL lB d ++ rkL c c) = true := by
  have : ([cB, pB].all fun p => [1, 2, 3].all fun a => [0, 1, 2, 3].all fun b => [0, 1, 2, 3].all fun d => [0, 1, 2, 3, 4].all fun c => namesB (nmL qB a ++ nmL p b ++ nmL lB d ++ rkL c c)) = true := by kernel_rfl
  intro p hp a ha b hb d hd c hc
  exact List.all_eq_true.1 (List.all_eq_true.1 (List.all_eq_true.1 (List.all_eq_true.1 (List.all_eq_true.1 this p hp) a ha) b hb) d hd) c hc
 refine key (plB k) ?_ ns (by simp; omega) np (by simp; omega) nl (by simp; omega) c (by simp; omega)
 unfold plB
 split <;> simp
theorem nm_size {a : ByteArray} {n : Nat} (ha : a.size <= 10) : ∀ s ∈ nmL a n, s.size <= 9223372036854775806 := fun s hs => by
 obtain ⟨i, _, rfl⟩ := List.mem_map.1 hs
 have e : (nm1 a i).size = a.size + 1 := by unfold nm1; rw [ByteArray.size_append]; rfl
 omega
section
variable {k : Int} {ns np nl : Nat} {ra : List Int} {lv ag : Int} {rules : List RD} {st : CV}
theorem NumOk.few (h : NumOk k ns np nl ra lv ag) : np <= 3 /\ nl <= 3 := by
 have := h.kind; have := h.places; have := h.letters
 omega
theorem NumOk.sized (h : NumOk k ns np nl ra lv ag) (hr : rules.length <= 12) : sizedB (dealtG k ns np nl ra lv ag rules st) = true := by
 have h1 := h.kind; have h2 := h.states; have h3 := h.places; have h4 := h.letters; have h5 := h.levels; have h6 := h.age
 have l1 : (dealtG k ns np nl ra lv ag rules st).states.length = ns := nmL_len _ _
 have l2 : (dealtG k ns np nl ra lv ag rules st).places.length = np := nmL_len _ _
 have l3 : (dealtG k ns np nl ra lv ag rules st).letters.length = nl := nmL_len _ _
 unfold sizedB betweenB
 rw [l1, l2, l3]
 show (decide ((1 : Int) <= ns) && decide ((ns : Int) <= 8) && decide (rules.length <= 12) && (decide (lim k 0 <= np) && decide ((np : Int) <= lim k 1)) && (decide (lim k 2 <= nl) && decide ((nl : Int) <= lim k 3)) && (decide (lim k 4 <= lv) && decide (lv <= lim k 5)) && (decide (lim k 6 <= ag) && decide (ag <= lim k 7))) = true
 obtain rfl | rfl | rfl | rfl | rfl | rfl : k = 1 \/ k = 2 \/ k = 3 \/ k = 4 \/ k = 5 \/ k = 6 := by omega
 all_goals simp only [Bool.and_eq_true, decide_eq_true_eq]
 ·have e : lim 1 0 = 1 /\ lim 1 1 = 6 /\ lim 1 2 = 0 /\ lim 1 3 = 0 /\ lim 1 4 = 0 /\ lim 1 5 = 0 /\ lim 1 6 = 0 /\ lim 1 7 = 0 := by decide
  omega
 ·have e : lim 2 0 = 1 /\ lim 2 1 = 2 /\ lim 2 2 = 1 /\ lim 2 3 = 6 /\ lim 2 4 = 0 /\ lim 2 5 = 0 /\ lim 2 6 = 0 /\ lim 2 7 = 0 := by decide
  omega
 ·have e : lim 3 0 = 1 /\ lim 3 1 = 2 /\ lim 3 2 = 1 /\ lim 3 3 = 6 /\ lim 3 4 = 0 /\ lim 3 5 = 0 /\ lim 3 6 = 0 /\ lim 3 7 = 0 := by decide
  omega
 ·have e : lim 4 0 = 0 /\ lim 4 1 = 0 /\ lim 4 2 = 1 /\ lim 4 3 = 6 /\ lim 4 4 = 1 /\ lim 4 5 = 2 /\ lim 4 6 = 0 /\ lim 4 7 = 0 := by decide
  omega
 ·have e : lim 5 0 = 1 /\ lim 5 1 = 6 /\ lim 5 2 = 0 /\ lim 5 3 = 0 /\ lim 5 4 = 0 /\ lim 5 5 = 0 /\ lim 5 6 = 0 /\ lim 5 7 = 3 := by decide
  omega
 ·have e : lim 6 0 = 1 /\ lim 6 1 = 6 /\ lim 6 2 = 0 /\ lim 6 3 = 0 /\ lim 6 4 = 0 /\ lim 6 5 = 0 /\ lim 6 6 = 0 /\ lim 6 7 = 0 := by decide
  omega
theorem NumOk.ranked (h : NumOk k ns np nl ra lv ag) : rankedB (dealtG k ns np nl ra lv ag rules st) = true := by
 have l3 : (dealtG k ns np nl ra lv ag rules st).letters.length = nl := nmL_len _ _
 unfold rankedB
 rw [l3]
 show (if k = 3 then decide (ra.length = nl) && ra.all fun r => betweenB r 0 5 else ra.length == 0) = true
 by_cases h3 : k = 3
 ·obtain ⟨a, b⟩ := h.ranks.1 h3
  rw [if_pos h3, decide_eq_true a, Bool.true_and, List.all_eq_true]
  intro x hx
  have := b x hx
  unfold betweenB
  rw [decide_eq_true this.1, decide_eq_true (by omega)]; rfl
 ·rw [if_neg h3, h.ranks.2 h3]; rfl
theorem NumOk.between (h : NumOk k ns np nl ra lv ag) : betweenB k 1 6 = true := by
 unfold betweenB
 rw [decide_eq_true h.kind.1, decide_eq_true h.kind.2]; rfl
theorem NumOk.own (h : NumOk k ns np nl ra lv ag) : OwnX (dealtG k ns np nl ra lv ag rules st) := by
 have hf := h.few
 refine ⟨h.between, h.sized (rules := []) (st := zeroV) (by simp), h.ranked, ?_, fun s hs => ?_⟩
 ·have := names_g (k := k) (c := 0) h.states hf.1 hf.2 (by omega)
  rw [show rkL 0 0 = [] from rfl, List.append_nil] at this
  exact this
 ·rcases List.mem_append.1 hs with hs | hs
  ·rcases List.mem_append.1 hs with hs | hs
   ·exact nm_size (a := qB) (by decide) s hs
   ·refine nm_size (a := plB k) ?_ s hs
    unfold plB; split <;> decide
  ·exact nm_size (a := lB) (by decide) s hs
end
structure DealtG (k : Int) (ns np nl : Nat) (ra : List Int) (lv ag : Int) (rules : List RD) (st : CV) : Prop where
 num : NumOk k ns np nl ra lv ag
 few : rules.length <= 4
 names : rules.map RD.name = rkL rules.length rules.length
 rules : ∀ r ∈ rules, rightR (dealtG k ns np nl ra lv ag [] zeroV) r = true /\ LenR r
 start : if k = 6 then st = zeroV else validV (typeM (dealtG k ns np nl ra lv ag [] zeroV)) st = true
 slim : st.Slim
section
variable {k : Int} {ns np nl : Nat} {ra : List Int} {lv ag : Int} {rules : List RD} {st : CV}
theorem DealtG.len (h : DealtG k ns np nl ra lv ag rules st) : LenM (dealtG k ns np nl ra lv ag rules st) := by
 have hn := h.num
 have hf := hn.few
 have h4 := h.few
 have e : namesOf (dealtG k ns np nl ra lv ag rules st) = nmL qB ns ++ nmL (plB k) np ++ nmL lB nl ++ rules.map RD.name := rfl
 have hs := hn.states
 refine ⟨?_, ?_, ?_, fun r hr => (h.rules r hr).2, h.slim.ok⟩
 ·rw [e]
  simp only [List.length_append, List.length_map, nmL_len]
  omega
 ·rw [e]
  intro s hs
  rcases List.mem_append.1 hs with hs | hs
  ·exact hn.own (rules := []) (st := zeroV) |>.sizes s hs
  ·rw [h.names] at hs
   obtain ⟨i, _, rfl⟩ := List.mem_map.1 hs
   have e : (nm1 rB (rules.length - i)).size = rB.size + 1 := by unfold nm1; rw [ByteArray.size_append]; rfl
   have : rB.size = 1 := rfl
   omega
 ·show ra.length <= _
  by_cases h3 : k = 3
  ·have := (hn.ranks.1 h3).1; omega
  ·rw [hn.ranks.2 h3]; simp
theorem DealtG.check (h : DealtG k ns np nl ra lv ag rules st) : checkF (dealtG k ns np nl ra lv ag rules st) = 0 := by
 have hn := h.num
 have hf := hn.few
 have h1 : betweenB (dealtG k ns np nl ra lv ag rules st).kind 1 6 = true := hn.between
 have h2 : sizedB (dealtG k ns np nl ra lv ag rules st) = true := hn.sized (by have := h.few; omega)
 have h3 : rankedB (dealtG k ns np nl ra lv ag rules st) = true := hn.ranked
 have h4 : namesB (namesOf (dealtG k ns np nl ra lv ag rules st)) = true := by
  show namesB (nmL qB ns ++ nmL (plB k) np ++ nmL lB nl ++ rules.map RD.name) = true
  rw [h.names]
  exact names_g hn.states hf.1 hf.2 h.few
 have h5 : ((dealtG k ns np nl ra lv ag rules st).rules.any fun r => !rightR (dealtG k ns np nl ra lv ag rules st) r) = false := by
  rw [List.any_eq_false]
  intro r hr
  have := (h.rules r hr).1
  have e : rightR (dealtG k ns np nl ra lv ag rules st) r = rightR (dealtG k ns np nl ra lv ag [] zeroV) r := rfl
  rw [e, this]; decide
 have h6 : beginsF (dealtG k ns np nl ra lv ag rules st) = true := by
  have hs := h.start
  unfold beginsF
  by_cases k6 : k = 6
  ·rw [if_pos k6] at hs
   rw [if_pos (show (dealtG k ns np nl ra lv ag rules st).kind = 6 from k6), hs]; rfl
  ·rw [if_neg k6] at hs
   rw [if_neg (show ¬ (dealtG k ns np nl ra lv ag rules st).kind = 6 from k6)]
   exact hs
 unfold checkF
 rw [h1, h2, h3, h4, h5, h6]
 simp only [Bool.true_eq_false, Bool.false_eq_true, if_false]
end
theorem plB_6 : plB 6 = pB := by unfold plB; rw [if_neg (by omega)]
theorem nmL_zero (a : ByteArray) : nmL a 0 = [] := rfl
theorem num6 {ns np : Nat} (a : 1 <= ns /\ ns <= 3) (b : 1 <= np /\ np <= 3) : NumOk 6 ns np 0 [] 0 0 := ⟨by omega, a, by omega, by omega, ⟨fun h => by omega, fun _ => rfl⟩, by omega, by omega⟩
theorem right_name (m : MD) (x : RD) (a : ByteArray) : rightR m { x with name := a } = rightR m x := by
 have e : sameB { x with name := a } (onlyR m.kind { x with name := a }) = sameB x (onlyR m.kind x) := by
  unfold onlyR
  split
  ·unfold sameB; simp
  ·split
   ·unfold sameB; simp
   ·split
    ·unfold sameB; simp
    ·split
     ·unfold sameB; simp
     ·unfold sameB; simp
 unfold rightR
 rw [e]; rfl
set_option maxRecDepth 100000
set_option maxHeartbeats 8000000
theorem con_dRuleZ (l : List Int) (s : DS) {ns np nl : Nat} {ra : List Int} {lv ag : Int} (hd : Dk l s) (h : NumOk 6 ns np nl ra lv ag) : RuleCon l s (dealtG 6 ns np nl ra lv ag [] zeroV) := by
 have h2 := h.states; have h3 := h.places
 have l1 : (dealtG 6 ns np nl ra lv ag [] zeroV).states.length = ns := nmL_len _ _
 have l2 : (dealtG 6 ns np nl ra lv ag [] zeroV).places.length = np := nmL_len _ _
 exact con_dRule6 l s _ hd rfl (by rw [l2]; omega) (by rw [l1]; omega)
theorem con_dModelZ0 (l : List Int) (s : DS) (hd : Dk l s) : Con Tryz.prog 12 [.pb 0 0, vi 6] [deckA l s]
  fun r b => ∃ (ns np nl : Nat) (ra : List Int) (lv ag : Int) (rules : List RD) (st : CV) (s' : DS), DealtG 6 ns np nl ra lv ag rules st /\ Dk l s' /\ leV (r.freeze fun _ => true) (vM (dealtG 6 ns np nl ra lv ag rules st)) /\ b = [deckA l s'] := by
 refine Con.intro Tryz.func12 rfl Tryz.ntmps12 Tryz.results12 (by kernel_rfl) (by simp) 1 (by simp) ?_
 apply share3 (T := fun τ => ∃ (ns np nl : Nat) (ra : List Int) (lv ag : Int) (K : Nat) (s' : DS), NumOk 6 ns np nl ra lv ag /\ K <= 4 /\ Dk l s' /\ τ.le ⟨103, [(0, .pb 0 0), (1, vi 6), (4, .pb 1 0), (5, .pb 2 0), (6, vi ((K - 0 : Nat) : Int))], [deckA l s', [.any, .any, .any, .any, .any, .any, .any, .any, .any, .any],
    [vi 6, vss (nmL qB ns), vss (nmL (plB 6) np), vss (nmL lB nl), vs 0 ra, vi lv, vi ag, .sl 6080 14 [], vi 0, .nil]]⟩)
 case h =>
  intro hsh
  have hd_s0 := hd
  obtain ⟨s0, hs0⟩ : ∃ s0, s0 = s := ⟨_, rfl⟩
  rw [<- hs0] at hd_s0
  rw [<- hs0]
  simp only [go_sem]
  have hn_ns := nextV_lt (l := l) (s := s0) (n := 3) (by omega)
  have hd_s1 : Dk l (nextS l s0 3) := nextS_dk hd_s0
  refine CallU.boxes (i := 0) (is := []) (bx0 := [deckA l s0]) (con_dNext l s0 3 hd_s0) (by simp only [go_sem]) (by simp only [go_sem]) (by simp only [go_sem]) (by simp only [go_sem]) (by simp only [go_sem]) ?_
  rintro r b ⟨rfl, rfl⟩
  obtain ⟨ns, ens, hns⟩ : ∃ ns : Nat, 1 + nextV l s0 3 = ns /\ (1 <= ns /\ ns <= 3) := ⟨(1 + nextV l s0 3).toNat, by omega, by omega⟩
  have hw_ns : IntKind.i64.wrap (1 + nextV l s0 3) = ns := by rw [wrap_in (by omega) (by omega), ens]
  clear ens hn_ns
  simp only [go_sem, hw_ns]
  clear hw_ns
  generalize nextS l s0 3 = s1 at hd_s1 ⊢
  refine CallU.free (con_namesF qB ns (by decide) (by omega)) (by simp only [go_sem]) (by simp only [go_sem, qB]) ?_
  rintro r b rfl
  simp only [go_sem]
  have hn_np := nextV_lt (l := l) (s := s1) (n := 3) (by omega)
  have hd_s2 : Dk l (nextS l s1 3) := nextS_dk hd_s1
  refine CallU.boxes (i := 0) (is := []) (bx0 := [deckA l s1]) (con_dNext l s1 3 hd_s1) (by simp only [go_sem]) (by simp only [go_sem]) (by simp only [go_sem]) (by simp only [go_sem]) (by simp only [go_sem]) ?_
  rintro r b ⟨rfl, rfl⟩
  obtain ⟨np, enp, hnp⟩ : ∃ np : Nat, 1 + nextV l s1 3 = np /\ (1 <= np /\ np <= 3) := ⟨(1 + nextV l s1 3).toNat, by omega, by omega⟩
  have hw_np : IntKind.i64.wrap (1 + nextV l s1 3) = np := by rw [wrap_in (by omega) (by omega), enp]
  clear enp hn_np
  simp only [go_sem, hw_np]
  clear hw_np
  generalize nextS l s1 3 = s2 at hd_s2 ⊢
  refine CallU.free (con_namesF pB np (by decide) (by omega)) (by simp only [go_sem]) (by simp only [go_sem, pB]) ?_
  rintro r b rfl
  simp only [go_sem]
  have hn_K := nextV_lt (l := l) (s := s2) (n := 5) (by omega)
  have hd_K : Dk l (nextS l s2 5) := nextS_dk hd_s2
  refine CallU.boxes (i := 0) (is := []) (bx0 := [deckA l s2]) (con_dNext l s2 5 hd_s2) (by simp only [go_sem]) (by simp only [go_sem]) (by simp only [go_sem]) (by simp only [go_sem]) (by simp only [go_sem]) ?_
  rintro r b ⟨rfl, rfl⟩
  obtain ⟨K, eK, hK⟩ : ∃ K : Nat, nextV l s2 5 = K /\ K <= 4 := ⟨(nextV l s2 5).toNat, by omega, by omega⟩
  clear hn_K
  simp only [go_sem, eK]
  refine hsh _ ⟨ns, np, 0, [], 0, 0, K, _, num6 hns hnp, hK, hd_K, ?_⟩
  skip
  simp only [go_sem, vss, plB_6, nmL_zero, List.map_nil, Nat.sub_zero]
  repeat' (first | exact trivial | exact leV_nil _ _ | exact leV_refl _ | refine ⟨?_, ?_⟩)
 case key =>
  rintro τ ⟨ns, np, nl, ra, lv, ag, K, s0, hN, hK, hd0, hle⟩
  refine LoopK.intro (fun p : List RD × DS => ⟨103, [(0, .pb 0 0), (1, vi 6), (4, .pb 1 0), (5, .pb 2 0), (6, vi ((K - p.1.length : Nat) : Int))], deckA l p.2 :: [.any, .any, .any, .any, .any, .any, .any, .any, .any, .any] ::
    [vi 6, vss (nmL qB ns), vss (nmL (plB 6) np), vss (nmL lB nl), vs 0 ra, vi lv, vi ag, .sl 6080 14 (p.1.map vRule), vi 0, .nil] :: Rk 14 p.1.length⟩)
   (fun p => K - p.1.length) (fun p => p.1.length <= K /\ Dk l p.2 /\ p.1.map RD.name = rkL K p.1.length /\ ∀ r ∈ p.1, rightR (dealtG 6 ns np nl ra lv ag [] zeroV) r = true /\ LenR r) ([], s0) ⟨by simp, hd0, rfl, fun r hr => by cases hr⟩ hle ?_
  clear hle
  rintro ⟨rules, s4⟩ ⟨h1, h2, h3, h4⟩
  simp only at h1 h2 h3 h4
  have hB := Rk_len 14 rules.length
  have n0 := fun L : List (List AV) => app_at0 (L := L) hB
  have s0' := fun (L : List (List AV)) z => app_set0 (L := L) (z := z) hB
  by_cases h : rules.length < K
  ·have hgt : (0 : Int) < ((K - rules.length : Nat) : Int) := by omega
   have hru : Con Tryz.prog 38 [.pb 0 0, hidA (dealtG 6 ns np nl ra lv ag [] zeroV)] [deckA l s4] _ := con_dRuleZ l s4 h2 hN
   simp only [go_sem, hgt, vss]
   refine CallU.hide [] [.pb 0 0, hidA (dealtG 6 ns np nl ra lv ag [] zeroV)] (i := 0) (is := []) (bx0 := [deckA l s4]) hru (by simp only [go_sem]) ?_ (by simp only [go_sem]) (by simp only [go_sem]) (by simp only [go_sem]) (by simp only [go_sem]) (by simp only [go_sem]) ?_
   ·simp only [go_sem]
    exact leV_ag ⟨leV_refl _, leV_refl _, leV_refl _, leV_refl _, leV_refl _, leV_refl _, leV_refl _, leV_any _, leV_any _, leV_any _, trivial⟩
   rintro r b ⟨x, s5, ⟨g1, g1n, g1l⟩, g3, rfl, rfl⟩
   obtain ⟨q, hq⟩ : ∃ q, q = K - rules.length := ⟨_, rfl⟩
   rw [<- hq]
   have hw3 : IntKind.i64.wrap (48 + (q : Int)) = 48 + q := wrap_in (by omega) (by omega)
   have hw4 : IntKind.u8.wrap (48 + (q : Int)) = 48 + q := by rw [IntKind.wrap_u8]; omega
   have hb : bytesOf [.sc (.int .u8 (48 + (q : Int)))] = some [48 + (q : Int)] := rfl
   have e1 : (strOf [48 + (q : Int)]).size = 1 := rfl
   have hw5 : IntKind.i64.wrap ((q : Int) - 1) = ((K - (rules.length + 1) : Nat) : Int) := by rw [wrap_in (by omega) (by omega)]; omega
   simp only [go_sem, hB, n0, s0', hw3, hw4, hb, hw5]
   refine ⟨by rw [e1]; omega, by simp only [roomFor]; omega, roundK.intro (rules ++ [{ x with name := nm1 rB q }], s5) ⟨by rw [List.length_append]; show rules.length + 1 <= K; omega, g3, ?_, fun r hr => ?_⟩ (by show K - (rules ++ [_]).length < K - rules.length; rw [List.length_append]; show K - (rules.length + 1) < _; omega) ?_⟩
   ·show (rules ++ [{ x with name := nm1 rB q }]).map RD.name = rkL K (rules ++ [_]).length
    rw [List.length_append, List.map_append, h3]
    show rkL K rules.length ++ [nm1 rB q] = rkL K (rules.length + 1)
    rw [rk_succ, hq]
   ·rcases List.mem_append.1 hr with hr | hr
    ·exact h4 r hr
    ·rw [List.mem_singleton] at hr; subst hr
     exact ⟨by rw [right_name]; exact g1, ⟨⟨g1l.len.need, g1l.len.give, g1l.len.move, g1l.len.path, g1l.len.next, g1l.len.takes, g1l.len.makes⟩, g1l.path, g1l.next⟩⟩
   ·simp only [go_sem, Rk_succ, List.length_append, List.length_cons, List.length_nil, List.map_append, List.map_cons, List.map_nil, nm1, rB]
    exact leB_RkA ⟨leC_any _ 14 rfl, trivial⟩
  ·have ek2 : rules.length = K := by omega
   have hgt : ¬ (0 : Int) < ((K - rules.length : Nat) : Int) := by omega
   have b6 : ((6 : Int) != 6) = false := by decide
   simp only [go_sem, hgt, b6, vss]
   refine ⟨ns, np, nl, ra, lv, ag, rules, zeroV, s4, ⟨hN, by omega, by rw [h3, ek2], h4, by rw [if_pos rfl], .leaf 0⟩, h2, ?_, rfl⟩
   exact leV_ag ⟨leV_refl _, leV_refl _, leV_refl _, leV_refl _, leV_refl _, leV_refl _, leV_refl _, leV_refl _, leV_refl _, leV_nil 0 2, trivial⟩
theorem con_dModelZ (l : List Int) (s : DS) (hd : Dk l s) : Con Tryz.prog 12 [.pb 0 0, vi 6] [deckA l s]
  fun r b => ∃ (ns np nl : Nat) (ra : List Int) (lv ag : Int) (rules : List RD) (st : CV) (s' : DS), DealtG 6 ns np nl ra lv ag rules st /\ Dk l s' /\ r = vM (dealtG 6 ns np nl ra lv ag rules st) /\ b = [deckA l s'] :=
 ((con_dModelZ0 l s hd).freezeB fun _ => true).weak fun r b ⟨r1, b1, ⟨ns, np, nl, ra, lv, ag, rules, st, s', h1, h2, h3, h4⟩, h7, h8⟩ => by
  subst h4; subst h7; subst h8
  exact ⟨_, ⟨ns, np, nl, ra, lv, ag, rules, st, s', h1, h2, rfl, rfl⟩, h3⟩
theorem con_few21 (l : List Int) : Con Tryz.prog 9 [vs 0 l] [] fun r _ => r = vb (decide ((l.length : Int) <= 400)) := by
 refine Con.intro Tryz.func9 rfl Tryz.ntmps9 Tryz.results9 (by kernel_rfl) (by simp) 0 (by simp) ?_
 simp only [go_sem]
def seed21 : DS := (0, 11400714819323198485)
theorem con_new21 (l : List Int) : Con Tryz.prog 11 [vs 0 l] [] fun r b => r = .pb 0 0 /\ b = [deckA l seed21] := con_dNew l
theorem deck21 {l : List Int} (h : (l.length : Int) <= 400) : Dk l seed21 := ⟨Nat.zero_le _, by omega⟩
theorem dealt_bra {ns np nl : Nat} {ra : List Int} {lv ag : Int} {rules : List RD} {st : CV} (h : DealtG 6 ns np nl ra lv ag rules st) : kindF (dealtG 6 ns np nl ra lv ag rules st) = 0 := by
 have h1 := h.check
 unfold kindF
 rw [if_neg (fun h => h h1), if_neg (fun h => h rfl)]
def LowS (np j : Nat) (s : Int × List Int) : Prop := s.2.length = np /\ ∀ p, p < np -> 0 <= s.2[p]! /\ s.2[p]! <= 16 * j
theorem app_lim {n : Nat} {r : RD} {l : List (Int × List Int)} (h : appB n r l = .limit) : ∃ p, p < n /\ 1048576 < sumB l p - r.need[p]! + r.give[p]! := by
 unfold appB at h
 split at h
 ·cases h
 ·split at h
  ·cases h
  ·split at h
   ·rename_i h3
    obtain ⟨x, hx, hd⟩ := List.any_eq_true.1 h3
    unfold outB21 at hx
    obtain ⟨p, hp, rfl⟩ := List.mem_map.1 hx
    exact ⟨p, List.mem_range.1 hp, of_decide_eq_true hd⟩
   ·cases h
theorem out_at {np p : Nat} {r : RD} {l : List (Int × List Int)} (hp : p < np) : (outB21 np r l)[p]! = sumB l p - r.need[p]! + r.give[p]! := rangeB_at hp
namespace Six
theorem any_bad {α : Type} [Inhabited α] {l : List α} {p : α -> Bool} {i : Nat} (h : i < l.length) (hb : p l[i]! = true) : l.any p = true := by
 rw [List.any_eq_true]
 exact ⟨l[i]!, mem_bangI h, hb⟩
theorem any_ok {α : Type} [Inhabited α] {l : List α} {p : α -> Bool} (h : ∀ i, i < l.length -> p l[i]! = false) : l.any p = false := by
 rw [List.any_eq_false]
 intro x hx
 obtain ⟨i, hi, rfl⟩ := List.getElem_of_mem hx
 have := h i hi
 rw [getElem!_pos l i hi] at this
 rw [this]; simp
theorem nilB {α : Type} [BEq α] (l : List α) : (l == []) = (l.length == 0) := by cases l <;> rfl
theorem list_small (l : List Int) (n : Nat) : listB l n 0 16 = (smallB l && decide (l.length = n)) := by
 unfold listB smallB
 congr 1
 rw [Bool.eq_iff_iff, beq_iff_eq, decide_eq_true_eq]
 omega
theorem same_only6 (r : RD) : sameB r (onlyR 6 r) = (z3 r && z4 r && z5 r && z6 r) := by
 unfold sameB onlyR z3 z4 z5 z6
 rw [if_neg (by omega), if_neg (by omega), if_neg (by omega), if_neg (by omega)]
 simp only [beq_self_eq_true, Bool.true_and, Bool.and_true, nilB]
 ac_rfl
theorem branch_eq {ns : Nat} {r : RD} {m : MD} (hm : m.states.length = ns) : (betweenB r.src (-1) ((ns : Int) - 1) && q7 m r) = ((indexB r.src ns || r.src == -1) && ((r.second == -1 || indexB r.second ns) && (decide (0 <= r.src) || (r.second == -1 && r.need.all fun x => x == 0)))) := by
 have e0 : (fun x => betweenB x 0 0) = fun x : Int => x == 0 := funext fun x => between_zero x
 unfold q7
 rw [hm, e0]
 by_cases h : r.src = -1
 ·rw [if_pos h, h]
  have e1 : decide ((0 : Int) <= -1) = false := by decide
  have e2 : betweenB (-1) (-1) ((ns : Int) - 1) = true := between_true (by omega) (by omega)
  have e3 : ((-1 : Int) == -1) = true := by decide
  rw [e1, e2, e3, Bool.or_true, Bool.true_and, Bool.true_and, Bool.false_or]
  cases h2 : r.second == -1
  ·rw [Bool.false_and, Bool.and_false]
  ·rw [Bool.true_or, Bool.true_and, Bool.true_and]
 ·rw [if_neg h, beq_eq_false_iff_ne.2 h, Bool.or_false]
  unfold betweenB indexB
  rw [Bool.eq_iff_iff]
  simp only [Bool.and_eq_true, Bool.or_eq_true, decide_eq_true_eq, beq_iff_eq]
  constructor
  ·rintro ⟨h1, h2⟩
   exact ⟨by omega, by omega, .inl (by omega)⟩
  ·rintro ⟨h1, h2, -⟩
   omega
theorem Con.toB {f : FuncId} {args : List AV} {b b' : Bool} (h : Con Tryz.prog f args [] fun x _ => x = vb b) (e : b = b') : Con Tryz.prog f args [] fun x _ => x = vb b' := e ▸ h
theorem con_rright6G (m : MD) (r : RD) (h : RightM m) (hr : LenR r) (hk : m.kind = 6) : Con Tryz.prog 66 [vM m, vRule r] [] fun x _ => x = vb (rightR m r) := by
 refine Six.Con.toB (con_rright6 m r h hr hk) ?_
 unfold rightR fitsR
 rw [if_neg (by omega), if_neg (by omega), if_neg (by omega), if_neg (by omega), hk, same_only6]
 unfold endsR branchB changesB
 have e6 : (m.kind == 6) = true := beq_iff_eq.2 hk
 have eb := branch_eq (r := r) (m := m) rfl
 rw [e6, Bool.true_and, index_between, list_small, list_small]
 generalize (indexB r.src m.states.length || r.src == -1) = A at eb ⊢
 generalize (r.second == -1 || indexB r.second m.states.length) = B at eb ⊢
 generalize (decide (0 <= r.src) || (r.second == -1 && r.need.all fun x => x == 0)) = C at eb ⊢
 generalize betweenB r.src (-1) ((m.states.length : Int) - 1) = D at eb ⊢
 generalize q7 m r = E at eb ⊢
 generalize smallB r.need = F1
 generalize smallB r.give = F2
 generalize decide (r.need.length = m.places.length) = F3
 generalize decide (r.give.length = m.places.length) = F4
 have e : (D && (indexB r.dst m.states.length && ((F1 && F3) && ((F2 && F4) && (z3 r && (z4 r && (z5 r && (z6 r && E)))))))) = ((D && E) && (indexB r.dst m.states.length && ((F1 && F3) && ((F2 && F4) && (z3 r && (z4 r && (z5 r && z6 r))))))) := by ac_rfl
 rw [e, eb]
 ac_rfl
theorem con_rCheck6 (m : MD) (h : LenM m) (hk6 : m.kind = 6) : Con Tryz.prog 27 [vM m] [] fun r _ => r = vi (checkF m) := by
 have e1 : vM m = .ag [vi m.kind, vss m.states, vss m.places, vss m.letters, vs 0 m.ranks, vi m.levels, vi m.age, .sl 0 14 (m.rules.map vRule), vi m.start.n, .sl 0 2 (m.start.kids.map vV)] := rfl
 have hl := names_lens h
 rw [e1]
 refine Con.intro Tryz.func27 rfl Tryz.ntmps27 Tryz.results27 (by kernel_rfl) (by simp) 0 (by simp) ?_
 unfold checkF
 simp only [go_sem, vss]
 refine CallU.free (con_rbetween m.kind 1 6) (by simp only [go_sem]) (by simp only [go_sem]) ?_
 rintro r bx rfl
 cases h1 : betweenB m.kind 1 6
 ·simp only [go_sem, if_true]
 simp only [go_sem, if_false]
 refine CallU.free (con_rnumbersG m h1) (by simp only [go_sem]) (by simp only [go_sem, vss]) ?_
 rintro r bx rfl
 cases h2 : sizedB m
 ·simp only [go_sem, if_true]
 simp only [go_sem, if_false]
 refine CallU.free (con_rranksG m h.ranks) (by simp only [go_sem]) (by simp only [go_sem, vss]) ?_
 rintro r bx rfl
 cases h3 : rankedB m
 ·simp only [go_sem, if_true]
 have hz := sized_lim h2
 have hsz := sized_size h h2 h3
 have hRM : RightM m := ⟨hl.1, hl.2.1, hl.2.2.1, fun hk => by have := hz.2.2.1 hk; omega⟩
 simp only [go_sem, if_false]
 refine CallU.free (con_rnamesG m hz.1 h.names h.sizes) (by simp only [go_sem]) (by simp only [go_sem, vss]) ?_
 rintro r bx rfl
 cases h4 : namesB (namesOf m)
 ·simp only [go_sem, if_true]
 simp only [go_sem, if_false]
 refine LoopK.intro (fun i : Nat => ⟨52, [(1, .pb 0 0), (3, vi i)], [[vi m.kind, vss m.states, vss m.places, vss m.letters, vs 0 m.ranks, vi m.levels, vi m.age, .sl 0 14 (m.rules.map vRule), vi m.start.n, .sl 0 2 (m.start.kids.map vV)]]⟩)
  (fun i => m.rules.length - i) (fun i => i <= m.rules.length /\ ∀ j, j < i -> (!rightR m m.rules[j]!) = false) 0 ⟨by omega, fun j hj => by omega⟩ ?_ ?_
 ·simp only [go_sem, vss]
 rintro i ⟨hi, hj⟩
 by_cases hlt : i < m.rules.length
 ·have hg := getRule hlt
  have hw : IntKind.i64.wrap (i + 1) = i + 1 := wrap_in (by omega) (by omega)
  simp only [go_sem, hlt, vss]
  refine DrawK.walk 8 mixed (by kernel_rfl) ?_
  simp only [go_sem, hlt, hg]
  refine CallY.mk (con_rright6G m m.rules[i]! hRM (h.rules _ (mem_bangI hlt)) hk6) (by simp only [go_sem, vss]) (by simp only [go_sem]) (.inl (by simp only [go_sem])) ?_
  cases hq : rightR m m.rules[i]!
  ·rw [any_bad (p := fun r => !rightR m r) hlt (by rw [hq]; rfl)]
   simp only [go_sem, if_true]
  simp only [go_sem, hw]
  refine roundK.intro (i + 1) ⟨by omega, fun j hj2 => ?_⟩ (by omega) ?_
  ·by_cases e : j = i
   ·rw [e, hq]; rfl
   ·exact hj j (by omega)
  simp only [go_sem]
 ·have hok := any_ok (l := m.rules) (p := fun r => !rightR m r) fun j hj2 => hj j (by omega)
  rw [hok]
  unfold beginsF
  by_cases k6 : m.kind = 6
  ·have b6 : (m.kind == 6) = true := beq_iff_eq.2 k6
   rw [if_pos k6]
   cases hn : m.start.n == 0
   ·have hn' : (m.start.n != 0) = true := by unfold bne; rw [hn]; rfl
    simp only [go_sem, hlt, b6, hn', Bool.false_and, if_true, Bool.false_eq_true, if_false]
   have hn' : (m.start.n != 0) = false := by unfold bne; rw [hn]; rfl
   by_cases hk0 : 0 < m.start.kids.length
   ·have hb : (m.start.kids.length == 0) = false := beq_eq_false_iff_ne.2 (by omega)
    simp only [go_sem, hlt, b6, hn', hk0, hb, List.length_map, Bool.and_false, if_true, Bool.false_eq_true, if_false]
   ·have hb : (m.start.kids.length == 0) = true := beq_iff_eq.2 (by omega)
    simp only [go_sem, hlt, b6, hn', hk0, hb, List.length_map, Bool.and_self, Bool.true_eq_false, Bool.false_eq_true, if_false]
  exact absurd hk6 k6
end Six
theorem ders_len {np : Nat} {rs : List RD} : ∀ {l : List CV} {t : List (Int × List Int)}, dersE np rs l = .ok t -> t.length = l.length
 | [], t, h => by simp [dersE] at h; subst h; rfl
 | x :: l, t, h => by
  rw [dersE] at h
  cases hx : derE np rs x with
  | error e => rw [hx] at h; simp [catE] at h
  | ok s =>
   cases hl : dersE np rs l with
   | error e => rw [hx, hl] at h; simp [catE] at h
   | ok u =>
    rw [hx, hl] at h
    simp only [catE, Except.ok.injEq] at h
    subst h
    rw [List.length_cons, List.length_cons, ders_len hl]
theorem ders_cons {np : Nat} {rs : List RD} {x : CV} {l : List CV} {t : List (Int × List Int)} (h : dersE np rs (x :: l) = .ok t) : ∃ s u, t = s :: u /\ derE np rs x = .ok s /\ dersE np rs l = .ok u := by
 rw [dersE] at h
 cases hx : derE np rs x with
 | error e => rw [hx] at h; simp [catE] at h
 | ok s =>
  cases hl : dersE np rs l with
  | error e => rw [hx, hl] at h; simp [catE] at h
  | ok u =>
   rw [hx, hl] at h
   simp only [catE, Except.ok.injEq] at h
   exact ⟨s, u, h.symm, rfl, rfl⟩
theorem der_of {np : Nat} {rs : List RD} : ∀ (N : Nat) (a : CV) (s : Int × List Int), szC a <= N -> derE np rs a = .ok s -> DerB (rs.map (ruBra np)) (szC a) s
 | 0, a, _, h, _ => by cases a; simp [szC] at h
 | N + 1, .mk r kids, s, h, hd => by
  rw [derE] at hd
  obtain ⟨k, hk, h1, h2, h3, h4⟩ := ruleE_ok hd
  have hm : rs[r.toNat]! ∈ rs := by rw [getElem!_pos rs _ (by omega)]; exact List.getElem_mem _
  have hrm : ruBra np rs[r.toNat]! ∈ rs.map (ruBra np) := List.mem_map_of_mem hm
  have hpl := prem_le rs[r.toNat]!
  have hkl := ders_len hk
  generalize rs[r.toNat]! = q at h3 h4 hrm hpl
  have hp : (ruBra np q).p = (premB q).length := rfl
  have ha : (ruBra np q).ap = appB np q := rfl
  rw [szC] at h ⊢
  match kids, hk, hkl, h with
  | [], hk, hkl, h =>
   have : k = [] := List.length_eq_zero_iff.1 (by simpa using hkl)
   subst this
   exact .zero _ s hrm (by rw [hp, <- h3]; rfl) (by rw [ha]; exact h4)
  | [x], hk, hkl, h =>
   obtain ⟨s1, u, rfl, e1, e2⟩ := ders_cons hk
   have : u = [] := List.length_eq_zero_iff.1 (by simpa using ders_len e2)
   subst this
   simp only [szCs] at h ⊢
   have := DerB.one _ (szC x) s1 s hrm (by rw [hp, <- h3]; rfl) (der_of N x s1 (by omega) e1) (by rw [ha]; exact h4)
   rwa [show 1 + (szC x + 0) = szC x + 1 by omega]
  | [x, y], hk, hkl, h =>
   obtain ⟨s1, u, rfl, e1, e2⟩ := ders_cons hk
   obtain ⟨s2, v, rfl, e3, e4⟩ := ders_cons e2
   have : v = [] := List.length_eq_zero_iff.1 (by simpa using ders_len e4)
   subst this
   simp only [szCs] at h ⊢
   have := DerB.two _ (szC x) (szC y) s1 s2 s hrm (by rw [hp, <- h3]; exact Nat.le_refl 2) (der_of N x s1 (by omega) e1) (der_of N y s2 (by omega) e3) (by rw [ha]; exact h4)
   rwa [show 1 + (szC x + (szC y + 0)) = szC x + szC y + 1 by omega]
  | x :: y :: z :: l, hk, hkl, h => simp only [List.length_cons] at hkl; omega
theorem derive_err {m : MD} {a : CV} {e : Int} (h : deriveF m a = .error e) : e ≠ 0 := by
 unfold deriveF at h
 split at h
 ·rename_i hk; injection h with h; rw [<- h]; exact hk
 ·split at h
  ·injection h with h; omega
  ·cases hd : derE m.places.length m.rules a with
   | error e' =>
    rw [hd] at h
    have hc : e' = e := by injection h
    subst hc
    exact derE_err a hd
   | ok s => rw [hd] at h; cases h
end Go.AM
