/- TS RfA TT RfB TU TO TV TW TX GA HC HF -/
import Derived.Test.YtapjfgddbfneaaaGreatg14
import Derived.Test.YtapjfgddbfneaaaGreatg5
import Derived.OrdersIn
import Derived.RangeFuncRecord
import Derived.LoopNIn
import Derived.RangeFuncSeq
import Derived.Laws.CopyRow
import Derived.Test.YtapjfgddbfneaaaGreatg8
import Derived.Test.YtapjfgddbfneaaaGreatg11
import Derived.Test.YtapjfgddbfneaaaGreatg13
namespace Go.AM
open Go Go.Proofs Go.RowKit
set_option maxRecDepth 100000
set_option maxHeartbeats 8000000
theorem con_fless (a b : List Int) (ha : a.length <= 1000000) (hb : b.length <= 1000000) : Con Tryz.prog 48 [vs 0 a, vs 0 b] [] fun x _ => x = vb (leqV a b && lessO a b) := by
 refine Con.intro Tryz.func48 rfl Tryz.ntmps48 Tryz.results48 (by kernel_rfl) (by simp) 0 (by simp) ?_
 simp only [go_sem]
 refine CallU.free (con_vleq a b ha hb) (by simp only [go_sem]) (by simp only [go_sem]) ?_
 rintro r bx rfl
 cases hq : leqV a b
 ·simp only [go_sem]
 have h := (leqV_at hq).1
 simp only [go_sem]
 refine LoopK.intro (fun i : Nat => ⟨32, [(1, vs 0 b), (11, vs 0 a), (12, vi a.length), (13, vi i)], []⟩) (fun i => a.length - i) (fun i => i <= a.length /\ ∀ j, j < i -> ¬ (a[j]! < b[j]! /\ b[j]! ≠ Om)) 0 ⟨by omega, fun j hj => by omega⟩ ?_ ?_
 ·simp only [go_sem]
 rintro i ⟨hi, hb⟩
 by_cases hlt : i < a.length
 case neg => simp only [go_sem, hlt, less_none fun j hj => hb j (by omega)]
 have hlt2 : i < b.length := by omega
 have hg := getv hlt
 have hg' := getv hlt2
 have hw : IntKind.i64.wrap (i + 1) = i + 1 := wrap_in (by omega) (by omega)
 by_cases h1 : a[i]! < b[i]!
 ·by_cases h2 : b[i]! = 1099511627776
  ·have h2' : (b[i]! != 1099511627776) = false := by rw [h2]; rfl
   simp only [go_sem, hlt, hlt2, hg, hg', h1, h2', hw]
   refine roundK.intro (i + 1) ⟨by omega, fun j hj => ?_⟩ (by omega) ?_
   ·by_cases hji : j = i
    ·subst hji; exact fun hh => hh.2 h2
    ·exact hb j (by omega)
   ·simp only [go_sem]
  ·have h2' : (b[i]! != 1099511627776) = true := bne_iff_ne.2 h2
   simp only [go_sem, hlt, hlt2, hg, hg', h1, h2', less_hit hlt h1 h2]
 ·simp only [go_sem, hlt, hlt2, hg, hg', h1, hw]
  refine roundK.intro (i + 1) ⟨by omega, fun j hj => ?_⟩ (by omega) ?_
  ·by_cases hji : j = i
   ·subst hji; exact fun hh => h1 hh.1
   ·exact hb j (by omega)
  ·simp only [go_sem]
def revK (l : List Int) (k : Nat) : List Int := (List.range l.length).map fun j => if j < k \/ l.length - 1 - j < k then l[l.length - 1 - j]! else l[j]!
theorem revK_len (l : List Int) (k : Nat) : (revK l k).length = l.length := by simp [revK]
theorem revK_at {l : List Int} {k j : Nat} (h : j < l.length) : (revK l k)[j]! = if j < k \/ l.length - 1 - j < k then l[l.length - 1 - j]! else l[j]! := by
 rw [getElem!_pos _ j (by rw [revK_len]; exact h)]; simp [revK]
theorem ext_bang {a b : List Int} (hl : a.length = b.length) (h : ∀ i, i < a.length -> a[i]! = b[i]!) : a = b := by
 apply List.ext_getElem hl
 intro i h1 h2
 rw [<- getElem!_pos a i h1, <- getElem!_pos b i h2]
 exact h i h1
theorem revK_zero (l : List Int) : revK l 0 = l := ext_bang (revK_len _ _) fun i hi => by
 rw [revK_len] at hi
 rw [revK_at hi, if_neg (by omega)]
theorem revK_all {l : List Int} {k : Nat} (h : l.length <= 2 * k + 1) : revK l k = l.reverse := ext_bang (by rw [revK_len, List.length_reverse]) fun i hi => by
 rw [revK_len] at hi
 have e : l.reverse[i]! = l[l.length - 1 - i]! := by
  rw [getElem!_pos l.reverse i (by rw [List.length_reverse]; exact hi), List.getElem_reverse, getElem!_pos l _ (by omega)]
 rw [revK_at hi, e]
 split
 ·rfl
 ·rw [show l.length - 1 - i = i by omega]
theorem set_bangR {l : List Int} {i j : Nat} {x : Int} (hj : j < l.length) : (l.set i x)[j]! = if i = j then x else l[j]! := by
 rw [getElem!_pos _ j (by rw [List.length_set]; exact hj), List.getElem_set, getElem!_pos l j hj]
theorem revK_succ {l : List Int} {k : Nat} (h : 2 * k + 1 < l.length) : ((revK l k).set k (revK l k)[l.length - 1 - k]!).set (l.length - 1 - k) (revK l k)[k]! = revK l (k + 1) := by
 refine ext_bang (by rw [List.length_set, List.length_set, revK_len, revK_len]) fun i hi => ?_
 have hil : i < l.length := by rw [List.length_set, List.length_set, revK_len] at hi; exact hi
 rw [set_bangR (by rw [List.length_set, revK_len]; exact hil), set_bangR (by rw [revK_len]; exact hil)]
 rw [revK_at (l := l) (k := k) (j := l.length - 1 - k) (by omega), revK_at (l := l) (k := k) (j := k) (by omega), revK_at (l := l) (k := k) (j := i) hil, revK_at (l := l) (k := k + 1) (j := i) hil]
 by_cases h1 : l.length - 1 - k = i
 ·rw [if_pos h1, if_neg (by omega), if_pos (by omega), show l.length - 1 - i = k by omega]
 ·rw [if_neg h1]
  by_cases h2 : k = i
  ·subst h2
   rw [if_pos rfl, if_neg (by omega), if_pos (by omega)]
  ·rw [if_neg h2]
   by_cases h3 : i < k \/ l.length - 1 - i < k
   ·rw [if_pos h3, if_pos (by omega)]
   ·rw [if_neg h3, if_neg (by omega)]
def revTree : Tr := .front 0 (.front 1 (.front 2 (.front 3 (.front 4 (.front 5 (.front 6 (.front 8 (.front 9 (.front 10 (.alt (.one 7 (.one 11 (.front 12 (.one 13 (.front 14 (.one 15 .done)))))) (.one 11 (.one 7 (.front 12 (.one 13 (.front 14 (.one 15 .done))))))))))))))))
theorem conw_reverse (l : List Int) (h0 : 0 < l.length) (hl : l.length <= 1000000) : ConW Tryz.prog 72 [.sl 2 1 (l.map vi)] fun r ys => r = .tup [] /\ ys = [.sl 2 1 (l.reverse.map vi)] := by
 refine ConW.intro Tryz.func72 rfl Tryz.ntmps72 Tryz.results72 (by kernel_rfl) (by simp) ?_
 have w0 : IntKind.i64.wrap ((l.length : Int) - 1) = ((l.length - 1 - 0 : Nat) : Int) := by rw [wrap_in (by omega) (by omega)]; omega
 simp only [go_sem, w0]
 refine LoopK.intro (fun k : Nat => ⟨28, [(0, .sl 2 1 ((revK l k).map vi)), (2, vi k), (3, vi ((l.length - 1 - k : Nat) : Int))], [[.sl 2 1 ((revK l k).map vi)]]⟩) (fun k => l.length - k) (fun k => 2 * k <= l.length) 0 (by omega) ?_ ?_
 ·simp only [go_sem, revK_zero]
 rintro k hk
 have hrl := revK_len l k
 by_cases hlt : (k : Int) < ((l.length - 1 - k : Nat) : Int)
 case neg =>
  have e : revK l k = l.reverse := revK_all (by omega)
  have hp : 0 < l.reverse.length := by rw [List.length_reverse]; exact h0
  simp only [go_sem, hlt, e]
  try simpa using h0
 have hq : l.length - 1 - k < (revK l k).length := by omega
 have hk1 : k < (revK l k).length := by omega
 have g1 := getv hq
 have g2 := getv hk1
 have w1 : IntKind.i64.wrap ((k : Int) + 1) = k + 1 := wrap_in (by omega) (by omega)
 have w2 : IntKind.i64.wrap (((l.length - 1 - k : Nat) : Int) - 1) = ((l.length - 1 - (k + 1) : Nat) : Int) := by rw [wrap_in (by omega) (by omega)]; omega
 have hs1 : ((revK l k).map vi).modify k (updElem 0 [AV.sc (.int .i64 (revK l k)[l.length - 1 - k]!)]) = ((revK l k).set k (revK l k)[l.length - 1 - k]!).map vi := modify_vi
 have hs2 : (((revK l k).set k (revK l k)[l.length - 1 - k]!).map vi).modify (l.length - 1 - k) (updElem 0 [AV.sc (.int .i64 (revK l k)[k]!)]) = (revK l (k + 1)).map vi := by rw [modify_vi, revK_succ (by omega)]
 simp only [go_sem, hlt]
 generalize hQ : l.length - 1 - k = q at *
 refine DrawK.meet ⟨28, [(0, .sl 2 1 ((revK l (k + 1)).map vi)), (2, vi k), (3, vi q)], [[.sl 2 1 ((revK l (k + 1)).map vi)]]⟩ ?_ ?_
 ·refine DrawK.tree revTree mixed (by kernel_rfl) ?_
  unfold revTree
  repeat' (first | with_reducible apply andK_mk | exact trivial | simp only [go_sem, hq, hk1, g1, g2, hs1, hs2, List.length_set, List.length_map])
 ·simp only [go_sem, w1, w2]
  refine roundK.intro (k + 1) (by omega) (by omega) ?_
  simp only [go_sem]
theorem con_reverse0 : Con Tryz.prog 72 [.sl 0 1 []] [] fun r _ => r = .tup [] := by
 refine Con.intro Tryz.func72 rfl Tryz.ntmps72 Tryz.results72 (by kernel_rfl) (by simp) 0 (by simp) ?_
 have w0 : IntKind.i64.wrap (0 - 1) = -1 := by kernel_rfl
 have w1 : IntKind.i64.wrap (-1) = -1 := by kernel_rfl
 simp only [go_sem, List.length_nil, w1]
 refine LoopK.intro (fun _ : Unit => ⟨28, [(0, .sl 0 1 []), (2, vi 0), (3, vi (-1))], []⟩) (fun _ => 0) (fun _ => True) () trivial ?_ ?_
 ·simp only [go_sem]
 rintro ⟨⟩ _
 simp only [go_sem]
theorem con_path (l : List ND) (next : Int) (i : Nat) {rules : List RD} {s0 : Int} {v0 : List Int} (hm : Made rules s0 v0 l) (hi : i < l.length) (hlen : l.length <= 256) : Con Tryz.prog 49 [.ag [.sl 0 4 (l.map vND), vi next], vi i] [] fun r _ => r = vs 2 (pathT l i) := by
 refine Con.intro Tryz.func49 rfl Tryz.ntmps49 Tryz.results49 (by kernel_rfl) (by simp) 0 (by simp) ?_
 have a1 : ¬ (i : Int) < 0 := by omega
 have a2 : ¬ (l.length : Int) <= (i : Int) := by omega
 simp only [go_sem, a1, a2, List.length_map]
 refine LoopK.intro (fun p : Nat × List Int => ⟨41, [(1, vi p.1), (2, .pb 0 0), (5, .sl 2432 1 (p.2.map vi))], [[.sl 0 4 (l.map vND), vi next]]⟩) (fun p => p.1) (fun p => p.1 < l.length /\ pathT l i = pathT l p.1 ++ p.2.reverse /\ p.2.length + p.1 <= i) (i, []) ⟨hi, by simp, by simp⟩ ?_ ?_
 ·simp only [go_sem, List.map_nil]
  all_goals exact leV_nil _ _
 rintro ⟨j, L⟩ ⟨hj, hp, hL⟩
 simp only at hj hp hL
 have hg := getND hj
 rcases hm j hj with ⟨h1, _⟩ | ⟨p, k, hb⟩
 ·have e := path_root h1
  rw [e, List.nil_append] at hp
  have hn : ¬ (0 : Int) <= l[j]!.par := by omega
  simp only [go_sem, hj, hg, hn, List.length_map]
  cases L with
  | nil =>
   rw [hp]
   simp only [go_sem, List.map_nil]
   refine CallU.flat con_reverse0 (by simp only [go_sem]) (by simp only [go_sem]) ?_
   rintro r bx rfl
   simp only [go_sem, List.reverse_nil, List.map_nil]
  | cons x L =>
   refine CallU.back (conw_reverse (x :: L) (by simp) (by omega)) (by simp only [go_sem]) (by simp only [go_sem]) ?_
   rintro r ys ⟨rfl, rfl⟩
   simp only [go_sem, hp]
   all_goals simp
 ·have h1 := hb.par
  have h2 := hb.lt
  have h3 := hb.rule
  have e := path_step hm hb hj
  have hn : (0 : Int) <= l[j]!.par := by omega
  have hro : roomFor (L.length + 1) 8 := by simp only [roomFor]; omega
  simp only [go_sem, hj, hg, hn, hro, List.length_map]
  refine roundK.intro (p, L ++ [(k : Int)]) ⟨by show p < l.length; omega, by rw [hp, e]; simp, by show (L ++ [(k : Int)]).length + p <= i; rw [List.length_append]; simp; omega⟩ h2 ?_
  simp only [go_sem, h1, h3, List.map_append, List.map_cons, List.map_nil]
theorem con_pathF (l : List ND) (next : Int) (i : Nat) {rules : List RD} {s0 : Int} {v0 : List Int} (hm : Made rules s0 v0 l) (hi : i < l.length) (hlen : l.length <= 256) : Con Tryz.prog 49 [.ag [.sl 0 4 (l.map vND), vi next], vi i] [] fun r _ => r = vs 0 (pathT l i) :=
 (Con.freezeR (fun _ => true) (con_path l next i hm hi hlen)).weak fun r b ⟨r0, h0, h1⟩ => by
  subst h0; subst h1
  exact ⟨_, rfl, leV_refl _⟩
end Go.AM
namespace Go.AM
open Go Go.RowKit
theorem SRel.world {G0 : Orig} {w0 : World} {σ : St} {G : Nat -> Status} {a : Act} {w w' : World} (h : SRel G0 w0 σ G a w) (e1 : w'.os = w.os) (e2 : w'.tape = w.tape) (e3 : w'.output = w.output) (e4 : w.heap.size <= w'.heap.size)
  (hk : ∀ b, G b ≠ .junk -> w'.heap[b]? = w.heap[b]?) (h0 : ∀ b, b < w0.heap.size -> G b = .junk -> w'.heap[b]? = w.heap[b]?) : SRel G0 w0 σ G a w' where
 good := ⟨fun b hb => Nat.lt_of_lt_of_le (h.good.lt b hb) e4, h.good.tags, h.good.boxes⟩
 slots := fun s => (h.slots s).mono (fun b _ => rfl) fun b hb _ => hk b hb
 boxes := ⟨h.boxes.low, fun i cs hi => (h.boxes.cell i cs hi).same (fun x v hr => hr.mono (fun b _ => rfl) fun b hb _ => hk b hb) (fun b hb => ⟨hb, hk b (by rw [hb]; simp)⟩) fun hn => hn⟩
 blt := h.blt
 size := h.size
 defs := h.defs
 os := e1.trans h.os
 tape := e2.trans h.tape
 output := e3.trans h.output
 hsize := Nat.le_trans h.hsize e4
 stat := h.stat
 keep := fun b hb hn hnt => by
  by_cases hj : G b = .junk
  ·exact (h0 b hb hj).trans (h.keep b hb hn hnt)
  ·exact (hk b hj).trans (h.keep b hb hn hnt)
theorem SRel.reroot {G0 : Orig} {w0 : World} {σ : St} {G : Nat -> Status} {a : Act} {w : World} (h : SRel G0 w0 σ G a w) : SRel ⟨G, G0.gh⟩ w σ G a w :=
 { good := h.good, slots := h.slots, boxes := h.boxes, blt := h.blt, size := h.size, defs := h.defs, os := rfl, tape := rfl, output := rfl, hsize := Nat.le_refl _, stat := fun _ _ _ => rfl, keep := fun _ _ _ _ => rfl }
def fenceR (r : Option Nat) : Fence := { Fence.wide with round := r }
def noDef (o : Oper) : Bool := match o.op with
 | .defer _ => false
 | _ => true
theorem noDef_ne {o : Oper} (h : noDef o = true) : ∀ c, o.op ≠ .defer c := fun c hc => by simp [noDef, hc] at h
section
variable {P : Program}
theorem rowsIn_of {n : Nat} {r : Option Nat} {row : String} {args : Array Value} {w : World} {R : Value -> World -> Prop} (h : Rows P row args w R) : RowsIn (fenceR r) n P row args w R :=
 fun c cs _ => let ⟨v, w', h1, h2⟩ := h c cs; ⟨v, w', h1, stepsIn_wide.2 h2⟩
theorem op_in {n : Nat} {r : Option Nat} {o : Oper} {a : Act} {w : World} {K : Act -> World -> Prop} {Q : Exit -> Act -> World -> Prop} (hd : noDef o = true) (h : o.wp P a w K Q) : o.wpIn (fenceR r) n P a w K Q := by
 unfold Oper.wp at h
 refine ⟨fun _ _ => trivial, ?_⟩
 rw [Oper.semAt_eq _ _ _ (noDef_ne hd)]
 generalize (execOp a.eval o).run P w = x at h ⊢
 cases x with
 | ok x w' =>
  cases x with
  | enter f args => exact ⟨fun hh => by simp [fenceR, Fence.wide] at hh, (callsIn_wide (n := n - 1)).2 h⟩
  | row row args => exact ⟨fun hh => by simp [fenceR, Fence.wide] at hh, rowsIn_of h⟩
  | round l f tmps assign body => exact h.elim
  | _ => exact h
 | halt x w' => cases x <;> exact h
theorem opIn_of {n : Nat} {r : Option Nat} {ops : Array Oper} {Q : Exit -> Act -> World -> Prop} (hQ : ¬ LetsOut Q) {i : Nat} {K : Act -> World -> Prop} {a : Act} {w : World} (hd : ∀ o, ops[i]? = some o -> noDef o = true)
  (h : Go.wpOp P ops Q i K a w) : wpOpIn (fenceR r) n P ops Q i K a w := by
 unfold Go.wpOp at h
 unfold wpOpIn
 cases ho : ops[i]? with
 | none => simpa [ho] using h
 | some o =>
  simp only [ho] at h ⊢
  split
  ·rename_i hw
   rw [if_pos hw] at h
   rcases h with h | h
   ·exact op_in (hd o ho) h
   ·exact absurd h.2 hQ
  ·rename_i hw
   rw [if_neg hw] at h
   exact ⟨fun _ _ => trivial, h⟩
theorem opsIn_of {n : Nat} {r : Option Nat} {ops : Array Oper} {Q : Exit -> Act -> World -> Prop} (hQ : ¬ LetsOut Q) (hd : ∀ (i : Nat) (o : Oper), ops[i]? = some o -> noDef o = true) : ∀ (l : List Nat) (a : Act) (w : World), Go.wpOps P ops Q l a w -> wpOpsIn (fenceR r) n P ops Q l a w
 | [], _, _, h => h
 | i :: l, a, w, h => by
  rw [wpOps_cons] at h
  rw [wpOpsIn_cons]
  refine wpOpIn_mono (fun a w hh => opsIn_of hQ hd l a w hh) (opIn_of hQ (fun o ho => hd i o ho) h)
def flatC : Code -> Bool
 | .skip => true
 | .ret => true
 | .exit _ => true
 | .block _ c => flatC c
 | .region _ ops draw => !draw && ops.toList.all noDef
 | .seq x y => flatC x && flatC y
 | .cond _ x y => flatC x && flatC y
 | _ => false
theorem roundA {G0 : Orig} {w0 : World} {n : Nat} {r : Option Nat} : ∀ (c : Code) (Q : Exit -> St -> Prop) (σ : St) (G : Nat -> Status) (a : Act) (w : World), (∀ σ, ¬ Q .outgrown σ) -> flatC c = true -> wpA P c Q σ -> SRel G0 w0 σ G a w ->
  c.wpIn (fenceR r) n P (fun e a' w' => ∃ σ' G', Q e σ' /\ SRel G0 w0 σ' G' a' w') a w
 | .skip, Q, σ, G, a, w, _, _, hw, h => wpIn_skip ⟨σ, G, hw, h⟩
 | .ret, Q, σ, G, a, w, _, _, hw, h => wpIn_ret ⟨σ, G, hw, h⟩
 | .exit _, Q, σ, G, a, w, _, _, hw, h => wpIn_exit ⟨σ, G, hw, h⟩
 | .region id ops draw, Q, σ, G, a, w, hQ, hf, hw, h => by
  simp only [flatC, Bool.and_eq_true, Bool.not_eq_true', List.all_eq_true] at hf
  obtain ⟨rfl, hd⟩ := hf
  simp only [wpA, Bool.false_eq_true, if_false] at hw
  have hl : ¬ LetsOut (fun e a' w' => ∃ σ' G', Q e σ' /\ SRel G0 w0 σ' G' a' w') := fun hh => by
   obtain ⟨a, w, σ', _, hq, _⟩ := hh
   exact hQ σ' hq
  refine wpIn_region (opsIn_of hl (fun i o ho => hd o (Array.mem_toList_iff.2 (Array.mem_of_getElem? ho))) _ _ _ ?_)
  have := opsA_sound (Q := fun e a' w' => ∃ σ' G', Q e σ' /\ SRel G0 w0 σ' G' a' w') trivial (fun σ' G' a' w' hk hs => ⟨σ', G', hk, hs⟩) ops.toList 0 σ G a w (by simp) hw h
  simpa using this
 | .seq x y, Q, σ, G, a, w, hQ, hf, hw, h => by
  simp only [flatC, Bool.and_eq_true] at hf
  refine wpIn_seq (wpIn_mono (roundA x (thenA (wpA P y Q) Q) σ G a w (fun σ (hh : Q .outgrown σ) => hQ σ hh) hf.1 hw h) ?_)
  rintro e a' w' ⟨σ', G', hk, hs⟩
  cases e with
  | normal => exact roundA y Q σ' G' a' w' hQ hf.2 hk hs
  | _ => exact ⟨σ', G', hk, hs⟩
 | .cond c x y, Q, σ, G, a, w, hQ, hf, hw, h => by
  simp only [flatC, Bool.and_eq_true] at hf
  simp only [wpA] at hw
  have hc := h.ev c
  split at hw
  ·rename_i b hb
   rw [hb] at hc
   exact wpIn_cond_split hc.sc_inv (fun hb => roundA x Q σ G a w hQ hf.1 (hw.1 hb) h) (fun hb => roundA y Q σ G a w hQ hf.2 (hw.2 hb) h)
  ·rename_i hb
   rw [hb] at hc
   obtain ⟨b, hb⟩ := hc.ub_inv
   exact wpIn_cond_split hb (fun _ => roundA x Q σ G a w hQ hf.1 hw.1 h) (fun _ => roundA y Q σ G a w hQ hf.2 hw.2 h)
  ·exact hw.elim
 | .label _, _, _, _, _, _, _, hf, _, _ => by simp [flatC] at hf
 | .block id c, Q, σ, G, a, w, hQ, hf, hw, h => by
  refine wpIn_block (wpIn_mono (roundA c (blockA id Q) σ G a w (fun σ (hh : Q .outgrown σ) => hQ σ hh) hf hw h) ?_)
  rintro e a' w' ⟨σ', G', hk, hs⟩
  cases e with
  | exit id' =>
   simp only [blockA] at hk
   simp only [Exit.inBlock]
   split
   ·rename_i hid; rw [if_pos hid] at hk; exact ⟨σ', G', hk, hs⟩
   ·rename_i hid; rw [if_neg hid] at hk; exact ⟨σ', G', hk, hs⟩
  | _ => exact ⟨σ', G', hk, hs⟩
 | .loop .., _, _, _, _, _, _, hf, _, _ => by simp [flatC] at hf
 | .rangeFunc .., _, _, _, _, _, _, hf, _, _ => by simp [flatC] at hf
 | .scope _, _, _, _, _, _, _, hf, _, _ => by simp [flatC] at hf
 | .goto _, _, _, _, _, _, _, hf, _, _ => by simp [flatC] at hf
 | .refuse _, _, _, _, _, _, _, hf, _, _ => by simp [flatC] at hf
end
section
variable {P : Program} {ops : Array Oper} {m : Nat} {vs : List (Nat × AV)} {σ : St} {K : St -> Prop} {G0 : Orig} {w0 : World} {Q : Exit -> Act -> World -> Prop}
theorem tail_runW {W : Nat -> Array Bool -> Act -> World -> Prop} (hp : Plan ops m) (h0 : True) (hZ : ∀ listed a w σ' G', Region.ready .any ops listed = [] -> K σ' -> SRel G0 w0 σ' G' a w -> W 0 listed a w)
  (hW : ∀ fuel listed a w, Region.ready .any ops listed ≠ [] -> (∀ i ∈ Region.ready .any ops listed, Go.wpOp P ops Q i (W fuel (listed.setIfInBounds i true)) a w) -> W (fuel + 1) listed a w) :
  ∀ (fuel k : Nat) (listed : Array Bool) (U : List Nat) (σ : St) (G : Nat -> Status) (a : Act) (w : World), Left ops listed U -> U.length = fuel -> m <= k -> (∀ i, i < ops.size -> (listed.getD i false = true ↔ i < k)) -> k <= ops.size ->
   Closed ops (fun k => listed.getD k false) -> opsA P ops (ops.toList.drop k) σ K -> SRel G0 w0 σ G a w -> W fuel listed a w := by
 intro fuel
 induction fuel with
 | zero =>
  intro k listed U σ G a w hl hU hmk hk hks hc hw h
  have hUn : U = [] := List.eq_nil_of_length_eq_zero hU
  subst hUn
  have hkk : k = ops.size := by
   apply Classical.byContradiction
   intro hne
   have hlt : k < ops.size := by omega
   have : listed.getD k false = false := by
    cases hb : listed.getD k false
    ·rfl
    ·have := (hk k hlt).1 hb; omega
   have := (hl.mem k).2 ⟨hlt, this⟩
   simp at this
  subst hkk
  have hd : ops.toList.drop ops.size = [] := by simp
  rw [hd] at hw
  refine hZ _ _ _ σ G ?_ hw h
  apply List.eq_nil_iff_forall_not_mem.2
  intro i hi
  obtain ⟨o, ho, h1, _⟩ := (ready_iff hl.size).1 hi
  have := (hl.mem i).2 ⟨(Array.getElem?_eq_some_iff.1 ho).1, h1⟩
  simp at this
 | succ fuel ih =>
  intro k listed U σ G a w hl hU hmk hk hks hc hw h
  have hUn : U ≠ [] := by intro h; rw [h] at hU; simp at hU
  refine hW _ _ _ _ (some_ready hl hp.lt hUn) fun i hi => ?_
  obtain ⟨o, ho, h1, h2⟩ := (ready_iff hl.size).1 hi
  have hlt := (Array.getElem?_eq_some_iff.1 ho).1
  have hki : ¬ i < k := fun h => by have := (hk i hlt).2 h; rw [h1] at this; cases this
  have hik : i = k := by
   apply Classical.byContradiction
   intro hne
   have hlk : k < i := by omega
   have := reach_listed hc ops.size i k o ho h2 (hp.tail i o ho (by omega) k hlk)
   have := (hk k (by omega)).1 this
   omega
  subst hik
  have hdrop : ops.toList.drop i = o :: ops.toList.drop (i + 1) := by
   have hlt' : i < ops.toList.length := by simpa using hlt
   rw [List.drop_eq_getElem_cons hlt']
   have : ops.toList[i] = o := by
    have := Array.getElem?_eq_some_iff.1 ho
    simpa using this.2
   rw [this]
  rw [hdrop] at hw
  have hmem : i ∈ U := (hl.mem i).2 ⟨hlt, h1⟩
  obtain ⟨l1, l2⟩ := hl.step hmem
  have hsz : i < listed.size := by rw [hl.size]; exact hlt
  have hk' : ∀ j, j < ops.size -> ((listed.setIfInBounds i true).getD j false = true ↔ j < i + 1) := fun j hj => by
   rw [set_getD hsz]
   by_cases hij : i = j
   ·subst hij; simp
   ·rw [if_neg hij, hk j hj]; omega
  have hcont : ∀ {σ' G' a' w'}, opsA P ops (ops.toList.drop (i + 1)) σ' K -> SRel G0 w0 σ' G' a' w' -> W fuel (listed.setIfInBounds i true) a' w' := fun hk2 hs2 =>
   ih (i + 1) _ _ _ _ _ _ l1 (by omega) (by omega) hk' (by omega) (hc.step hsz ho h2) hk2 hs2
  simp only [opsA] at hw
  simp only [Go.wpOp, ho]
  have run : ∀ {σ}, AM.wpOp P o σ (fun σ' => opsA P ops (ops.toList.drop (i + 1)) σ' K) -> SRel G0 w0 σ G a w -> o.wp P a w (W fuel (listed.setIfInBounds i true)) Q := fun hw h =>
   wpOp_sound hw h h0 _ _ fun σ' G' a' w' hk hs => hcont hk hs
  cases hg : o.guard with
  | none =>
   simp only [hg] at hw
   rw [if_pos (by simp [Region.wanted, hg])]
   exact .inl (run hw h)
  | some p =>
   obtain ⟨j, want⟩ := p
   simp only [hg] at hw
   cases hgs : guardSlot ops j with
   | none => simp [hgs] at hw
   | some g =>
    simp only [hgs] at hw
    split at hw
    ·rename_i b hb
     have hv := h.slots g
     rw [hb] at hv
     have hy := yielded_bool hgs hv.sc_inv
     by_cases hbw : b = want
     ·subst hbw
      rw [if_pos (by simp [Region.wanted, hg, hy])]
      exact .inl (run (hw.1 rfl) (h.same hb))
     ·rw [if_neg (by simp [Region.wanted, hg, hy, hbw])]
      have hbn : b = !want := by cases b <;> cases want <;> simp_all
      obtain ⟨hdst, hw⟩ := hw.2 hbn
      have hs := (h.same (g := g) (x := .sc (.bool (!want))) (by rw [hb, hbn])).add (.refl G w) h.good (fun _ _ h => h) (d := o.dst) (x := .sc undef) (v := undef) (by rw [put_n]; exact hdst) (.froz (.sc _))
      exact hcont hw hs
    ·rename_i vs hb
     have hv := h.slots g
     rw [hb] at hv
     have hy := yielded_none hgs hv.sc_inv
     rw [if_neg (by simp [Region.wanted, hg, hy])]
     obtain ⟨hdst, hw⟩ := hw
     have hs := h.add (.refl G w) h.good (fun _ _ h => h) (d := o.dst) (x := .sc undef) (v := undef) hdst (.froz (.sc _))
     exact hcont hw hs
    ·exact hw.elim
theorem head_runW {W : Nat -> Array Bool -> Act -> World -> Prop} (hp : Plan ops m) (hvl : vs.length = m) (hap : Apart vs)
  (hT : ∀ (fuel : Nat) (listed : Array Bool) (U : List Nat) (G : Nat -> Status) (a : Act) (w : World), Left ops listed U -> U.length = fuel -> (∀ i, i < ops.size -> (listed.getD i false = true ↔ i < m)) -> Closed ops (fun k => listed.getD k false) -> SRel G0 w0 (puts σ vs) G a w -> W fuel listed a w)
  (hW : ∀ fuel listed a w, Region.ready .any ops listed ≠ [] -> (∀ i ∈ Region.ready .any ops listed, Go.wpOp P ops Q i (W fuel (listed.setIfInBounds i true)) a w) -> W (fuel + 1) listed a w)
  (hst : ∀ i o, i < m -> ops[i]? = some o -> ∃ d y, vs[i]? = some (d, y) /\ o.dst = some d /\ d < σ.n /\ StepG P ops o d (puts σ (vs.take i)) σ.boxes y) :
  ∀ (fuel : Nat) (listed : Array Bool) (U : List Nat) (τ : St) (G : Nat -> Status) (a : Act) (w : World), Left ops listed U -> U.length = fuel -> (∀ i, m <= i -> listed.getD i false = false) ->
   Closed ops (fun k => listed.getD k false) -> At vs (fun i => listed.getD i false) σ τ -> SRel G0 w0 τ G a w ->
   (∀ i o d, ops[i]? = some o -> i < m -> o.dst = some d -> creates o.op = true -> listed.getD i false = false -> Fresh d G) -> W fuel listed a w := by
 intro fuel
 induction fuel with
 | zero =>
  intro listed U τ G a w hl hU hm hc hat h hfr
  have hUn : U = [] := List.eq_nil_of_length_eq_zero hU
  subst hUn
  have hall : ∀ i, i < ops.size -> listed.getD i false = true := fun i hi => by
   cases hb : listed.getD i false
   ·have := (hl.mem i).2 ⟨hi, hb⟩; simp at this
   ·rfl
  have hms : m = ops.size := by
   apply Classical.byContradiction
   intro hne
   have := hp.le
   have h1 := hall m (by omega)
   rw [hm m (Nat.le_refl m)] at h1; cases h1
  have heq : SRel G0 w0 (puts σ vs) G a w := by
   have hpa := puts_at m vs σ hap
   rw [List.take_of_length_le (by omega)] at hpa
   refine h.slotsEq (by rw [hpa.n, hat.n]) (by rw [hpa.boxes, hat.boxes]) fun s => ?_
   by_cases hs : ∀ (i d : Nat) (y : AV), vs[i]? = some (d, y) -> d ≠ s
   ·rw [hpa.rest s hs, hat.rest s hs]
   ·have : ∃ (i : Nat) (y : AV), vs[i]? = some (s, y) := by
     apply Classical.byContradiction
     intro hcon
     exact hs fun i d y hi hds => hcon ⟨i, y, by rw [<- hds]; exact hi⟩
    obtain ⟨i, y, hi⟩ := this
    have hil : i < m := by rw [<- hvl]; exact (List.getElem?_eq_some_iff.1 hi).1
    rw [hpa.dst i s y hi, hat.dst i s y hi]
    simp [hil, hall i (by omega)]
  exact hT 0 listed [] G a w hl rfl (fun i hi => by simp [hall i hi]; omega) hc heq
 | succ fuel ih =>
  intro listed U τ G a w hl hU hm hc hat h hfr
  have hUn : U ≠ [] := by intro h; rw [h] at hU; simp at hU
  by_cases hdone : ∀ i, i < m -> listed.getD i false = true
  ·have heq : SRel G0 w0 (puts σ vs) G a w := by
    have hpa := puts_at m vs σ hap
    rw [List.take_of_length_le (by omega)] at hpa
    refine h.slotsEq (by rw [hpa.n, hat.n]) (by rw [hpa.boxes, hat.boxes]) fun s => ?_
    by_cases hs : ∀ (i d : Nat) (y : AV), vs[i]? = some (d, y) -> d ≠ s
    ·rw [hpa.rest s hs, hat.rest s hs]
    ·have : ∃ (i : Nat) (y : AV), vs[i]? = some (s, y) := by
      apply Classical.byContradiction
      intro hcon
      exact hs fun i d y hi hds => hcon ⟨i, y, by rw [<- hds]; exact hi⟩
     obtain ⟨i, y, hi⟩ := this
     have hil : i < m := by rw [<- hvl]; exact (List.getElem?_eq_some_iff.1 hi).1
     rw [hpa.dst i s y hi, hat.dst i s y hi]
     simp [hil, hdone i hil]
   refine hT (fuel + 1) listed U G a w hl hU (fun i hi => ⟨fun hb => ?_, fun hlt => hdone i hlt⟩) hc heq
   apply Classical.byContradiction
   intro hge
   rw [hm i (by omega)] at hb; cases hb
  ·refine hW _ _ _ _ (some_ready hl hp.lt hUn) fun i hi => ?_
   obtain ⟨o, ho, h1, h2⟩ := (ready_iff hl.size).1 hi
   have hlt := (Array.getElem?_eq_some_iff.1 ho).1
   have him : i < m := by
    apply Classical.byContradiction
    intro hge
    exact hdone fun j hj => reach_listed hc ops.size i j o ho h2 (hp.tail i o ho (by omega) j (by omega))
   obtain ⟨d, y, hv, hd, hdn, hstep⟩ := hst i o him ho
   obtain ⟨d', hd', hself, hpair⟩ := hp.head i o ho him
   rw [hd] at hd'; cases hd'
   have hmem : i ∈ U := (hl.mem i).2 ⟨hlt, h1⟩
   obtain ⟨l1, l2⟩ := hl.step hmem
   have hsz : i < listed.size := by rw [hl.size]; exact hlt
   have hsame : ∀ s ∈ slotsG ops o, (puts σ (vs.take i)).get s = τ.get s := by
    intro s hsm
    have hpa := puts_at i vs σ hap
    by_cases hs : ∀ (i d : Nat) (y : AV), vs[i]? = some (d, y) -> d ≠ s
    ·rw [hpa.rest s hs, hat.rest s hs]
    ·have : ∃ (j : Nat) (y : AV), vs[j]? = some (s, y) := by
      apply Classical.byContradiction
      intro hcon
      exact hs fun i d y hi hds => hcon ⟨i, y, by rw [<- hds]; exact hi⟩
     obtain ⟨j, y', hj⟩ := this
     have hjl : j < m := by rw [<- hvl]; exact (List.getElem?_eq_some_iff.1 hj).1
     obtain ⟨p, hpj⟩ : ∃ p, ops[j]? = some p := ⟨ops[j]'(by have := hp.le; omega), by have := hp.le; simp [show j < ops.size by omega]⟩
     obtain ⟨d'', y'', hv'', hds'', _⟩ := hst j p hjl hpj
     rw [hj] at hv''; cases hv''
     have hji : j ≠ i := fun hji => by subst hji; rw [hv] at hj; cases hj; exact hself hsm
     have hre := (hpair j p s hjl hji hpj hds'').2 hsm
     rw [hpa.dst j s y' hj, hat.dst j s y' hj]
     by_cases hjlt : j < i
     ·rw [if_pos hjlt] at hre
      have := reach_listed hc ops.size i j o ho h2 hre
      simp [hjlt, this]
     ·rw [if_neg hjlt] at hre
      have hjf : listed.getD j false = false := by
       cases hb : listed.getD j false
       ·rfl
       ·have := reach_listed hc ops.size j i p hpj (fun k hk => hc j p hpj hb k hk) hre
        rw [h1] at this; cases this
      simp [hjlt, hjf]
   have hops : ∀ x ∈ o.op.operands, VRel G w ((puts σ (vs.take i)).ev x) (a.eval x) := by
    intro x hx
    have hrel := h.ev x
    suffices (puts σ (vs.take i)).ev x = τ.ev x by rw [this]; exact hrel
    cases x with
    | tmp s =>
     simp only [St.ev]
     refine hsame s (List.mem_append.2 (.inr ?_))
     unfold slotsOf
     exact List.mem_filterMap.2 ⟨.tmp s, by simpa using hx, rfl⟩
    | const v => rfl
    | func f => rfl
    | global g => rfl
   have hgo : ∀ {G' a' w'} (hs' : SRel G0 w0 (τ.put (some d) y) G' a' w') (g4 : NewTags d G G'), W fuel (listed.setIfInBounds i true) a' w' := by
    intro G' a' w' hs' g4
    refine ih _ _ _ G' _ _ l1 (by omega) (fun j hj => ?_) (hc.step hsz ho h2) (hat.step hap hv (fun j hj => ?_) ?_) hs' (fun j oj dj hoj hjm hdj hcr hjf => ?_)
    ·rw [set_getD hsz, if_neg (by omega)]; exact hm j hj
    ·simp only [set_getD hsz]; rw [if_neg (Ne.symm hj)]
    ·simp only [set_getD hsz]; simp
    ·rw [set_getD hsz] at hjf
     by_cases hij : i = j
     ·rw [if_pos hij] at hjf; cases hjf
     ·rw [if_neg hij] at hjf
      have hne := (hpair j oj dj hjm (Ne.symm hij) hoj hdj).1
      exact g4.fresh (Ne.symm hne) (hfr j oj dj hoj hjm hdj hcr hjf)
   have hrun : StepOk P o d (puts σ (vs.take i)).ev σ.boxes y -> o.wp P a w (W fuel (listed.setIfInBounds i true)) Q := fun hstep =>
    hstep _ G a w h.good (by rw [<- hat.boxes]; exact h.boxes) (fun hcr => hfr i o d ho him hd hcr h1) hops _ _ fun v w' G' g1 g2 g3 g4 =>
     hgo (by rw [hd]; exact h.add g2 g3 g4.boxes (by simp [dstOk, hat.n, hdn]) g1) g4
   simp only [Go.wpOp, ho]
   rcases hstep with ⟨hg, hstep⟩ | ⟨j, want, g, c, hg, hgs, hgv, hc2⟩ | ⟨j, want, g, vs', hg, hgs, hgv, rfl⟩
   ·rw [if_pos (by simp [Region.wanted, hg])]
    exact .inl (hrun hstep)
   ·have hgm : g ∈ slotsG ops o := by simp [slotsG, guardS, hg, hgs]
    have hv2 := h.slots g
    rw [<- hsame g hgm, hgv] at hv2
    have hy := yielded_bool hgs hv2.sc_inv
    rcases hc2 with ⟨rfl, hstep⟩ | ⟨hne, rfl⟩
    ·rw [if_pos (by simp [Region.wanted, hg, hy])]
     exact .inl (hrun hstep)
    ·rw [if_neg (by simp [Region.wanted, hg, hy, hne])]
     have hs' := h.add (.refl G w) h.good (fun _ _ h => h) (d := o.dst) (x := .sc undef) (v := undef) (by rw [hd]; simp [dstOk, hat.n, hdn]) (.froz (.sc _))
     refine hgo (G' := G) (by rw [hd] at hs' ⊢; exact hs') ⟨fun b t hb => .inl hb, fun b i hb => hb⟩
   ·have hgm : g ∈ slotsG ops o := by simp [slotsG, guardS, hg, hgs]
    have hv2 := h.slots g
    rw [<- hsame g hgm, hgv] at hv2
    have hy := yielded_none hgs hv2.sc_inv
    rw [if_neg (by simp [Region.wanted, hg, hy])]
    have hs' := h.add (.refl G w) h.good (fun _ _ h => h) (d := o.dst) (x := .sc undef) (v := undef) (by rw [hd]; simp [dstOk, hat.n, hdn]) (.froz (.sc _))
    exact hgo (G' := G) (by rw [hd] at hs' ⊢; exact hs') ⟨fun b t hb => .inl hb, fun b i hb => hb⟩
theorem tail_stepW {W : Nat -> Array Bool -> Act -> World -> Prop} {n k fuel : Nat} {r : Option Nat} {listed : Array Bool} {U : List Nat} {a : Act} {w : World} (hp : Plan ops m) (hmk : m <= k) (hk : k < ops.size) (hl : Left ops listed U) (hU : U.length = fuel + 1)
  (hks : ∀ i, i < ops.size -> (listed.getD i false = true ↔ i < k)) (hc : Closed ops (fun k => listed.getD k false))
  (hW : ∀ fuel listed a w, Region.ready .any ops listed ≠ [] -> (∀ i ∈ Region.ready .any ops listed, wpOpIn (fenceR r) n P ops Q i (W fuel (listed.setIfInBounds i true)) a w) -> W (fuel + 1) listed a w)
  (h : ∀ (listed' : Array Bool) (U' : List Nat), Left ops listed' U' -> U'.length = fuel -> (∀ i, i < ops.size -> (listed'.getD i false = true ↔ i < k + 1)) -> Closed ops (fun k => listed'.getD k false) -> wpOpIn (fenceR r) n P ops Q k (W fuel listed') a w) : W (fuel + 1) listed a w := by
 have hUn : U ≠ [] := by intro h; rw [h] at hU; simp at hU
 refine hW _ _ _ _ (some_ready hl hp.lt hUn) fun i hi => ?_
 obtain ⟨o, ho, h1, h2⟩ := (ready_iff hl.size).1 hi
 have hlt := (Array.getElem?_eq_some_iff.1 ho).1
 have hki : ¬ i < k := fun h => by have := (hks i hlt).2 h; rw [h1] at this; cases this
 have hik : i = k := by
  apply Classical.byContradiction
  intro hne
  have hlk : k < i := by omega
  have := reach_listed hc ops.size i k o ho h2 (hp.tail i o ho (by omega) k hlk)
  have := (hks k (by omega)).1 this
  omega
 subst hik
 have hmem : i ∈ U := (hl.mem i).2 ⟨hlt, h1⟩
 obtain ⟨l1, l2⟩ := hl.step hmem
 have hsz : i < listed.size := by rw [hl.size]; exact hlt
 refine h _ _ l1 (by omega) (fun j hj => ?_) (hc.step hsz ho h2)
 rw [set_getD hsz]
 by_cases hij : i = j
 ·subst hij; simp
 ·rw [if_neg hij, hks j hj]; omega
theorem tail_fuel {k fuel : Nat} {listed : Array Bool} {U : List Nat} (hk : k < ops.size) (hl : Left ops listed U) (hU : U.length = fuel) (hks : ∀ i, i < ops.size -> (listed.getD i false = true ↔ i < k)) : ∃ f, fuel = f + 1 := by
 cases fuel with
 | succ f => exact ⟨f, rfl⟩
 | zero =>
  have hUn : U = [] := List.eq_nil_of_length_eq_zero hU
  have : listed.getD k false = false := by
   cases hb : listed.getD k false
   ·rfl
   ·have := (hks k hk).1 hb; omega
  have := (hl.mem k).2 ⟨hk, this⟩
  rw [hUn] at this
  simp at this
theorem tail_in {n k fuel : Nat} {listed : Array Bool} {U : List Nat} {G : Nat -> Status} {a : Act} {w : World} (hp : Plan ops m) (hnd : ops.toList.all noDef = true) (hQ : ¬ LetsOut Q) (hZ : ∀ σ' G' a' w', K σ' -> SRel G0 w0 σ' G' a' w' -> Q .normal a' w') (hl : Left ops listed U) (hU : U.length = fuel) (hmk : m <= k)
  (hks : ∀ i, i < ops.size -> (listed.getD i false = true ↔ i < k)) (hk : k <= ops.size) (hc : Closed ops (fun k => listed.getD k false)) (hops : opsA P ops (ops.toList.drop k) σ K) (h : SRel G0 w0 σ G a w) : wpAnyIn (fenceR none) n P .any ops Q fuel listed a w :=
 tail_runW (P := P) (Q := Q) (W := wpAnyIn (fenceR none) n P .any ops Q) hp trivial (fun _ a w σ' G' hr hk hs => ⟨hr, hZ σ' G' a w hk hs⟩)
  (fun _ _ _ _ hr hi => ⟨fun hh => absurd hh hr, fun i hii => opIn_of hQ (fun o ho => List.all_eq_true.1 hnd o (Array.mem_toList_iff.2 (Array.mem_of_getElem? ho))) (hi i hii)⟩)
  fuel k listed U σ G a w hl hU hmk hks hk hc hops h
theorem draw_raw {l : List Oper} {n : Nat} {id : Nat} {G : Nat -> Status} {a : Act} {w : World} (m : Nat) (hm : P.follows .mixedOrders = true) (hok : drawOk l.toArray m = true) (hfree : freeAll σ (crs (l.take m)) = true) (hnd : l.all noDef = true) (hQ : ¬ LetsOut Q) {T : St -> Prop} (h : headT P l.toArray m (l.take m) σ T) (hs : SRel G0 w0 σ G a w)
  (hT : ∀ (τ : St) (fuel : Nat) (listed : Array Bool) (U : List Nat) (G : Nat -> Status) (a : Act) (w : World), T τ -> Left l.toArray listed U -> U.length = fuel -> (∀ i, i < l.length -> (listed.getD i false = true ↔ i < m)) -> Closed l.toArray (fun k => listed.getD k false) -> SRel G0 w0 τ G a w -> wpAnyIn (fenceR none) n P .any l.toArray Q fuel listed a w) :
  (Code.region id l.toArray true).wpIn (fenceR none) n P Q a w := by
 rw [headT_eq] at h
 have e1 : (l.take m).take m = l.take m := by rw [List.take_take, Nat.min_self]
 have e2 : (l.take m).drop m = [] := by rw [List.drop_take, Nat.sub_self, List.take_zero]
 rw [e1, e2] at h
 rw [crs_eq] at hfree
 generalize hops : l.toArray = ops at *
 obtain rfl : ops.toList = l := by rw [<- hops]
 obtain ⟨vs, hvl, hK, hst⟩ := headA_vals _ _ _ h
 have hp := drawOk_plan hok
 have hlen : (ops.toList.take m).length = m := by have := hp.le; simp; omega
 have hst' : ∀ i o, i < m -> ops[i]? = some o -> ∃ d y, vs[i]? = some (d, y) /\ o.dst = some d /\ d < σ.n /\ StepG P ops o d (puts σ (vs.take i)) σ.boxes y := fun i o hi ho => by
  refine hst i o ?_
  rw [List.getElem?_take, if_pos hi]
  simpa using ho
 have hap : Apart vs := by
  intro i j d y d' y' h1 h2 hij
  have hil : i < m := by have := (List.getElem?_eq_some_iff.1 h1).1; omega
  have hjl : j < m := by have := (List.getElem?_eq_some_iff.1 h2).1; omega
  have hle := hp.le
  obtain ⟨oi, hoi⟩ : ∃ p, ops[i]? = some p := ⟨ops[i]'(by omega), by simp [show i < ops.size by omega]⟩
  obtain ⟨oj, hoj⟩ : ∃ p, ops[j]? = some p := ⟨ops[j]'(by omega), by simp [show j < ops.size by omega]⟩
  obtain ⟨_, _, k1, k2, _⟩ := hst' i oi hil hoi
  obtain ⟨_, _, k3, k4, _⟩ := hst' j oj hjl hoj
  rw [h1] at k1; cases k1
  rw [h2] at k3; cases k3
  obtain ⟨d1, e1, _, e2⟩ := hp.head j oj hoj hjl
  rw [k4] at e1; cases e1
  exact (e2 i oi d hil hij hoi k2).1
 refine wpIn_region_any hm ?_
 obtain ⟨G', g1, g2, _⟩ := (hs.drawn (w.drawn + 1)).freshAll trivial (creators ops m) G hfree
 have hgd : ∀ i, (Array.replicate ops.size false).getD i false = false := fun i => by
  by_cases hi : i < ops.size <;> simp [hi]
 refine head_runW (P := P) (Q := Q) (W := wpAnyIn (fenceR none) n P .any ops Q) hp (by omega) hap (fun fuel listed U G a w h1 h2 h3 h4 h5 => hT _ fuel listed U G a w hK h1 h2 h3 h4 h5) (fun fuel listed a w hr hi => ⟨fun hh => absurd hh hr, fun i hii => opIn_of hQ (fun o ho => List.all_eq_true.1 hnd o (Array.mem_toList_iff.2 (Array.mem_of_getElem? ho))) (hi i hii)⟩) hst'
  ops.size (Array.replicate ops.size false) (List.range ops.size) σ G' a _ ⟨by simp, List.nodup_range, fun i => ?_⟩ (by simp) (fun i _ => hgd i) (fun i o _ hi => absurd (show (Array.replicate ops.size false).getD i false = true from hi) (by rw [hgd]; simp)) ⟨rfl, rfl, fun i d y _ => by simp only [hgd]; simp, fun _ _ => rfl⟩ g1 (fun i o d ho hi hd hcr _ => ?_)
 ·rw [List.mem_range, hgd]; simp
 ·refine g2 d ?_
  unfold creators
  refine List.mem_filterMap.2 ⟨o, ?_, by rw [if_pos hcr]; exact hd⟩
  refine List.mem_of_getElem? (i := i) ?_
  rw [List.getElem?_take, if_pos hi]; simpa using ho
end
end Go.AM
namespace Go.AM
open Go Go.Proofs Go.RowKit
set_option maxRecDepth 100000
set_option maxHeartbeats 8000000
def nodesV : List ND -> List Value -> List AV
 | d :: r, V :: Vs => .ag [vi d.st, .sc V, vi d.par, vi d.rule] :: nodesV r Vs
 | _, _ => []
theorem nodesV_len : ∀ {l : List ND} {Vs : List Value}, Vs.length = l.length -> (nodesV l Vs).length = l.length
 | [], [], _ => rfl
 | d :: r, V :: Vs, h => by
  simp only [nodesV, List.length_cons]
  rw [nodesV_len (by simpa using h)]
 | [], _ :: _, h => by simp at h
 | _ :: _, [], h => by simp at h
theorem getNV : ∀ {l : List ND} {Vs : List Value} {j : Nat}, Vs.length = l.length -> j < l.length -> (nodesV l Vs)[j]? = some (.ag [vi l[j]!.st, .sc Vs[j]!, vi l[j]!.par, vi l[j]!.rule])
 | [], _, j, _, h => by simp at h
 | _ :: _, [], _, h, _ => by simp at h
 | d :: r, V :: Vs, 0, _, _ => rfl
 | d :: r, V :: Vs, j + 1, h, hj => by
  simp only [List.length_cons, Nat.add_lt_add_iff_right, Nat.add_right_cancel_iff] at h hj
  have := getNV (l := r) (Vs := Vs) h hj
  simpa [nodesV] using this
section
variable (L : Nat) (J : (Nat -> Prop) -> World -> Prop) (Fin : World -> Prop)
structure Keeps : Prop where
 more : ∀ (S : Nat -> Prop) (W W' : World), J S W -> W'.os = W.os -> W'.tape = W.tape -> W'.output = W.output -> W.heap.size <= W'.heap.size -> (∀ b, b < W.heap.size -> W'.heap[b]? = W.heap[b]?) -> J (fun b => S b \/ (W.heap.size <= b /\ b < W'.heap.size)) W'
 fin : ∀ (W W' : World), Fin W -> W'.os = W.os -> W'.tape = W.tape -> W'.output = W.output -> W.heap.size <= W'.heap.size -> (∀ b, b < W.heap.size -> W'.heap[b]? = W.heap[b]?) -> Fin W'
def Bare (σ : St) (a : Act) (W : World) : Prop := ∃ Gf, SRel ⟨Gf, noGh⟩ W σ Gf a W /\ (∀ b t, Gf b ≠ .tag t) /\ σ.boxes = []
def Iter (σ : St) (a : Act) (W : World) : Prop := ∃ (Gf : Nat -> Status) (S : Nat -> Prop), SRel ⟨Gf, noGh⟩ W σ Gf a W /\ (∀ b t, Gf b ≠ .tag t) /\ σ.boxes = [] /\ (∀ b, Gf b ≠ .junk -> S b) /\ J S W
end
theorem frz_tag (G : Nat -> Status) (b t : Nat) : freezeG (fun _ => true) G b ≠ .tag t := by
 unfold freezeG
 cases h : G b <;> simp
theorem frz_junk {G : Nat -> Status} {b : Nat} (h : freezeG (fun _ => true) G b ≠ .junk) : G b ≠ .junk := by
 intro e
 unfold freezeG at h
 rw [e] at h
 exact h rfl
theorem SRel.same0 {Gf G' : Nat -> Status} {W W' : World} {σ σ' : St} {a a' : Act} (h : SRel ⟨Gf, noGh⟩ W σ Gf a W) (hb : σ.boxes = []) (ht : ∀ b t, Gf b ≠ .tag t) (h' : SRel ⟨Gf, noGh⟩ W σ' G' a' W') : ∀ b, b < W.heap.size -> W'.heap[b]? = W.heap[b]? := fun b hbl =>
 h'.keep b hbl (fun i hi => by have := h.blt b i hi; rw [hb] at this; simp at this) (ht b)
theorem bare_next {Gf G' : Nat -> Status} {W W' : World} {σ' : St} {a' : Act} (h' : SRel ⟨Gf, noGh⟩ W σ' G' a' W') (hf : σ'.map (freezeLeaf fun _ => true) = σ') (hb' : σ'.boxes = []) : Bare σ' a' W' := by
 have h2 := (h'.freeze trivial (fun _ => true)).reroot
 rw [hf] at h2
 exact ⟨_, h2, frz_tag G', hb'⟩
theorem SRel.turnW {G0 : Orig} {w0 : World} {σ : St} {G : Nat -> Status} {a : Act} {W W' : World} (h : SRel G0 w0 σ G a W) (e4 : W.heap.size <= W'.heap.size) (hk : ∀ b, G b ≠ .junk -> W'.heap[b]? = W.heap[b]?) : SRel ⟨G, G0.gh⟩ W' σ G a W' :=
 {
  good := ⟨fun b hb => Nat.lt_of_lt_of_le (h.good.lt b hb) e4, h.good.tags, h.good.boxes⟩
  slots := fun s => (h.slots s).mono (fun b _ => rfl) fun b hb _ => hk b hb
  boxes := ⟨h.boxes.low, fun i cs hi => (h.boxes.cell i cs hi).same (fun x v hr => hr.mono (fun b _ => rfl) fun b hb _ => hk b hb) (fun b hb => ⟨hb, hk b (by rw [hb]; simp)⟩) fun hn => hn⟩
  blt := h.blt, size := h.size, defs := h.defs, os := rfl, tape := rfl, output := rfl, hsize := Nat.le_refl _, stat := fun _ _ _ => rfl, keep := fun _ _ _ _ => rfl }
theorem iter_next {J : (Nat -> Prop) -> World -> Prop} {Fin : World -> Prop} (hK : Keeps J Fin) {Gf G' : Nat -> Status} {S : Nat -> Prop} {W W' : World} {σ σ' : St} {a a' : Act} (h : SRel ⟨Gf, noGh⟩ W σ Gf a W) (hb : σ.boxes = []) (ht : ∀ b t, Gf b ≠ .tag t) (hS : ∀ b, Gf b ≠ .junk -> S b) (hJ : J S W)
  (h' : SRel ⟨Gf, noGh⟩ W σ' G' a' W') (hf : σ'.map (freezeLeaf fun _ => true) = σ') (hb' : σ'.boxes = []) : Iter J σ' a' W' := by
 have h2 := (h'.freeze trivial (fun _ => true)).reroot
 rw [hf] at h2
 refine ⟨_, _, h2, frz_tag G', hb', fun b hbj => ?_, hK.more S W W' hJ h'.os h'.tape h'.output h'.hsize (h.same0 hb ht h')⟩
 by_cases hlt : b < W.heap.size
 ·have e : G' b = Gf b := h'.stat b hlt (ht b)
  exact .inl (hS b (by rw [<- e]; exact frz_junk hbj))
 ·exact .inr ⟨by omega, h'.good.lt b (frz_junk hbj)⟩
theorem run_yieldCall {P : Program} {a : Act} {w : World} {L x y z : Nat} {V1 V2 : Value} {o : Oper} {ts : Array TypeId} {r : Result Next} (ho : o.op = .call { callee := .value (.tmp x), args := #[.tmp y, .tmp z], argTypes := ts }) (hx : a.tmps.getD x undef = .func (.yield L) #[] #[])
  (h1 : a.tmps.getD y undef = V1) (h2 : a.tmps.getD z undef = V2) (hr : (Instr.yield L #[V1, V2]).run P w = r) : (execOp a.eval o).run P w = r := by
 have e : a.eval (.tmp x) = .func (.yield L) #[] #[] := hx
 have e1 : a.eval (.tmp y) = V1 := h1
 have e2 : a.eval (.tmp z) = V2 := h2
 simp [execOp, ho, resolve, e, e1, e2, Deferred.ofValue, invoke, hr]
def nextQ (ST : St) : Exit -> St -> Prop
 | .normal, τ => τ.le ST
 | _, _ => False
@[go_sem] theorem nextQ_normal {ST σ : St} : nextQ ST .normal σ = σ.le ST := rfl
theorem iter_code {N : Nat} {J : (Nat -> Prop) -> World -> Prop} {Fin : World -> Prop} (hK : Keeps J Fin) {σ : St} {a : Act} {W : World} (hI : Iter J σ a W) (c : Code) (ST : St) (hfl : flatC c = true) (hw : wpA Tryz.prog c (nextQ ST) σ) (hf : ST.map (freezeLeaf fun _ => true) = ST) (hb' : ST.boxes = []) :
  c.wpIn (fenceR none) N Tryz.prog (fun e a' W' => e = .normal /\ Iter J ST a' W') a W := by
 obtain ⟨Gf, S, h, ht, hb, hS, hJ⟩ := hI
 refine wpIn_mono (roundA c (nextQ ST) σ Gf a W (fun σ hh => hh) hfl hw h) ?_
 rintro e a' W' ⟨σ', G', hq, h'⟩
 cases e with
 | normal => exact ⟨rfl, iter_next hK h hb ht hS hJ (h'.le hq) hf hb'⟩
 | _ => exact hq.elim
def st71 (l : List ND) (Vs : List Value) (next s : Int) (L : Nat) (n : Int) : St := ⟨35, [(0, .sc (.func (.yield L) #[] #[])), (2, .fp [.sl 0 4 (nodesV l Vs), vi next] 0), (3, .fp [vi s] 0), (5, vi n)], []⟩
attribute [go_sem] st71
theorem iter71 {N : Nat} {J : (Nat -> Prop) -> World -> Prop} {Fin : World -> Prop} (hK : Keeps J Fin) {l : List ND} {Vs : List Value} {p j : Nat} {s next : Int} {v : List Int} {L : Nat} {vs : Array Value} {W1 : World} {S : Nat -> Prop} {G71 : Nat -> Status}
  (hVs : Vs.length = l.length) (hlen : l.length <= 256) (hp : p < l.length) (hpar : ∀ i, i < l.length -> -1 <= l[i]!.par /\ l[i]!.par < i) (hsr : smallerF l s v 257 p = (j : Int)) (_hvs : vs.size = 4)
  (h0 : SRel ⟨G71, noGh⟩ W1 ⟨35, [(0, .sc (.func (.yield L) #[] #[])), (1, .fp [vi p] 0), (2, .fp [.sl 0 4 (nodesV l Vs), vi next] 0), (3, .fp [vi s] 0)], []⟩ G71 { tmps := vs ++ Array.replicate (35 - vs.size) undef, defers := [] } W1) (ht : ∀ b t, G71 b ≠ .tag t) (hS : ∀ b, G71 b ≠ .junk -> S b) (hJ : J S W1)
  (hround : ∀ (n : Nat) (S : Nat -> Prop) (W : World), J S W -> n < l.length -> l[n]!.st = s -> ((leqV l[n]!.vec v && lessO l[n]!.vec v) = true -> n = j) -> YieldAt (fenceR none) N Tryz.prog L #[.int .i64 n, Vs[n]!] W fun e W' => W'.os = W.os /\ W'.tape = W.tape /\ W'.output = W.output /\ W.heap.size <= W'.heap.size /\ (∀ b, b < W.heap.size -> S b -> W'.heap[b]? = W.heap[b]?) /\ ((e = .returned (.bool true) /\ (leqV l[n]!.vec v && lessO l[n]!.vec v) = false /\ J S W') \/ (e = .returned (.bool false) /\ Fin W'))) :
  CallsIn (fenceR none) (N + 1) Tryz.prog 71 vs W1 fun e W => (∃ v, e = .returned v) /\ Fin W := by
 refine callsIn_of_wp Tryz.func71 rfl trivial ?_ rfl
 have hI0 : Iter J _ _ W1 := ⟨G71, S, h0, ht, rfl, hS, hJ⟩
 refine wpIn_seq (wpIn_mono (iter_code hK hI0 _ (st71 l Vs next s L p) (by kernel_rfl) (by simp only [go_sem]) (by kernel_rfl) rfl) ?_)
 rintro e a1 W2 ⟨rfl, hI⟩
 refine wpIn_block (wpIn_loop_rounds 257 ?_)
 obtain ⟨k, hk⟩ : ∃ k, k = 257 := ⟨_, rfl⟩
 rw [<- hk] at hsr ⊢
 have hlt : p < k := by omega
 clear hk hI0 h0
 induction k generalizing p a1 W2 with
 | zero => omega
 | succ k ih =>
 rw [smallerF, if_pos ⟨by omega, by omega⟩, show ((p : Int)).toNat = p from rfl] at hsr
 have hg := getNV hVs hp
 have hpr := hpar p hp
 rw [roundsIn_succ]
 have a1 : (0 : Int) <= (p : Int) := by omega
 refine wpIn_seq (wpIn_mono (iter_code hK hI _ ⟨35, [(0, .sc (.func (.yield L) #[] #[])), (2, .fp [.sl 0 4 (nodesV l Vs), vi next] 0), (3, .fp [vi s] 0), (5, vi p)], []⟩ (by kernel_rfl) (by simp only [go_sem, a1]) (by kernel_rfl) rfl) ?_)
 rintro e a2 W3 ⟨rfl, hI⟩
 refine wpIn_seq (wpIn_block (wpIn_seq (wpIn_mono (Q := fun e a' W' => e = .normal /\ (((l[p]!.st == s && (leqV l[p]!.vec v && lessO l[p]!.vec v)) = false /\ Iter J ⟨35, [(2, .fp [.sl 0 4 (nodesV l Vs), vi next] 0), (3, .fp [vi s] 0), (5, vi p), (0, .sc (.func (.yield L) #[] #[])), (34, vb false)], []⟩ a' W') \/ (Bare ⟨35, [(34, vb true)], []⟩ a' W' /\ Fin W'))) ?_ ?_)))
 ·obtain ⟨Gf, S3, hs, ht3, hb3, hS3, hJ3⟩ := hI
  by_cases hst : l[p]!.st = s
  case neg =>
   have hst' : (l[p]!.st == s) = false := beq_eq_false_iff_ne.2 hst
   refine wpIn_mono (F := fenceR none) ((wpIn_wide (n := N + 1)).2 (wpA_sound trivial _ (nextQ ⟨35, [(2, .fp [.sl 0 4 (nodesV l Vs), vi next] 0), (3, .fp [vi s] 0), (5, vi p), (0, .sc (.func (.yield L) #[] #[])), (34, vb false)], []⟩) _ Gf a2 W3 ?_ hs)) ?_
   ·simp only [go_sem]
    refine DrawK.walk 17 mixed (by kernel_rfl) ?_
    simp only [go_sem, hg, hp, hst', nodesV_len hVs]
   ·rintro e a' W' ⟨σ', hq, ⟨G', h'⟩ | ⟨he, _⟩⟩
    ·cases e with
     | normal => exact ⟨rfl, .inl ⟨by rw [hst', Bool.false_and], iter_next hK hs hb3 ht3 hS3 hJ3 (h'.le hq) (by kernel_rfl) rfl⟩⟩
     | _ => exact hq.elim
    ·subst he; exact hq.elim
  have hst' : (l[p]!.st == s) = true := beq_iff_eq.2 hst
  refine draw_raw 17 mixed (by kernel_rfl) (by simp only [go_sem, List.take_succ_cons]) (by kernel_rfl) (fun ⟨a, w, hh, _⟩ => by cases hh) (T := fun τ => τ.le ⟨35, [(2, .fp [.sl 0 4 (nodesV l Vs), vi next] 0), (3, .fp [vi s] 0), (5, vi p), (0, .sc (.func (.yield L) #[] #[])), (23, vb true), (24, .sc (.func (.yield L) #[] #[])), (25, vi p), (31, .sc Vs[p]!)], []⟩) ?_ hs ?_
  ·simp only [go_sem, List.take_succ_cons, hg, hp, hst', nodesV_len hVs]
  ·intro τ fuel listed U G4 a4 W4 hτ hl hU hks hc h4
   obtain ⟨Gi, Si, hsi, hti, hbi, hSi, hJi⟩ := iter_next hK hs hb3 ht3 hS3 hJ3 (h4.le hτ) (by kernel_rfl) rfl
   obtain ⟨f, rfl⟩ := tail_fuel (k := 17) (by simp) hl hU hks
   refine tail_stepW (drawOk_plan (m := 17) (by kernel_rfl)) (Nat.le_refl 17) (by simp) hl hU hks hc (fun fuel listed a w hr hi => ⟨fun hh => absurd hh hr, hi⟩) ?_
   intro listed' U' hl' hU' hks' hc'
   unfold wpOpIn
   simp only [List.getElem?_toArray, List.getElem?_cons_succ, List.getElem?_cons_zero]
   have v23 : a4.tmps.getD 23 undef = .bool true := (hsi.slots 23).sc_inv
   have v24 : a4.tmps.getD 24 undef = .func (.yield L) #[] #[] := (hsi.slots 24).sc_inv
   have v25 : a4.tmps.getD 25 undef = .int .i64 p := (hsi.slots 25).sc_inv
   have v31 : a4.tmps.getD 31 undef = Vs[p]! := (hsi.slots 31).sc_inv
   obtain ⟨fn, tm, ac, bd, hy, hR⟩ := hround p Si W4 hJi hp hst (fun hh => by rw [hst', hh, if_pos (by simp)] at hsr; omega)
   rw [if_pos (by simp only [Region.wanted]; rw [yielded_bool (g := 23) (b := true) (by kernel_rfl) v23]; rfl)]
   refine ⟨fun _ _ => trivial, ?_⟩
   rw [show Oper.semAt (fenceR none).round a4.eval = execOp a4.eval from rfl, run_yieldCall rfl v24 v25 v31 hy]
   refine ⟨fun hh => by simp [fenceR, Fence.wide] at hh, RoundIn.mono hR ?_⟩
   rintro e W5 ⟨e1, e2, e3, e4, e5, he⟩
   have h5 := hsi.turnW e4 fun b hb => e5 b (hsi.good.lt b hb) (hSi b hb)
   rcases he with ⟨rfl, hno, hJ5⟩ | ⟨rfl, hF5⟩
   ·have h6 := h5.add (.refl _ _) h5.good (fun _ _ h => h) (d := some 32) (x := vb true) (v := .bool true) (by kernel_rfl) (.froz (.sc _))
    refine tail_in (drawOk_plan (m := 17) (by kernel_rfl)) (by kernel_rfl) (fun ⟨a, w, hh, _⟩ => by cases hh) (K := fun τ => τ.le ⟨35, [(2, .fp [.sl 0 4 (nodesV l Vs), vi next] 0), (3, .fp [vi s] 0), (5, vi p), (0, .sc (.func (.yield L) #[] #[])), (34, vb false)], []⟩)
     (fun σ' G' a' w' hle h' => ⟨rfl, .inl ⟨by rw [hno, Bool.and_false], iter_next hK h5 hbi hti hSi hJ5 (h'.le hle) (by kernel_rfl) rfl⟩⟩) hl' hU' (by omega) hks' (by simp) hc' ?_ h6
    change opsA _ _ [_, _] _ _
    simp only [go_sem]
   ·have h6 := h5.add (.refl _ _) h5.good (fun _ _ h => h) (d := some 32) (x := vb false) (v := .bool false) (by kernel_rfl) (.froz (.sc _))
    refine tail_in (drawOk_plan (m := 17) (by kernel_rfl)) (by kernel_rfl) (fun ⟨a, w, hh, _⟩ => by cases hh) (K := fun τ => τ.le ⟨35, [(34, vb true)], []⟩)
     (fun σ' G' a' w' hle h' => ⟨rfl, .inr ⟨bare_next (h'.le hle) (by kernel_rfl) rfl, hK.fin _ _ hF5 h'.os h'.tape h'.output h'.hsize (h5.same0 hbi hti h')⟩⟩) hl' hU' (by omega) hks' (by simp) hc' ?_ h6
    change opsA _ _ [_, _] _ _
    simp only [go_sem]
 rintro e a3 W4 ⟨rfl, ⟨hno, hI⟩ | ⟨⟨Gb, hB, _, _⟩, hFin⟩⟩
 ·obtain ⟨Gf, S3, hs, hh⟩ := hI
  refine wpIn_cond_false (hs.slots 34).sc_inv (wpIn_skip ?_)
  rw [hno, if_neg (by simp)] at hsr
  have h0 : 0 <= l[p]!.par := by
   apply Classical.byContradiction
   intro hn
   rw [smaller_neg (by omega)] at hsr
   omega
  have hpl : p < l.length := hp
  obtain ⟨q, hq⟩ : ∃ q : Nat, l[p]!.par = q := ⟨l[p]!.par.toNat, by omega⟩
  refine wpIn_mono (iter_code hK ⟨Gf, S3, hs, hh⟩ _ (st71 l Vs next s L l[p]!.par) (by kernel_rfl) (by simp only [go_sem, hg, hp, nodesV_len hVs]) (by kernel_rfl) rfl) ?_
  rintro e a4 W5 ⟨rfl, hI2⟩
  rw [hq] at hsr hI2 hpr
  refine ih (p := q) (a1 := a4) (W2 := W5) ?_ ?_ ?_ ?_ <;> first | omega | assumption
 ·refine wpIn_cond_true (hB.slots 34).sc_inv (wpIn_ret ?_)
  exact ⟨hB.defs, _, results_none rfl _ _ _, ⟨_, rfl⟩, hFin⟩
end Go.AM
namespace Go.AM
open Go Go.RowKit
section
variable {P : Program} {d : Nat} {K : St -> Prop}
theorem SRel.callee {G0 : Orig} {w0 : World} {σ σc : St} {G G' : Nat -> Status} {a ac : Act} {w w' : World} (h : SRel G0 w0 σ G a w) (hnt : ∀ b t, G b ≠ .tag t) (hc : SRel ⟨G, G0.gh⟩ w σc G' ac w') : SRel G0 w0 ⟨σ.n, σ.tmps, σc.boxes⟩ G' a w' :=
 have hst : ∀ b, G b ≠ .junk -> G' b = G b := fun b hb => hc.stat b (h.good.lt b hb) (hnt b)
 {
  good := hc.good
  slots := fun s => (h.slots s).mono hst fun b hb hn => hc.keep b (h.good.lt b hb) hn (hnt b)
  boxes := hc.boxes
  blt := hc.blt
  size := h.size
  defs := h.defs
  os := hc.os.trans h.os
  tape := hc.tape.trans h.tape
  output := hc.output.trans h.output
  hsize := Nat.le_trans h.hsize hc.hsize
  stat := fun b hb ht => (hc.stat b (Nat.lt_of_lt_of_le hb h.hsize) (hnt b)).trans (h.stat b hb ht)
  keep := fun b hb hn ht => by
   have e := h.stat b hb ht
   exact (hc.keep b (Nat.lt_of_lt_of_le hb h.hsize) (fun i => by show G b ≠ _; rw [e]; exact hn i) (hnt b)).trans (h.keep b hb hn ht) }
def endI (P : Program) (rs : List ResultVar) (d : Nat) (σ : St) (K : St -> Prop) : Exit -> St -> Prop
 | .normal, τ => resK P τ rs fun l => K (St.put ⟨σ.n, σ.tmps, τ.boxes⟩ (some d) (tupA l))
 | .ret, τ => resK P τ rs fun l => K (St.put ⟨σ.n, σ.tmps, τ.boxes⟩ (some d) (tupA l))
 | _, _ => False
@[go_sem] theorem endI_normal {rs : List ResultVar} {n n' : Nat} {t t' : List (Nat × AV)} {b b' : List (List AV)} : endI P rs d ⟨n', t', b'⟩ K .normal ⟨n, t, b⟩ = resK P ⟨n, t, b⟩ rs fun l => K (St.put ⟨n', t', b⟩ (some d) (tupA l)) := rfl
@[go_sem] theorem endI_ret {rs : List ResultVar} {n n' : Nat} {t t' : List (Nat × AV)} {b b' : List (List AV)} : endI P rs d ⟨n', t', b'⟩ K .ret ⟨n, t, b⟩ = resK P ⟨n, t, b⟩ rs fun l => K (St.put ⟨n', t', b⟩ (some d) (tupA l)) := rfl
theorem CallS.inline {f : FuncId} {fn : Func} {c : Code} {rs : List ResultVar} {n : Nat} {args : List AV} {σ : St} (hf : P.funcs[f]? = some fn) (hb : fn.body = some c) (hn : fn.ntmps = n) (hrs : fn.results = rs.toArray)
  (hname : (fn.name == "runtime.NumGoroutine") = false) (hargs : args.length <= n) (hd : d < σ.n) (hfz : σ.map (freezeLeaf fun _ => true) = σ) (hfa : mapTops (freezeLeaf fun _ => true) args = args)
  (h : wpA P c (endI P rs d σ K) ⟨n, argT 0 args, σ.boxes⟩) : CallS P f args d σ K := by
 intro G0 w0 G a w vs hs hv
 refine ⟨⟨fn, hf, hname, by simp [hb]⟩, ?_⟩
 subst hn
 have hs2 := hs.freeze trivial (fun _ => true)
 rw [hfz] at hs2
 have hv2 : PW (VRel (freezeG (fun _ => true) G) w) args vs.toList := by
  refine ⟨hv.1, fun j x u hx hu => ?_⟩
  have : (mapTops (freezeLeaf fun _ => true) args)[j]? = some x := by rw [hfa]; exact hx
  rw [mapTops_eq, List.getElem?_map] at this
  cases hj : args[j]? with
  | none => simp [hj] at this
  | some y =>
   simp [hj] at this
   rw [<- this]
   exact (hv.2 j y u hj hu).freeze
 have hnt : ∀ b t, freezeG (fun _ => true) G b ≠ .tag t := fun b t => by
  unfold freezeG
  cases hh : G b <;> simp
 generalize freezeG (fun _ => true) G = G1 at hs2 hv2 hnt
 refine calls_of_wpE (G0 := ⟨G1, G0.gh⟩) (w1 := w) hf hb (wpA_sound trivial c _ ⟨fn.ntmps, argT 0 args, σ.boxes⟩ G1 _ w h ?_) ?_
 ·have hsz : args.length = vs.size := by have := hv.1; simpa using this
  refine { good := hs2.good, slots := fun s => ?_, boxes := hs2.boxes, blt := hs2.blt, size := ?_, defs := rfl, os := rfl, tape := rfl, output := rfl, hsize := Nat.le_refl _, stat := fun _ _ _ => rfl, keep := fun _ _ _ _ => rfl }
  ·simp only [St.get, argT_look, Nat.zero_le, if_true, Nat.sub_zero]
   cases hh : args[s]? with
   | none => exact .froz (.any _)
   | some x =>
    have hlt : s < vs.toList.length := by rw [<- hv.1]; exact (List.getElem?_eq_some_iff.1 hh).1
    have := hv2.2 s x _ hh (List.getElem?_eq_getElem hlt)
    have e : (vs ++ Array.replicate (fn.ntmps - vs.size) undef).getD s undef = vs.toList[s] := by
     have hlt' : s < vs.size := by simpa using hlt
     simp [Array.getD_eq_getD_getElem?, Array.getElem?_append, hlt']
    simp only [Option.getD_some]
    rw [e]; exact this
  ·simp; omega
 ·rintro e a' w' σ' G' hq hc
  have fin : (resK P σ' rs fun l => K (St.put ⟨σ.n, σ.tmps, σ'.boxes⟩ (some d) (tupA l))) -> a'.defers = [] /\ ∃ v, (results fn a'.tmps).run P w' = .ok v w' /\ ∃ v1 τ G'', Ending.returned v = .returned v1 /\ K τ /\ SRel G0 w0 τ G'' (a.put (some d) v1) w' := fun hq => by
   obtain ⟨v, l, h1, hK, hr⟩ := res_sound hrs hc hq
   exact ⟨hc.defs, v, h1, v, _, G', rfl, hK, (hs2.callee hnt hc).add (.refl _ _) hc.good (fun _ _ h => h) (d := some d) (by simpa [dstOk] using hd) hr⟩
  cases e with
  | normal => exact fin hq
  | ret => exact fin hq
  | _ => exact hq.elim
end
theorem slots_args {G : Nat -> Status} {w : World} {args : List AV} {vs : Array Value} (n : Nat) (hv : PW (VRel G w) args vs.toList) (z : Nat) : VRel G w (St.get ⟨n, argT 0 args, []⟩ z) ((vs ++ Array.replicate (n - vs.size) undef).getD z undef) := by
 have hsz : args.length = vs.size := by have := hv.1; simpa using this
 simp only [St.get, argT_look, Nat.zero_le, if_true, Nat.sub_zero]
 cases hh : args[z]? with
 | none => exact .froz (.any _)
 | some x =>
  have hlt : z < vs.toList.length := by rw [<- hv.1]; exact (List.getElem?_eq_some_iff.1 hh).1
  have := hv.2 z x _ hh (List.getElem?_eq_getElem hlt)
  have e : (vs ++ Array.replicate (n - vs.size) undef).getD z undef = vs.toList[z] := by
   have hlt' : z < vs.size := by simpa using hlt
   simp [Array.getD_eq_getD_getElem?, Array.getElem?_append, hlt']
  simp only [Option.getD_some]
  rw [e]; exact this
section
variable {P : Program}
theorem Con.raw {f : FuncId} {fn : Func} {c : Code} {rs : List ResultVar} {n : Nat} {args : List AV} {bx : List (List AV)} {post : AV -> List (List AV) -> Prop} (hf : P.funcs[f]? = some fn) (hb : fn.body = some c) (hn : fn.ntmps = n) (hrs : fn.results = rs.toArray)
  (hname : (fn.name == "runtime.NumGoroutine") = false) (hargs : args.length <= n) (m : Nat) (hm : bx.length <= m) (h : ∀ (G : Nat -> Status) (w : World) (a : Act), SRel ⟨G, noGh⟩ w ⟨n, argT 0 args, bx⟩ G a w -> c.wp P (fun e a' w' => ∃ σ', endQ P rs m post e σ' /\ ERel P ⟨G, noGh⟩ w e σ' a' w') a w) : Con P f args bx post := by
 refine ⟨⟨fn, hf, hname, by simp [hb]⟩, fun G w vs hg h0 hbl hbr hv => ?_⟩
 subst hn
 refine calls_of_wpE (G0 := ⟨G, noGh⟩) (w1 := w) hf hb (h G w _ ?_) ?_
 ·have hsz : args.length = vs.size := by have := hv.1; simpa using this
  refine { good := hg, slots := fun s => ?_, boxes := hbr, blt := hbl, size := ?_, defs := rfl, os := rfl, tape := rfl, output := rfl, hsize := Nat.le_refl _, stat := fun _ _ _ => rfl, keep := fun _ _ _ _ => rfl }
  ·simp only [St.get, argT_look, Nat.zero_le, if_true, Nat.sub_zero]
   cases hs : args[s]? with
   | none => exact .froz (.any _)
   | some x =>
    have hlt : s < vs.toList.length := by rw [<- hv.1]; exact (List.getElem?_eq_some_iff.1 hs).1
    have := hv.2 s x _ hs (List.getElem?_eq_getElem hlt)
    have e : (vs ++ Array.replicate (fn.ntmps - vs.size) undef).getD s undef = vs.toList[s] := by
     have hlt' : s < vs.size := by simpa using hlt
     simp [Array.getD_eq_getD_getElem?, Array.getElem?_append, hlt']
    simp only [Option.getD_some]
    rw [e]; exact this
  ·simp; omega
 ·rintro e a' w' σ' G' hq hs
  have fin : endK P rs m post σ' ->
    a'.defers = [] /\ ∃ v, (results fn a'.tmps).run P w' = .ok v w' /\ ∃ v_1 r bx' G', Ending.returned v = .returned v_1 /\ post r bx' /\ VRel G' w' r v_1 /\ Good G' w' /\ BRel noGh G' w' bx' /\ (∀ b i, G' b = .box i -> i < bx'.length) /\
     w'.os = w.os /\ w'.tape = w.tape /\ w'.output = w.output /\ w.heap.size <= w'.heap.size /\ (∀ b, b < w.heap.size -> G' b = G b) /\ (∀ b, b < w.heap.size -> (∀ i, G b ≠ .box i) -> w'.heap[b]? = w.heap[b]?) := by
   intro hq
   obtain ⟨v, h1, r, bx', G'', h2, h3, h4, h5, h6, h7, _⟩ := end_sound (rs := rs) (by rw [hrs]) trivial hbl hs hm hq (fun i vs hv => by simp [noGh] at hv)
   exact ⟨hs.defs, v, h1, v, r, bx', G'', rfl, h2, h3, h4, h5, h6, hs.os, hs.tape, hs.output, hs.hsize, fun b hb => h7 b hb (h0 b), fun b hb hn => hs.keep b hb hn (h0 b)⟩
  cases e with
  | normal => exact fin hq
  | ret => exact fin hq
  | _ => exact hq.elim
theorem seqA {G0 : Orig} {w0 : World} {σ ST : St} {G : Nat -> Status} {a : Act} {w : World} {x y : Code} {R : Exit -> Act -> World -> Prop} (Q : Exit -> St -> Prop) (hQ : ∀ e τ, Q e τ -> e = .normal /\ τ.le ST) (hw : wpA P x Q σ) (hs : SRel G0 w0 σ G a w) (k : ∀ G' a' w', SRel G0 w0 ST G' a' w' -> y.wp P R a' w') : (x.seq y).wp P R a w := by
 refine wp_seq (wp_mono (wpA_sound trivial x Q σ G a w hw hs) ?_)
 rintro e a' w' ⟨σ', hq, he⟩
 obtain ⟨rfl, hle⟩ := hQ e σ' hq
 rcases he with ⟨G', h'⟩ | ⟨he, _⟩
 ·exact k G' a' w' (h'.le hle)
 ·cases he
end
end Go.AM
namespace Go.AM
open Go Go.Proofs Go.RowKit
set_option maxHeartbeats 8000000
theorem nodes_cells {S S2 : Nat -> Prop} {w : World} : ∀ (l : List ND) (vals : List Value), (flat (l.map vND)).length = vals.length -> (∀ (j : Nat) x u, (flat (l.map vND))[j]? = some x -> vals[j]? = some u -> FRel S w x u) ->
  ∃ Vs : List Value, Vs.length = l.length /\ (∀ j, j < l.length -> FRel S w (vs 0 l[j]!.vec) Vs[j]!) /\ (flat (nodesV l Vs)).length = vals.length /\ (∀ (j : Nat) x u, (flat (nodesV l Vs))[j]? = some x -> vals[j]? = some u -> FRel S2 w x u) /\ ∀ x ∈ nodesV l Vs, x.cells.length = 4
 | [], vals, hl, _ => ⟨[], rfl, fun j hj => by simp at hj, hl, fun j x u hx => by simp [nodesV, flat] at hx, fun x hx => by simp [nodesV] at hx⟩
 | d :: r, vals, hl, hr => by
  have e : flat ((d :: r).map vND) = vi d.st :: vs 0 d.vec :: vi d.par :: vi d.rule :: flat (r.map vND) := by simp [flat, vND, AV.cells]
  rw [e] at hl hr
  match vals, hl, hr with
  | v0 :: v1 :: v2 :: v3 :: vals', hl, hr =>
   obtain ⟨Vs, h1, h2, h3, h4, h5⟩ := nodes_cells (S := S) (S2 := S2) r vals' (by simpa using hl) (fun j x u hx hu => hr (j + 4) x u (by simpa using hx) (by simpa using hu))
   have q0 := hr 0 _ v0 rfl rfl
   have q1 := hr 1 _ v1 rfl rfl
   have q2 := hr 2 _ v2 rfl rfl
   have q3 := hr 3 _ v3 rfl rfl
   have e2 : flat (nodesV (d :: r) (v1 :: Vs)) = vi d.st :: .sc v1 :: vi d.par :: vi d.rule :: flat (nodesV r Vs) := by simp [flat, nodesV, AV.cells]
   refine ⟨v1 :: Vs, by simp [h1], fun j hj => ?_, by rw [e2]; simpa using h3, fun j x u hx hu => ?_, fun x hx => ?_⟩
   ·cases j with
    | zero => exact q1
    | succ j => simpa using h2 j (by simpa using hj)
   ·rw [e2] at hx
    match j, hx, hu with
    | 0, hx, hu => simp at hx hu; subst hx; subst hu; cases q0; exact .sc _
    | 1, hx, hu => simp at hx hu; subst hx; subst hu; exact .sc _
    | 2, hx, hu => simp at hx hu; subst hx; subst hu; cases q2; exact .sc _
    | 3, hx, hu => simp at hx hu; subst hx; subst hu; cases q3; exact .sc _
    | j + 4, hx, hu => exact h4 j x u (by simpa using hx) (by simpa using hu)
   ·rcases List.mem_cons.1 hx with rfl | hx
    ·rfl
    ·exact h5 x hx
theorem nodes_val {S S2 : Nat -> Prop} {w : World} {l : List ND} {v : Value} (h0 : 0 < l.length) (h : FRel S w (.sl 0 4 (l.map vND)) v) (hS : ∀ b, S b -> S2 b) : ∃ Vs : List Value, Vs.length = l.length /\ (∀ j, j < l.length -> FRel S w (vs 0 l[j]!.vec) Vs[j]!) /\ FRel S2 w (.sl 0 4 (nodesV l Vs)) v := by
 generalize hx : l.map vND = xs at h
 cases h with
 | slNil t es a c h1 h2 h3 => cases l <;> simp at hx h0
 | sl t es xs b off c vals h1 h2 h3 h4 h5 h6 h7 h8 h9 =>
  subst hx
  obtain ⟨Vs, g1, g2, g3, g4, g5⟩ := nodes_cells (S2 := S2) l vals h6 h9
  refine ⟨Vs, g1, g2, ?_⟩
  have hl : (nodesV l Vs).length = (l.map vND).length := by rw [nodesV_len g1, List.length_map]
  rw [<- hl]
  exact .sl 0 4 _ b off c vals h1 (hS b h2) (fun h => by omega) (by rw [hl]; exact h4) g5 g3 h7 h8 g4
structure Base (L : Nat) (Ga : Nat -> Status) (wa : World) (Gb : Nat -> Status) (wb : World) : Prop where
 os : wb.os = wa.os
 tape : wb.tape = wa.tape
 output : wb.output = wa.output
 size : wa.heap.size <= wb.heap.size
 stat : ∀ b, b < wa.heap.size -> (∀ t, Ga b ≠ .tag t) -> Gb b = Ga b
 keep : ∀ b, b < wa.heap.size -> b ≠ L -> (∀ i, Ga b ≠ .box i) -> (∀ t, Ga b ≠ .tag t) -> wb.heap[b]? = wa.heap[b]?
theorem Base.trans {L : Nat} {Ga Gb Gc : Nat -> Status} {wa wb wc : World} (h : Base L Ga wa Gb wb) (k : Base L Gb wb Gc wc) : Base L Ga wa Gc wc := by
 refine ⟨k.os.trans h.os, k.tape.trans h.tape, k.output.trans h.output, Nat.le_trans h.size k.size, fun b hb ht => ?_, fun b hb hL hi ht => ?_⟩
 ·have e := h.stat b hb ht
  exact (k.stat b (Nat.lt_of_lt_of_le hb h.size) (by rw [e]; exact ht)).trans e
 ·have e := h.stat b hb ht
  exact (k.keep b (Nat.lt_of_lt_of_le hb h.size) hL (by rw [e]; exact hi) (by rw [e]; exact ht)).trans (h.keep b hb hL hi ht)
theorem SRel.base {L : Nat} {Ga Gb : Nat -> Status} {gh : Gh} {wa wb : World} {σ : St} {a : Act} (h : SRel ⟨Ga, gh⟩ wa σ Gb a wb) : Base L Ga wa Gb wb := ⟨h.os, h.tape, h.output, h.hsize, h.stat, fun b hb _ hi ht => h.keep b hb hi ht⟩
theorem Base.putL {L : Nat} {G : Nat -> Status} {w : World} (o : Obj) : Base L G w G (w.putObj L o) :=
 ⟨rfl, rfl, rfl, by rw [World.putObj_size]; exact Nat.le_refl _, fun _ _ _ => rfl, fun b _ hL _ _ => World.putObj_heap_other hL⟩
theorem Base.ext {L : Nat} {G : Nat -> Status} {w w' : World} (e1 : w'.os = w.os) (e2 : w'.tape = w.tape) (e3 : w'.output = w.output) (e4 : w.heap.size <= w'.heap.size) (hk : ∀ b, b < w.heap.size -> w'.heap[b]? = w.heap[b]?) : Base L G w G w' :=
 ⟨e1, e2, e3, e4, fun _ _ _ => rfl, fun b hb _ _ _ => hk b hb⟩
theorem SRel.putL {G0 : Orig} {w0 : World} {σ : St} {G : Nat -> Status} {a : Act} {w : World} {L : Nat} (h : SRel G0 w0 σ G a w) (hL : G L = .junk) (o : Obj) : SRel ⟨G, G0.gh⟩ (w.putObj L o) σ G a (w.putObj L o) :=
 h.turnW (by rw [World.putObj_size]; exact Nat.le_refl _) fun b hb => World.putObj_heap_other (fun e => hb (by rw [e]; exact hL))
theorem back_to {L : Nat} {gh : Gh} {Gr Gx : Nat -> Status} {w1 wx : World} {n : Nat} {few : List (Nat × AV)} {B Bx : List (List AV)} {tx : List (Nat × AV)} {a ax : Act} {nx : Nat} {Gz : Nat -> Status} {wz : World} (hr : SRel ⟨Gr, gh⟩ w1 ⟨n, few, B⟩ Gr a w1) (hf : ∀ z, (∃ i o, lookT few z = .pb i o) \/ lookT few z = .any)
  (hx : SRel ⟨Gz, gh⟩ wz ⟨nx, tx, Bx⟩ Gx ax wx) (hB : Base L Gr w1 Gx wx) (hL : wx.heap[L]? = w1.heap[L]?) : SRel ⟨Gr, gh⟩ w1 ⟨n, few, Bx⟩ Gx a wx :=
 {
  good := hx.good
  slots := fun z => by
   have h := hr.slots z
   change VRel Gr w1 (lookT few z) _ at h
   change VRel Gx wx (lookT few z) _
   rcases hf z with ⟨i, o, e⟩ | e
   ·rw [e] at h ⊢
    obtain ⟨b, hb, hv⟩ := h.pb_inv
    rw [hv]
    exact .pb i o b (by rw [hB.stat b (hr.good.lt b (by rw [hb]; simp)) (by rw [hb]; simp), hb])
   ·rw [e]; exact .froz (.any _)
  boxes := hx.boxes
  blt := hx.blt
  size := hr.size
  defs := hr.defs
  os := hB.os
  tape := hB.tape
  output := hB.output
  hsize := hB.size
  stat := hB.stat
  keep := fun b hb hi ht => by
   by_cases e : b = L
   ·rw [e]; exact hL
   ·exact hB.keep b hb e hi ht }
def bodyQ (hit : Bool) (n : Nat) (Br Bf : List (List AV)) : Exit -> St -> Prop
 | .normal, τ => hit = false /\ τ.le ⟨n, [], Br⟩
 | .ret, τ => hit = true /\ τ.le ⟨n, [], Bf⟩
 | _, _ => False
@[go_sem] theorem bodyQ_normal {hit : Bool} {n : Nat} {Br Bf : List (List AV)} {σ : St} : bodyQ hit n Br Bf .normal σ = (hit = false /\ σ.le ⟨n, [], Br⟩) := rfl
@[go_sem] theorem bodyQ_ret {hit : Bool} {n : Nat} {Br Bf : List (List AV)} {σ : St} : bodyQ hit n Br Bf .ret σ = (hit = true /\ σ.le ⟨n, [], Bf⟩) := rfl
theorem alloc_old (w : World) (o : Obj) {b : Nat} (h : b < w.heap.size) : (w.alloc o).heap[b]? = w.heap[b]? := by
 show (w.heap.push o)[b]? = _
 rw [Array.getElem?_push_lt h, Array.getElem?_eq_getElem h]
theorem cap_pb {G : Nat -> Status} {w : World} {i : Nat} {v : Value} (h : CapRel G w (.pb i 0) v) : ∃ b, G b = .box i /\ v = .pointer (some ⟨b, 0, none⟩) := by
 rcases h with ⟨i', o, b, e, hb, rfl⟩ | h
 ·cases e; exact ⟨b, hb, rfl⟩
 ·cases h
theorem cell_blk {w : World} {b : Nat} {vals : Array Value} {ty : TypeId} {r : Nat × Nat} (h : w.heap[b]? = some (.cells vals ty r)) {j : Nat} {u : Value} (hj : vals.toList[j]? = some u) : w.cell? ⟨b, j, none⟩ = some u := by
 simp only [World.cell?, h]; simpa using hj
theorem RangeK.up {l : List ND} {p j : Nat} {s next : Int} {v : List Int} {g : Operand} {x y iF iT iS : Nat} {ac bd : Code} {σ : St} {few : List (Nat × AV)} {Br Bf Bz : List (List AV)} {ST1 : Nat -> St} {Q : Exit -> St -> Prop}
    (hlen : l.length <= 256) (hp : p < l.length) (hpar : ∀ i, i < l.length -> -1 <= l[i]!.par /\ l[i]!.par < i) (hsr : smallerF l s v 257 p = (j : Int))
    (hg : σ.ev g = .cl 71 [.pb iF 0, .pb iT 0, .pb iS 0]) (hF : σ.boxes[iF]? = some [vi p]) (hT : σ.boxes[iT]? = some [.sl 0 4 (l.map vND), vi next]) (hS : σ.boxes[iS]? = some [vi s])
    (hfew : ∀ z, lookT few z = σ.get z \/ lookT few z = .any) (hfew2 : ∀ z, (∃ i o, lookT few z = .pb i o /\ i ≠ iF /\ i ≠ iT /\ i ≠ iS) \/ lookT few z = .any) (hxy : x < σ.n /\ y < σ.n)
    (hBr : ((σ.boxes.set iF []).set iT []).set iS [] = Br) (hBz : ((Bf.set iF [.any]).set iT [.any, .any]).set iS [.any] = Bz) (hBf : Bf.length = σ.boxes.length) (hfzB : ∀ cs ∈ σ.boxes, cs.all fzLeaf = true)
    (fa : flatC ac = true) (fb : flatC bd = true) (_hST : ∀ n, (ST1 n).boxes = Br)
    (hA : ∀ n : Nat, n < l.length -> wpA Tryz.prog ac (nextQ (ST1 n)) (St.put (St.put ⟨σ.n, few, Br⟩ (some x) (vi n)) (some y) (vs 0 l[n]!.vec)))
    (hB : ∀ n : Nat, n < l.length -> l[n]!.st = s -> ((leqV l[n]!.vec v && lessO l[n]!.vec v) = true -> n = j) -> wpA Tryz.prog bd (bodyQ (leqV l[n]!.vec v && lessO l[n]!.vec v) σ.n Br Bf) (ST1 n))
    (hfin : Q .ret ⟨σ.n, few, Bz⟩) : RangeK Tryz.prog g #[x, y] ac bd Q σ := by
  intro G0 w0 G a w hs
  obtain ⟨us, hgv, hcaps⟩ : ∃ us : Array Value, a.eval g = .func (.func 71) #[] us /\ PW (CapRel G w) [.pb iF 0, .pb iT 0, .pb iS 0] us.toList := by
    have h := hs.ev g
    rw [hg] at h
    exact h.cl_inv
  obtain ⟨u1, us1, e1, c1, hcaps⟩ := hcaps.cons_inv
  obtain ⟨u2, us2, rfl, c2, hcaps⟩ := hcaps.cons_inv
  obtain ⟨u3, us3, rfl, c3, hcaps⟩ := hcaps.cons_inv
  have := hcaps.nil_inv
  subst this
  obtain ⟨cF, gF, rfl⟩ := cap_pb c1
  obtain ⟨cT, gT, rfl⟩ := cap_pb c2
  obtain ⟨cS, gS, rfl⟩ := cap_pb c3
  have hus : us = #[.pointer (some ⟨cF, 0, none⟩), .pointer (some ⟨cT, 0, none⟩), .pointer (some ⟨cS, 0, none⟩)] := by
    cases us; simp_all
  subst hus
  -- the variables that the iterator holds
  obtain ⟨bF, vF, tyF, kF, hpF, oF, rF⟩ := hs.boxes.real hF gF
  obtain rfl := hs.good.boxes _ _ _ kF gF
  obtain ⟨bT, vT, tyT, kT, hpT, oT, rT⟩ := hs.boxes.real hT gT
  obtain rfl := hs.good.boxes _ _ _ kT gT
  obtain ⟨bS, vS, tyS, kS, hpS, oS, rS⟩ := hs.boxes.real hS gS
  obtain rfl := hs.good.boxes _ _ _ kS gS
  have nF : G0.gh iF = none := by
    rcases hs.boxes.cell iF _ hF with h | h | h
    · exact h.1
    · exact absurd gF (h.1 bF)
    · exact h.1
  have nT : G0.gh iT = none := by
    rcases hs.boxes.cell iT _ hT with h | h | h
    · exact h.1
    · exact absurd gT (h.1 bT)
    · exact h.1
  have nS : G0.gh iS = none := by
    rcases hs.boxes.cell iS _ hS with h | h | h
    · exact h.1
    · exact absurd gS (h.1 bS)
    · exact h.1
  obtain ⟨G71, hG71⟩ : ∃ G71 : Nat -> Status, G71 = fun b => if b = bF \/ b = bT \/ b = bS then .stable else if G b = .stable then .stable else .junk := ⟨_, rfl⟩
  obtain ⟨Gr, hGr⟩ : ∃ Gr : Nat -> Status, Gr = fun b => if b = bF \/ b = bT \/ b = bS then .junk else G b := ⟨_, rfl⟩
  have s71 : ∀ b, Stable G b -> Stable G71 b := fun b hb => by
    unfold Stable at *
    rw [hG71]; simp only [hb, if_true, ite_self]
  have c71 : ∀ b, (b = bF \/ b = bT \/ b = bS) -> Stable G71 b := fun b hb => by
    unfold Stable
    rw [hG71]; simp only [hb, if_true]
  have d71 : ∀ b, G71 b ≠ .junk -> (b = bF \/ b = bT \/ b = bS) \/ G b = .stable := fun b hb => by
    rw [hG71] at hb
    simp only at hb
    split at hb
    · exact .inl (by assumption)
    · split at hb
      · exact .inr (by assumption)
      · exact absurd rfl hb
  have l71 : ∀ b, G71 b ≠ .junk -> b < w.heap.size := fun b hb => by
    rcases d71 b hb with (rfl | rfl | rfl) | h
    · exact hs.good.lt _ (by rw [gF]; simp)
    · exact hs.good.lt _ (by rw [gT]; simp)
    · exact hs.good.lt _ (by rw [gS]; simp)
    · exact hs.good.lt _ (by rw [h]; simp)
  have t71 : ∀ b t, G71 b ≠ .tag t := fun b t hb => by
    rw [hG71] at hb
    simp only at hb
    split at hb
    · cases hb
    · split at hb <;> cases hb
  have fF : FRel (Stable G71) w (.fp [vi p] 0) (.pointer (some ⟨bF, 0, none⟩)) := .fp _ 0 bF vF.toList (c71 _ (.inl rfl)) (by simpa using rF.1) oF (fun j u hj => cell_blk hpF hj) fun j z u hz hu => by
    match j, hz, hu with
    | 0, hz, hu => simp only [List.getElem?_cons_zero, Option.some.injEq] at hz; subst hz; have := (rF.2 0 _ u rfl hu).sc_inv; subst this; exact .sc _
    | j + 1, hz, hu => simp at hz
  have fS : FRel (Stable G71) w (.fp [vi s] 0) (.pointer (some ⟨bS, 0, none⟩)) := .fp _ 0 bS vS.toList (c71 _ (.inr (.inr rfl))) (by simpa using rS.1) oS (fun j u hj => cell_blk hpS hj) fun j z u hz hu => by
    match j, hz, hu with
    | 0, hz, hu => simp only [List.getElem?_cons_zero, Option.some.injEq] at hz; subst hz; have := (rS.2 0 _ u rfl hu).sc_inv; subst this; exact .sc _
    | j + 1, hz, hu => simp at hz
  obtain ⟨q1, qs, eT, hqT, hqn⟩ := rT.cons_inv
  obtain ⟨q2, qs2, rfl, hq2, hq3⟩ := hqn.cons_inv
  have := hq3.nil_inv
  subst this
  obtain ⟨Vs, hVs, hVv, hVn⟩ := nodes_val (by omega) (hqT.fzLeaf rfl) s71
  have fT : FRel (Stable G71) w (.fp [.sl 0 4 (nodesV l Vs), vi next] 0) (.pointer (some ⟨bT, 0, none⟩)) := .fp _ 0 bT vT.toList (c71 _ (.inr (.inl rfl))) (by simpa using rT.1) oT (fun j u hj => cell_blk hpT hj) fun j z u hz hu => by
    rw [eT] at hu
    match j, hz, hu with
    | 0, hz, hu => simp only [List.getElem?_cons_zero, Option.some.injEq] at hz hu; subst hz; subst hu; exact hVn
    | 1, hz, hu => simp only [List.getElem?_cons_zero, List.getElem?_cons_succ, Option.some.injEq] at hz hu; subst hz; subst hu; have := hq2.sc_inv; subst this; exact .sc _
    | j + 2, hz, hu => simp at hz
  refine (wpIn_wide (n := 8)).1 (wpIn_rangeFunc ?_)
  intro fn _
  obtain ⟨rec, hrec⟩ : ∃ rec : LoopState -> Option Code -> Loop, rec = fun st pe => { state := st, pending := pe, fn, tmps := a.tmps, params := #[x, y], assign := ac, body := bd, defers := w.heap.size } := ⟨_, rfl⟩
  obtain ⟨w1, hw1⟩ : ∃ w1, (w.alloc (.deferred (some []))).alloc (.loop (rec .ready none)) = w1 := ⟨_, rfl⟩
  obtain ⟨L, hL⟩ : ∃ L, L = w.heap.size + 1 := ⟨_, rfl⟩
  have hsz1 : w1.heap.size = w.heap.size + 2 := by rw [<- hw1, World.size_alloc, World.size_alloc]
  have hold : ∀ b, b < w.heap.size -> w1.heap[b]? = w.heap[b]? := fun b hb => by rw [<- hw1, alloc_old _ _ (by rw [World.size_alloc]; omega), alloc_old _ _ hb]
  have hL1 : w1.heap[L]? = some (.loop (rec .ready none)) := by
    rw [<- hw1, hL]; have := World.alloc_heap_new (w.alloc (.deferred (some []))) (.loop (rec .ready none)); rwa [World.size_alloc] at this
  have hD1 : w1.heap[w.heap.size]? = some (.deferred (some [])) := by
    rw [<- hw1, alloc_old _ _ (by rw [World.size_alloc]; omega)]; exact World.alloc_heap_new w _
  refine ⟨L, [{ target := .collected w.heap.size, args := #[] }], w1, { target := .fn (.func 71) #[.pointer (some ⟨bF, 0, none⟩), .pointer (some ⟨bT, 0, none⟩), .pointer (some ⟨bS, 0, none⟩)], args := #[.func (.yield L) #[] #[]] }, w1, 71,
    #[.func (.yield L) #[] #[], .pointer (some ⟨bF, 0, none⟩), .pointer (some ⟨bT, 0, none⟩), .pointer (some ⟨bS, 0, none⟩)], w1, ?_, ?_, fun _ _ => trivial, ?_, fun _ => by omega, ?_⟩
  · rw [<- hw1, hrec, hL]; exact run_enterLoop_outer _ _ _ _ _
  · simp only [resolve, hgv]
    simp [go_sem]
  · simp [invoke, go_sem]
  have hLs : L < w1.heap.size := by omega
  have gL : G L = .junk := by
    apply Classical.byContradiction
    intro h
    have := hs.good.lt L h
    omega
  have gD : G w.heap.size = .junk := by
    apply Classical.byContradiction
    intro h
    have := hs.good.lt _ h
    omega
  have rL : Gr L = .junk := by rw [hGr]; simp only [gL, ite_self]
  have rD : Gr w.heap.size = .junk := by rw [hGr]; simp only [gD, ite_self]
  have rG : ∀ b, Gr b ≠ .junk -> Gr b = G b /\ ¬ (b = bF \/ b = bT \/ b = bS) := fun b hb => by
    rw [hGr] at hb ⊢
    simp only at hb ⊢
    split at hb
    · exact absurd rfl hb
    · rename_i hn; exact ⟨if_neg hn, hn⟩
  have rN : ∀ b, ¬ (b = bF \/ b = bT \/ b = bS) -> Gr b = G b := fun b hb => by rw [hGr]; exact if_neg hb
  have rC : ∀ b, (b = bF \/ b = bT \/ b = bS) -> Gr b = .junk := fun b hb => by rw [hGr]; exact if_pos hb
  have capN : ∀ b i, G b = .box i -> i ≠ iF -> i ≠ iT -> i ≠ iS -> ¬ (b = bF \/ b = bT \/ b = bS) := fun b i hb h1 h2 h3 hc => by
    rcases hc with rfl | rfl | rfl
    · rw [gF] at hb; cases hb; exact h1 rfl
    · rw [gT] at hb; cases hb; exact h2 rfl
    · rw [gS] at hb; cases hb; exact h3 rfl
  have rStable : ∀ b, Stable G b -> Stable Gr b := fun b hb => by
    unfold Stable at *
    rw [rN b (fun hc => by rcases hc with rfl | rfl | rfl; · rw [gF] at hb; cases hb
                           · rw [gT] at hb; cases hb
                           · rw [gS] at hb; cases hb)]
    exact hb
  have hBl : Br.length = σ.boxes.length := by rw [<- hBr, List.length_set, List.length_set, List.length_set]
  have ltF : iF < σ.boxes.length := (List.getElem?_eq_some_iff.1 hF).1
  have ltT : iT < σ.boxes.length := (List.getElem?_eq_some_iff.1 hT).1
  have ltS : iS < σ.boxes.length := (List.getElem?_eq_some_iff.1 hS).1
  obtain ⟨gh', hgh⟩ : ∃ gh' : Gh, gh' = fun i => if i = iF \/ i = iT \/ i = iS then some [] else G0.gh i := ⟨_, rfl⟩
  have brN : ∀ i, ¬ (i = iF \/ i = iT \/ i = iS) -> Br[i]? = σ.boxes[i]? := fun i hi => by
    rw [<- hBr, List.getElem?_set_ne (fun e => hi (.inr (.inr e.symm))), List.getElem?_set_ne (fun e => hi (.inr (.inl e.symm))), List.getElem?_set_ne (fun e => hi (.inl e.symm))]
  have brC : ∀ i, (i = iF \/ i = iT \/ i = iS) -> Br[i]? = some [] := fun i hi => by
    have hil : i < Br.length := by rw [hBl]; rcases hi with rfl | rfl | rfl <;> assumption
    rw [List.getElem?_eq_getElem hil]
    congr 1
    simp only [<- hBr, List.getElem_set]
    split
    · rfl
    · split
      · rfl
      · split
        · rfl
        · rename_i h1 h2 h3
          rcases hi with e | e | e
          · exact absurd e.symm h3
          · exact absurd e.symm h2
          · exact absurd e.symm h1
  have hr1 : SRel ⟨Gr, gh'⟩ w1 ⟨σ.n, few, Br⟩ Gr a w1 := by
    refine { good := ⟨fun b hb => ?_, fun b b' t h1 h2 => ?_, fun b b' i h1 h2 => ?_⟩, slots := fun z => ?_, boxes := ⟨fun i vs hv => ?_, fun i cs hi => ?_⟩, blt := fun b i hb => ?_, size := hs.size, defs := hs.defs, os := rfl, tape := rfl, output := rfl, hsize := Nat.le_refl _, stat := fun _ _ _ => rfl, keep := fun _ _ _ _ => rfl }
    · have := hs.good.lt b (by rw [<- (rG b hb).1]; exact hb); omega
    · have e1 := (rG b (by rw [h1]; simp)).1; have e2 := (rG b' (by rw [h2]; simp)).1
      exact hs.good.tags b b' t (by rw [<- e1]; exact h1) (by rw [<- e2]; exact h2)
    · have e1 := (rG b (by rw [h1]; simp)).1; have e2 := (rG b' (by rw [h2]; simp)).1
      exact hs.good.boxes b b' i (by rw [<- e1]; exact h1) (by rw [<- e2]; exact h2)
    · change VRel Gr w1 (lookT few z) _
      rcases hfew2 z with ⟨i, o, e, h1, h2, h3⟩ | e
      · have h := hs.slots z
        rcases hfew z with e2 | e2
        · rw [<- e2, e] at h
          obtain ⟨b, hb, hv⟩ := h.pb_inv
          rw [e, hv]
          exact .pb i o b (by rw [rN b (capN b i hb h1 h2 h3)]; exact hb)
        · rw [e2]; exact .froz (.any _)
      · rw [e]; exact .froz (.any _)
    · rw [hBl]
      rw [hgh] at hv
      simp only at hv
      split at hv
      · rename_i h; rcases h with rfl | rfl | rfl <;> assumption
      · exact hs.boxes.low i vs hv
    · by_cases hc : i = iF \/ i = iT \/ i = iS
      · rw [brC i hc] at hi
        cases hi
        refine .inr (.inl ⟨fun b hb => ?_, [], by rw [hgh]; exact if_pos hc, .nil _⟩)
        have h := rG b (by rw [hb]; simp)
        rw [h.1] at hb
        apply h.2
        rcases hc with rfl | rfl | rfl
        · exact .inl (hs.good.boxes _ _ _ hb gF)
        · exact .inr (.inl (hs.good.boxes _ _ _ hb gT))
        · exact .inr (.inr (hs.good.boxes _ _ _ hb gS))
      · rw [brN i hc] at hi
        have hfz := hfzB cs (List.mem_of_getElem? hi)
        have h := (hs.boxes.cell i cs hi).turn (G' := Gr) (w' := w1) rfl (fun j x y v h1 h2 hr => by
          rw [h1] at h2; cases h2
          have := hr.fzLeaf (List.all_eq_true.1 hfz x (List.mem_of_getElem? h1))
          exact .froz (this.mono rStable fun b hb => hold b (hs.good.lt b (by unfold Stable at hb; rw [hb]; simp)))) (fun b hb => ⟨by rw [rN b (capN b i hb (fun e => hc (.inl e)) (fun e => hc (.inr (.inl e))) (fun e => hc (.inr (.inr e))))]; exact hb, hold b (hs.good.lt b (by rw [hb]; simp))⟩) (fun h0 b hb => h0 b (by rw [<- (rG b (by rw [hb]; simp)).1]; exact hb))
        have e : gh' i = G0.gh i := by rw [hgh]; exact if_neg hc
        show BCell gh' Gr w1 i cs
        unfold BCell at h ⊢
        rw [e]
        exact h
    · show i < Br.length
      rw [hBl]
      exact hs.blt b i (by rw [<- (rG b (by rw [hb]; simp)).1]; exact hb)
  have hf2 : ∀ z, (∃ i o, lookT few z = .pb i o) \/ lookT few z = .any := fun z => by
    rcases hfew2 z with ⟨i, o, e, _⟩ | e
    · exact .inl ⟨i, o, e⟩
    · exact .inr e
  obtain ⟨J, hJd⟩ : ∃ J : (Nat -> Prop) -> World -> Prop, J = fun S W => ∃ G', SRel ⟨Gr, gh'⟩ w1 ⟨σ.n, few, Br⟩ G' a W /\ ∀ b, S b -> b < W.heap.size /\ b ≠ L /\ (∀ i, G' b ≠ .box i) /\ ∀ t, G' b ≠ .tag t := ⟨_, rfl⟩
  obtain ⟨Fin, hFd⟩ : ∃ Fin : World -> Prop, Fin = fun W => ∃ Gx, SRel ⟨Gx, gh'⟩ W ⟨σ.n, few, Bf⟩ Gx a W /\ Base L Gr w1 Gx W /\ W.heap[L]? = some (.loop (rec .done (some .ret))) := ⟨_, rfl⟩
  have hK : Keeps J Fin := by
    rw [hJd, hFd]
    refine ⟨fun S W W' ⟨G', h, hc⟩ e1 e2 e3 e4 hk => ⟨G', h.world e1 e2 e3 e4 (fun b hb => hk b (h.good.lt b hb)) (fun b hb _ => hk b (Nat.lt_of_lt_of_le hb h.hsize)), fun b hb => ?_⟩, fun W W' ⟨Gx, h, hb, hl⟩ e1 e2 e3 e4 hk => ⟨Gx, h.turnW e4 fun b hb => hk b (h.good.lt b hb), hb.trans (Base.ext e1 e2 e3 e4 hk), (hk L (Nat.lt_of_lt_of_le hLs hb.size)).trans hl⟩⟩
    rcases hb with hb | ⟨h1, h2⟩
    · have := hc b hb
      exact ⟨by omega, this.2⟩
    · have hj : G' b = .junk := by
        apply Classical.byContradiction
        intro hn
        have := h.good.lt b hn
        omega
      have := h.hsize
      exact ⟨h2, by omega, fun i => by rw [hj]; simp, fun t => by rw [hj]; simp⟩
  have h71 : SRel ⟨G71, noGh⟩ w1 ⟨35, argT 0 [.sc (.func (.yield L) #[] #[]), .fp [vi p] 0, .fp [.sl 0 4 (nodesV l Vs), vi next] 0, .fp [vi s] 0], []⟩ G71 { tmps := #[.func (.yield L) #[] #[], .pointer (some ⟨bF, 0, none⟩), .pointer (some ⟨bT, 0, none⟩), .pointer (some ⟨bS, 0, none⟩)] ++ Array.replicate (35 - (#[Value.func (.yield L) #[] #[], .pointer (some ⟨bF, 0, none⟩), .pointer (some ⟨bT, 0, none⟩), .pointer (some ⟨bS, 0, none⟩)] : Array Value).size) undef, defers := [] } w1 := by
    have b71 : ∀ b i, G71 b ≠ .box i := fun b i hb => by
      rcases d71 b (by rw [hb]; simp) with h | h
      · have := c71 b h; unfold Stable at this; rw [this] at hb; cases hb
      · have := s71 b h; unfold Stable at this; rw [this] at hb; cases hb
    have up : ∀ {z : AV} {u : Value}, FRel (Stable G71) w z u -> VRel G71 w1 z u := fun h => .froz (h.mono (fun _ h => h) fun b hb => hold b (l71 b (by unfold Stable at hb; rw [hb]; simp)))
    have hv : PW (VRel G71 w1) [.sc (.func (.yield L) #[] #[]), .fp [vi p] 0, .fp [.sl 0 4 (nodesV l Vs), vi next] 0, .fp [vi s] 0] [.func (.yield L) #[] #[], .pointer (some ⟨bF, 0, none⟩), .pointer (some ⟨bT, 0, none⟩), .pointer (some ⟨bS, 0, none⟩)] :=
      .cons (.froz (.sc _)) (.cons (up fF) (.cons (up fT) (.cons (up fS) (.nil _))))
    exact { good := ⟨fun b hb => by have := l71 b hb; omega, fun b b' t hb => absurd hb (t71 b t), fun b b' i hb => absurd hb (b71 b i)⟩, slots := slots_args 35 hv, boxes := ⟨fun i vs hv => by simp [noGh] at hv, fun i cs h => by simp at h⟩, blt := fun b i h => absurd h (b71 b i), size := by simp, defs := rfl, os := rfl, tape := rfl, output := rfl, hsize := Nat.le_refl _, stat := fun _ _ _ => rfl, keep := fun _ _ _ _ => rfl }
  have hJ1 : J (fun b => G71 b ≠ .junk) w1 := by
    rw [hJd]
    refine ⟨Gr, hr1, fun b hb => ⟨by have := l71 b hb; omega, by have := l71 b hb; omega, fun i h => ?_, fun t h => ?_⟩⟩
    · rcases d71 b hb with hc | hc
      · rw [rC b hc] at h; cases h
      · have := rStable b hc; unfold Stable at this; rw [this] at h; cases h
    · rcases d71 b hb with hc | hc
      · rw [rC b hc] at h; cases h
      · have := rStable b hc; unfold Stable at this; rw [this] at h; cases h
  refine CallsIn.mono (F := Fence.wide) (iter71 (N := 6) hK hVs hlen hp hpar hsr rfl h71 t71 (fun b h => h) hJ1 ?_) ?_
  · intro n S W hJW hn hst hhit
    rw [hJd] at hJW
    obtain ⟨G', hJ', hc⟩ := hJW
    have nbL : ∀ i, Gr L ≠ .box i := fun i => by rw [rL]; simp
    have ntL : ∀ t, Gr L ≠ .tag t := fun t => by rw [rL]; simp
    have jL : G' L = .junk := (hJ'.stat L hLs ntL).trans rL
    have hLW : W.heap[L]? = some (.loop (rec .ready none)) := (hJ'.keep L hLs nbL ntL).trans hL1
    have hLWs : L < W.heap.size := Nat.lt_of_lt_of_le hLs hJ'.hsize
    have hVn2 : VRel G' W (vs 0 l[n]!.vec) Vs[n]! := .froz ((hVv n hn).mono (fun b hb => by
      have hr := rStable b hb
      have hlt := hs.good.lt b (by unfold Stable at hb; rw [hb]; simp)
      unfold Stable at hr ⊢
      exact (hJ'.stat b (by omega) (fun t => by show Gr b ≠ _; rw [hr]; simp)).trans hr) fun b hb => by
      have hr := rStable b hb
      have hlt := hs.good.lt b (by unfold Stable at hb; rw [hb]; simp)
      unfold Stable at hr
      exact (hJ'.keep b (by omega) (fun t => by show Gr b ≠ _; rw [hr]; simp) (fun t => by show Gr b ≠ _; rw [hr]; simp)).trans (hold b hlt))
    have hy := run_yield (P := Tryz.prog) (l := L) (r := rec .ready none) (args := #[.int .i64 n, Vs[n]!]) hLW (by rw [hrec]; rfl)
    have hy2 : (Instr.yield L #[.int .i64 n, Vs[n]!]).run Tryz.prog W = .ok (.round L fn ((a.tmps.setIfInBounds x (.int .i64 n)).setIfInBounds y Vs[n]!) ac bd) W := by
      rw [hy, hrec]; simp
    refine ⟨fn, _, ac, bd, hy2, roundIn_of_wpIn (F := fenceR none) trivial ?_⟩
    have hfr := ((hJ'.reroot.add (.refl _ _) hJ'.good (fun _ _ h => h) (d := some x) (x := vi n) (v := .int .i64 n) (by simpa [dstOk] using hxy.1) (.froz (.sc _))).add (.refl _ _) hJ'.good (fun _ _ h => h) (d := some y) (x := vs 0 l[n]!.vec) (v := Vs[n]!) (decide_eq_true hxy.2) hVn2)
    have hact : (a.put (some x) (.int .i64 n)).put (some y) Vs[n]! = ({ tmps := (a.tmps.setIfInBounds x (.int .i64 n)).setIfInBounds y Vs[n]!, defers := [] } : Act) := by
      have := hs.defs
      cases a
      simp only at this
      subst this
      rfl
    rw [hact] at hfr
    refine wpIn_mono (roundA (r := some L) ac (nextQ (ST1 n)) _ G' _ W (fun _ h => h) fa (hA n hn) hfr) ?_
    rintro e a1 W1 ⟨τ, G1, hq, h1⟩
    cases e with
    | normal =>
      have h1 := h1.le hq
      have hb1 := h1.base (L := L)
      have hL1' : W1.heap[L]? = some (.loop (rec .ready none)) := (h1.keep L hLWs (fun i => by show G' L ≠ _; rw [jL]; simp) (fun t => by show G' L ≠ _; rw [jL]; simp)).trans hLW
      have j1 : G1 L = .junk := (h1.stat L hLWs (fun t => by show G' L ≠ _; rw [jL]; simp)).trans jL
      have hL1s : L < W1.heap.size := Nat.lt_of_lt_of_le hLWs h1.hsize
      refine ⟨_, run_beginRound hL1' (by rw [hrec]), ?_⟩
      have h2 := h1.putL j1 (.loop { rec .ready none with state := .busy })
      refine wpIn_mono (roundA (r := some L) bd _ _ G1 a1 _ (fun _ h => h) fb (hB n hn hst hhit) h2) ?_
      rintro e a3 W3 ⟨τ3, G3, hq3, h3⟩
      have hL2 : (W1.putObj L (.loop { rec .ready none with state := .busy })).heap[L]? = some (.loop { rec .ready none with state := .busy }) := World.putObj_heap_same hL1s
      have hL2s : L < (W1.putObj L (.loop { rec .ready none with state := .busy })).heap.size := by rw [World.putObj_size]; exact hL1s
      have hL3 := (h3.keep L hL2s (fun i => by show G1 L ≠ _; rw [j1]; simp) (fun t => by show G1 L ≠ _; rw [j1]; simp)).trans hL2
      have j3 : G3 L = .junk := (h3.stat L hL2s (fun t => by show G1 L ≠ _; rw [j1]; simp)).trans j1
      have hL3s : L < W3.heap.size := Nat.lt_of_lt_of_le hL2s h3.hsize
      have hb3 : Base L G' W G3 W3 := (hb1.trans (Base.putL _)).trans h3.base
      have fin : ∀ (o : Obj), (W3.putObj L o).os = W.os /\ (W3.putObj L o).tape = W.tape /\ (W3.putObj L o).output = W.output /\ W.heap.size <= (W3.putObj L o).heap.size /\ ∀ b, b < W.heap.size -> S b -> (W3.putObj L o).heap[b]? = W.heap[b]? := fun o => by
        have hb4 := hb3.trans (Base.putL (L := L) (G := G3) (w := W3) o)
        exact ⟨hb4.os, hb4.tape, hb4.output, hb4.size, fun b hb hS' => hb4.keep b hb (hc b hS').2.1 (hc b hS').2.2.1 (hc b hS').2.2.2⟩
      have hend : ∀ jump, (Instr.endRound L jump).run Tryz.prog W3 = .ok (.bool jump.isNone) (W3.putObj L (.loop (rec (if jump.isNone then .ready else .done) jump))) := fun jump => by
        have := run_endRound (P := Tryz.prog) jump hL3
        rw [hrec] at this ⊢
        exact this
      cases e with
      | normal =>
        obtain ⟨hno, hle⟩ := hq3
        have hx := ((h3.le hle).putL j3 (.loop (rec .ready none)))
        have hb4 := (hJ'.base (L := L)).trans (hb3.trans (Base.putL (L := L) (G := G3) (w := W3) (.loop (rec .ready none))))
        refine ⟨_, _, hend none, ?_⟩
        obtain ⟨f1, f2, f3, f4, f5⟩ := fin (.loop (rec .ready none))
        refine ⟨f1, f2, f3, f4, f5, .inl ⟨rfl, hno, ?_⟩⟩
        rw [hJd]
        refine ⟨G3, back_to hr1 hf2 hx hb4 ((World.putObj_heap_same hL3s).trans hL1.symm), fun b hb => ?_⟩
        have := hc b hb
        have e := hb3.stat b this.1 this.2.2.2
        exact ⟨Nat.lt_of_lt_of_le this.1 f4, this.2.1, by rw [e]; exact this.2.2.1, by rw [e]; exact this.2.2.2⟩
      | ret =>
        obtain ⟨hyes, hle⟩ := hq3
        have hx := ((h3.le hle).putL j3 (.loop (rec .done (some .ret))))
        have hb4 := (hJ'.base (L := L)).trans (hb3.trans (Base.putL (L := L) (G := G3) (w := W3) (.loop (rec .done (some .ret)))))
        refine ⟨_, _, hend (some .ret), ?_⟩
        obtain ⟨f1, f2, f3, f4, f5⟩ := fin (.loop (rec .done (some .ret)))
        refine ⟨f1, f2, f3, f4, f5, .inr ⟨rfl, ?_⟩⟩
        rw [hFd]
        refine ⟨G3, ?_, hb4, World.putObj_heap_same hL3s⟩
        exact { good := hx.good
                slots := fun z => by
                  have h := hr1.slots z
                  change VRel Gr w1 (lookT few z) _ at h
                  change VRel G3 _ (lookT few z) _
                  rcases hf2 z with ⟨i, o, e⟩ | e
                  · rw [e] at h ⊢
                    obtain ⟨b, hb, hv⟩ := h.pb_inv
                    rw [hv]
                    exact .pb i o b (by rw [hb4.stat b (hr1.good.lt b (by rw [hb]; simp)) (by rw [hb]; simp), hb])
                  · rw [e]; exact .froz (.any _)
                boxes := hx.boxes, blt := hx.blt, size := hr1.size, defs := hr1.defs, os := rfl, tape := rfl, output := rfl, hsize := Nat.le_refl _, stat := fun _ _ _ => rfl, keep := fun _ _ _ _ => rfl }
      | _ => exact hq3.elim
    | _ => exact hq.elim
  · rintro e W ⟨⟨v1, rfl⟩, hFin⟩
    rw [hFd] at hFin
    obtain ⟨Gx, hx, hb, hl⟩ := hFin
    have hls : L < W.heap.size := Nat.lt_of_lt_of_le hLs hb.size
    have he := run_endLoop (P := Tryz.prog) hl (by rw [hrec]; simp)
    refine ⟨some .ret, W.putObj L (.loop (rec .exhausted (some .ret))), by rw [hrec] at he ⊢; exact he, ?_⟩
    have gxL : Gx L = .junk := (hb.stat L hLs (fun t => by rw [rL]; simp)).trans rL
    have gxD : Gx w.heap.size = .junk := (hb.stat w.heap.size (by omega) (fun t => by rw [rD]; simp)).trans rD
    have hD : (W.putObj L (.loop (rec .exhausted (some .ret)))).heap[w.heap.size]? = some (.deferred (some [])) := by
      rw [World.putObj_heap_other (by omega), hb.keep w.heap.size (by omega) (by omega) (fun i => by rw [rD]; simp) (fun t => by rw [rD]; simp)]
      exact hD1
    refine wpIn_ret ⟨rfl, _, hfin, w.heap.size, _, fun b => if b = bF \/ b = bT \/ b = bS then G b else Gx b, by rw [hs.defs]; rfl, run_takeDeferred hD, ?_⟩
    obtain ⟨w5, hw5⟩ : ∃ w5, (W.putObj L (.loop (rec .exhausted (some .ret)))).putObj w.heap.size (.deferred none) = w5 := ⟨_, rfl⟩
    rw [hw5]
    have k5 : ∀ b, b ≠ L -> b ≠ w.heap.size -> w5.heap[b]? = W.heap[b]? := fun b h1 h2 => by rw [<- hw5, World.putObj_heap_other h2, World.putObj_heap_other h1]
    have z5 : w5.heap.size = W.heap.size := by rw [<- hw5, World.putObj_size, World.putObj_size]
    have capx : ∀ b, (b = bF \/ b = bT \/ b = bS) -> Gx b = .junk /\ b < w.heap.size := fun b hc => by
      have hlt : b < w.heap.size := by
        rcases hc with rfl | rfl | rfl
        · exact hs.good.lt _ (by rw [gF]; simp)
        · exact hs.good.lt _ (by rw [gT]; simp)
        · exact hs.good.lt _ (by rw [gS]; simp)
      exact ⟨(hb.stat b (by omega) (fun t => by rw [rC b hc]; simp)).trans (rC b hc), hlt⟩
    have nx : ∀ b, Gx b ≠ .junk -> ¬ (b = bF \/ b = bT \/ b = bS) /\ b ≠ L /\ b ≠ w.heap.size := fun b hn => ⟨fun hc => hn (capx b hc).1, fun e => hn (by rw [e]; exact gxL), fun e => hn (by rw [e]; exact gxD)⟩
    have nbx : ∀ b i, (i = iF \/ i = iT \/ i = iS) -> Gx b ≠ .box i := fun b i hi hbx => by
      have hil : i < Bf.length := hx.blt b i hbx
      have e : gh' i = some [] := by rw [hgh]; exact if_pos hi
      rcases hx.boxes.cell i _ (List.getElem?_eq_getElem hil) with h | h | h
      · have := h.1; change gh' i = none at this; rw [e] at this; cases this
      · exact h.1 b hbx
      · exact h.2.1 b hbx
    have up : ∀ z u, VRel Gx W z u -> VRel (fun b => if b = bF \/ b = bT \/ b = bS then G b else Gx b) w5 z u := fun z u h => h.mono (fun b hn => if_neg (nx b hn).1) fun b hn _ => k5 b (nx b hn).2.1 (nx b hn).2.2
    have bzN : ∀ i, ¬ (i = iF \/ i = iT \/ i = iS) -> Bz[i]? = Bf[i]? := fun i hi => by
      rw [<- hBz, List.getElem?_set_ne (fun e => hi (.inr (.inr e.symm))), List.getElem?_set_ne (fun e => hi (.inr (.inl e.symm))), List.getElem?_set_ne (fun e => hi (.inl e.symm))]
    have capk : ∀ b, (b = bF \/ b = bT \/ b = bS) -> w5.heap[b]? = w.heap[b]? := fun b hc => by
      have h := capx b hc
      rw [k5 b (by omega) (by omega), hb.keep b (by omega) (by omega) (fun i => by rw [rC b hc]; simp) (fun t => by rw [rC b hc]; simp), hold b h.2]
    refine { good := ⟨fun b hn => ?_, fun b b' t h1 h2 => ?_, fun b b' i h1 h2 => ?_⟩, slots := fun z => up _ _ (hx.slots z), boxes := ⟨fun i vs hv => ?_, fun i cs hi => ?_⟩, blt := fun b i hbx => ?_, size := hs.size, defs := rfl, os := ?_, tape := ?_, output := ?_, hsize := ?_, stat := fun b hlt ht => ?_, keep := fun b hlt hi ht => ?_ }
    · rw [z5]
      have := hb.size
      by_cases hc : b = bF \/ b = bT \/ b = bS
      · have := capx b hc; omega
      · simp only [if_neg hc] at hn
        exact hx.good.lt b hn
    · by_cases c1 : b = bF \/ b = bT \/ b = bS
      · simp only [if_pos c1] at h1
        rcases c1 with rfl | rfl | rfl
        · rw [gF] at h1; cases h1
        · rw [gT] at h1; cases h1
        · rw [gS] at h1; cases h1
      · by_cases c2 : b' = bF \/ b' = bT \/ b' = bS
        · simp only [if_pos c2] at h2
          rcases c2 with rfl | rfl | rfl
          · rw [gF] at h2; cases h2
          · rw [gT] at h2; cases h2
          · rw [gS] at h2; cases h2
        · simp only [if_neg c1] at h1
          simp only [if_neg c2] at h2
          exact hx.good.tags b b' t h1 h2
    · have capi : ∀ b, (b = bF \/ b = bT \/ b = bS) -> G b = .box i -> i = iF \/ i = iT \/ i = iS := fun b hc h => by
        rcases hc with rfl | rfl | rfl
        · rw [gF] at h; cases h; exact .inl rfl
        · rw [gT] at h; cases h; exact .inr (.inl rfl)
        · rw [gS] at h; cases h; exact .inr (.inr rfl)
      by_cases c1 : b = bF \/ b = bT \/ b = bS
      · simp only [if_pos c1] at h1
        by_cases c2 : b' = bF \/ b' = bT \/ b' = bS
        · simp only [if_pos c2] at h2
          exact hs.good.boxes b b' i h1 h2
        · simp only [if_neg c2] at h2
          exact absurd h2 (nbx b' i (capi b c1 h1))
      · simp only [if_neg c1] at h1
        by_cases c2 : b' = bF \/ b' = bT \/ b' = bS
        · simp only [if_pos c2] at h2
          exact absurd h1 (nbx b i (capi b' c2 h2))
        · simp only [if_neg c2] at h2
          exact hx.good.boxes b b' i h1 h2
    · have := hs.boxes.low i vs hv
      rw [<- hBz, List.length_set, List.length_set, List.length_set, hBf]
      exact this
    · have any1 : ∀ (k : Nat) (vals : List Value), vals.length = k -> PW (VRel (fun b => if b = bF \/ b = bT \/ b = bS then G b else Gx b) w5) (List.replicate k .any) vals := fun k vals hk => ⟨by simp [hk], fun j x u h1 _ => by
        rw [List.getElem?_replicate] at h1
        split at h1 <;> cases h1
        exact .froz (.any _)⟩
      have l1 : vF.toList.length = 1 := by rw [<- rF.1]; rfl
      have l2 : vT.toList.length = 2 := by rw [<- rT.1]; rfl
      have l3 : vS.toList.length = 1 := by rw [<- rS.1]; rfl
      by_cases cS : i = iS
      · rw [cS, <- hBz, List.getElem?_set_self (by rw [List.length_set, List.length_set, hBf]; exact ltS)] at hi
        cases hi
        rw [cS]
        exact .inl ⟨nS, bS, vS, tyS, by simp only [or_true, if_true]; exact gS, by rw [capk bS (.inr (.inr rfl))]; exact hpS, oS, any1 1 _ l3⟩
      · by_cases cT : i = iT
        · rw [cT, <- hBz, List.getElem?_set_ne (by rw [<- cT]; exact fun e => cS e.symm), List.getElem?_set_self (by rw [List.length_set, hBf]; exact ltT)] at hi
          cases hi
          rw [cT]
          exact .inl ⟨nT, bT, vT, tyT, by simp only [true_or, or_true, if_true]; exact gT, by rw [capk bT (.inr (.inl rfl))]; exact hpT, oT, any1 2 _ l2⟩
        · by_cases cF : i = iF
          · rw [cF, <- hBz, List.getElem?_set_ne (by rw [<- cF]; exact fun e => cS e.symm), List.getElem?_set_ne (by rw [<- cF]; exact fun e => cT e.symm), List.getElem?_set_self (by rw [hBf]; exact ltF)] at hi
            cases hi
            rw [cF]
            exact .inl ⟨nF, bF, vF, tyF, by simp only [true_or, if_true]; exact gF, by rw [capk bF (.inl rfl)]; exact hpF, oF, any1 1 _ l1⟩
          · have hc : ¬ (i = iF \/ i = iT \/ i = iS) := fun h => by rcases h with h | h | h; exact cF h; exact cT h; exact cS h
            rw [bzN i hc] at hi
            have h := (hx.boxes.cell i cs hi).same (G' := fun b => if b = bF \/ b = bT \/ b = bS then G b else Gx b) (w' := w5) up (fun b hb2 => ⟨by rw [if_neg (nx b (by rw [hb2]; simp)).1]; exact hb2, k5 b (nx b (by rw [hb2]; simp)).2.1 (nx b (by rw [hb2]; simp)).2.2⟩) (fun h0 b hb2 => by
              by_cases c1 : b = bF \/ b = bT \/ b = bS
              · simp only [if_pos c1] at hb2
                apply hc
                rcases c1 with rfl | rfl | rfl
                · rw [gF] at hb2; cases hb2; exact .inl rfl
                · rw [gT] at hb2; cases hb2; exact .inr (.inl rfl)
                · rw [gS] at hb2; cases hb2; exact .inr (.inr rfl)
              · simp only [if_neg c1] at hb2
                exact h0 b hb2)
            have e : gh' i = G0.gh i := by rw [hgh]; exact if_neg hc
            change BCell gh' _ w5 i cs at h
            unfold BCell at h ⊢
            rw [e] at h
            exact h
    · show i < Bz.length
      have e : Bz.length = Bf.length := by rw [<- hBz, List.length_set, List.length_set, List.length_set]
      rw [e]
      by_cases c1 : b = bF \/ b = bT \/ b = bS
      · simp only [if_pos c1] at hbx
        rw [hBf]
        exact hs.blt b i hbx
      · simp only [if_neg c1] at hbx
        exact hx.blt b i hbx
    · rw [<- hw5]; exact hb.os.trans ((by rw [<- hw1]; rfl : w1.os = w.os).trans hs.os)
    · rw [<- hw5]; exact hb.tape.trans ((by rw [<- hw1]; rfl : w1.tape = w.tape).trans hs.tape)
    · rw [<- hw5]; exact hb.output.trans ((by rw [<- hw1]; rfl : w1.output = w.output).trans hs.output)
    · rw [z5]
      have := hs.hsize
      have := hb.size
      omega
    · have e := hs.stat b hlt ht
      by_cases c1 : b = bF \/ b = bT \/ b = bS
      · simp only [if_pos c1]; exact e
      · simp only [if_neg c1]
        have := hs.hsize
        have e2 := rN b c1
        rw [hb.stat b (by omega) (fun t => by rw [e2, e]; exact ht t), e2, e]
    · have e := hs.stat b hlt ht
      have hz := hs.hsize
      have c1 : ¬ (b = bF \/ b = bT \/ b = bS) := fun hc => by
        rcases hc with rfl | rfl | rfl
        · rw [gF] at e; exact hi iF e.symm
        · rw [gT] at e; exact hi iT e.symm
        · rw [gS] at e; exact hi iS e.symm
      have e2 := rN b c1
      rw [k5 b (by omega) (by omega), hb.keep b (by omega) (by omega) (fun i => by rw [e2, e]; exact hi i) (fun t => by rw [e2, e]; exact ht t), hold b (by omega)]
      exact hs.keep b hlt hi ht
set_option maxRecDepth 100000
theorem con_tree (m : MD) (v0 : List Int) (sd : List Int) (at_ : Nat) (h : PlainM m 0 v0) : Con Tryz.prog 10 [.pb 0 0, vM m, vi 60] [diceA sd at_]
  fun x b => ∃ l next ok, (ok = true -> Tree m.rules m.states.length m.places.length 0 v0 l next /\ next <= 60 /\ MadeN m.rules 0 v0 l next) /\ x = .tup [.ag [.sl 0 4 (l.map vND), vi (next : Nat)], vb ok] /\ b = [diceA sd at_] := by
 refine Con.intro Tryz.func10 rfl Tryz.ntmps10 Tryz.results10 (by kernel_rfl) (by simp) 1 (by simp) ?_
 have hst : Con Tryz.prog 26 [vM m] [] fun x _ => x = .tup [.ag [.sl 0 4 ([rootN v0].map vND), vi (0 : Nat)], vi 0] :=
  (Con.freezeR (fun _ => true) (con_rstart m v0 h)).weak fun r b ⟨r0, h0, h1⟩ => by
   subst h0; subst h1
   exact ⟨_, rfl, leV_refl _⟩
 have hrun := con_rrun m v0 [rootN v0] 0 60 h (tree_root h) ⟨.root rfl rfl rfl, fun i hi => by
  have : i = 0 := by simpa using hi
  subst this
  show (-1 : Int) < 0
  omega⟩ (by omega)
 simp only [go_sem, vM, cM, vss]
 refine CallU.free hst (by simp only [go_sem]) (by simp only [go_sem, vM, cM, vss]) ?_
 rintro r bx rfl
 simp only [go_sem]
 refine CallU.free hrun (by simp only [go_sem]) (by simp only [go_sem, vM, cM, vss]) ?_
 rintro r bx ⟨l, next, k, e, he, rfl⟩
 by_cases he0 : e = 0
 ·have he' : (e == 0) = true := beq_iff_eq.2 he0
  simp only [go_sem, he']
  exact ⟨l, next, true, fun _ => ⟨(he he0).1, by have := (he he0).2.1; omega, (he he0).2.2⟩, rfl⟩
 ·have he' : (e == 0) = false := beq_eq_false_iff_ne.2 he0
  simp only [go_sem, he']
  exact ⟨l, next, false, fun hh => (by cases hh), rfl⟩
theorem smaller_hits {l : List ND} {s : Int} {v : List Int} {j : Nat} (hpar : ∀ i, i < l.length -> l[i]!.par < i) (hst : l[j]!.st = s) (h1 : leqV l[j]!.vec v = true) (h2 : lessO l[j]!.vec v = true) : ∀ (k n : Nat) (ks : List Nat), n < k -> n < l.length -> Anc l j n ks -> ∃ j' : Nat, smallerF l s v k n = j'
 | 0, n, ks, h, _, _ => by omega
 | k + 1, n, ks, h, hl, ha => by
  rw [smallerF, if_pos ⟨by omega, by omega⟩, show ((n : Int)).toNat = n from rfl]
  by_cases hq : (l[n]!.st == s && (leqV l[n]!.vec v && lessO l[n]!.vec v)) = true
  ·exact ⟨n, by rw [if_pos hq]⟩
  ·rw [if_neg hq]
   cases ha with
   | here => rw [hst, h1, h2] at hq; simp at hq
   | @step p _ ks' ha hi hp =>
    have := hpar n hl
    rw [hp]
    exact smaller_hits hpar hst h1 h2 k p ks' (by omega) (by omega) ha
theorem any_om {v : List Int} : (v.any fun x => (1099511627776 : Int) == x) = true ↔ ¬ noOm v := by
 unfold noOm
 rw [List.any_eq_true]
 constructor
 ·rintro ⟨x, hx, e⟩ h
  exact h x hx (beq_iff_eq.1 e).symm
 ·intro h
  apply Classical.byContradiction
  intro hn
  exact h fun x hx e => hn ⟨x, hx, by rw [e]; rfl⟩
theorem any_omF {v : List Int} (h : noOm v) : (v.any fun x => (1099511627776 : Int) == x) = false := by
 rw [<- Bool.not_eq_true, any_om]; exact fun hn => hn h
theorem find_first {m : MD} {v0 : List Int} {l : List ND} {next : Nat} (h : PlainM m 0 v0) (hT : Tree m.rules m.states.length m.places.length 0 v0 l next) (hM : MadeN m.rules 0 v0 l next) (hn : next <= 60) {i p k : Nat} (hb : MadeBy m.rules l i p k) (hi : i < l.length) (ho : ¬ noOm l[i]!.vec) (hp : noOm l[p]!.vec) :
  ∃ j : Nat, smallerF l l[i]!.st (fireO m.rules[k]! l[p]!.vec) 257 p = j /\ j < l.length /\ (pathT l j).length <= (pathT l i).length /\ PumpOk m.rules v0 m.places.length (pathT l j) ((pathT l i).drop (pathT l j).length) := by
 have h2 := h.good.places
 have hok : ∀ i, i < l.length -> okV m.places.length l[i]!.vec := fun i hi => (hT.node i hi).vec
 have hpar : ∀ i, i < l.length -> l[i]!.par < i := fun i hi => (hT.node i hi).par.2
 have hpl : p < l.length := by have := hb.lt; omega
 have hlen := hT.len
 have hg : ∀ r ∈ m.rules, ∀ x, x < m.places.length -> r.give[x]! <= 16 /\ 0 <= r.need[x]! := fun r hr x hx => ⟨((plain_slim h r hr).low x hx).2.2.2, ((plain_slim h r hr).low x hx).1⟩
 obtain ⟨hf, j, ks, ha, hj, hs, hle, x, hx, hlt⟩ := first_grew hok hg hb hi ho hp
 have hv := hb.ok _ (hok p hpl)
 have hjo := hok j hj
 have e1 : leqV l[j]!.vec (fireO m.rules[k]! l[p]!.vec) = true := (leq_iff hjo hv (by omega)).2 fun x hx => hle x (by rw [hjo.1]; exact hx)
 have e2 : lessO l[j]!.vec (fireO m.rules[k]! l[p]!.vec) = true := less_hit hx hlt (hf.at (by rw [hv.1, <- hjo.1]; exact hx))
 obtain ⟨j', hj'⟩ := smaller_hits hpar hs e1 e2 257 p ks (by omega) hpl ha
 obtain ⟨_, ks', ha', hjl, hs', hle', hls'⟩ := smaller_anc 257 p j' hj'
 rw [Int.toNat_natCast] at ha'
 refine ⟨j', hj', hjl, ?_, find_pump hM hn hok hpar hb hi hp hf ha' hjl hs' (leqV_at hle').2 ?_⟩
 ·rw [path_step hM.made hb hi, path_anc hM.made ha']
  simp only [List.length_append, List.length_map, List.length_cons, List.length_nil]
  omega
 ·obtain ⟨x, hx, h1, _⟩ := lessO_at hls'
  exact ⟨x, hx, h1⟩
def firstOm (l : List ND) (i : Nat) : Prop := 0 <= l[i]!.par /\ ¬ noOm l[i]!.vec /\ noOm l[l[i]!.par.toNat]!.vec
theorem none_first {m : MD} {v0 : List Int} {l : List ND} {next : Nat} (h : PlainM m 0 v0) (hM : MadeN m.rules 0 v0 l next) (hno : ∀ i, i < l.length -> ¬ firstOm l i) : ∀ i, i < l.length -> noOm l[i]!.vec := fun i hi => by
 apply Classical.byContradiction
 intro hn
 have h0 : noOm v0 := fun x hx e => by
  have := h.conf.low x hx
  rw [e] at this
  have h8 : Om = 1099511627776 := rfl
  omega
 obtain ⟨i', p, k, hi', hb, h1, h2⟩ := om_first hM.made h0 (i + 1) i (by omega) hi hn
 exact hno i' hi' ⟨by have := hb.par; omega, h1, by rw [hb.par, Int.toNat_natCast]; exact h2⟩
theorem con_bfind (m : MD) (v0 : List Int) (l : List ND) (next : Nat) (h : PlainM m 0 v0) (hT : Tree m.rules m.states.length m.places.length 0 v0 l next) (hM : MadeN m.rules 0 v0 l next) (hn60 : next <= 60) : Con Tryz.prog 19 [vM m, .ag [.sl 0 4 (l.map vND), vi next]] []
  fun x _ => (x = .tup [.ag [.nil, .nil], vb false] /\ ∀ i, i < l.length -> noOm l[i]!.vec) \/ ∃ b a, x = .tup [.ag [vs 0 b, vs 0 a], vb true] /\ PumpOk m.rules v0 m.places.length b a /\ ¬ ∀ i, i < l.length -> noOm l[i]!.vec := by
 refine Con.intro Tryz.func19 rfl Tryz.ntmps19 Tryz.results19 (by kernel_rfl) (by simp) 0 (by simp) ?_
 have hok := hT.nodes
 have hlen := hT.len
 have h2 := h.good.places
 simp only [go_sem, vM, cM, vss, List.length_map]
 refine LoopK.intro (fun q : Nat × List Nat => ⟨81, [(2, .pb 0 0), (3, .pb 1 0), (4, .pb 2 0), (5, .pb 3 0), (14, .sl 0 4 (l.map vND)), (15, vi l.length), (16, vi q.1)], [cM m, [.sl 0 4 (l.map vND), vi next], [.nil, .nil], [vb false]] ++ Jk q.2⟩)
  (fun q => l.length - q.1) (fun q => q.1 <= l.length /\ ∀ i, i < q.1 -> ¬ firstOm l i) (0, []) ⟨by show 0 <= _; omega, fun i hi => by simp only at hi; omega⟩ ?_ ?_
 ·simp only [go_sem, cM, vss, Jk, List.map_nil, List.append_nil]
 rintro ⟨i, ks⟩ ⟨hi, hno⟩
 simp only at hi hno
 by_cases hlt : i < l.length
 case neg =>
  obtain rfl : i = l.length := by omega
  simp only [go_sem, cM, vss, List.cons_append, List.nil_append, hlt]
  exact .inl (none_first h hM hno)
 have hg := getND hlt
 have hx := hok.node i hlt
 have hxs := hx.st
 have hxv := hx.vec
 have hxp := hx.par
 have hxr := hx.rule
 have hnext : ¬ firstOm l i -> ∀ i', i' < i + 1 -> ¬ firstOm l i' := fun hq i' hi' => by
  by_cases e : i' = i
  ·rw [e]; exact hq
  ·exact hno i' (by omega)
 have hB := Jk_len ks
 have n0 := fun L : List (List AV) => app_at0 (L := L) hB
 have n1 := fun (L : List (List AV)) (i : Nat) => app_at (L := L) (i := i) hB
 have s0 := fun (L : List (List AV)) z => app_set0 (L := L) (z := z) hB
 have sN := fun (L : List (List AV)) (i : Nat) z => app_setN (L := L) (i := i) (z := z) hB
 have hw : IntKind.i64.wrap (i + 1) = i + 1 := wrap_in (by omega) (by omega)
 have hfin : ∀ σ : St, ¬ firstOm l i -> σ.le ⟨81, [(2, .pb 0 0), (3, .pb 1 0), (4, .pb 2 0), (5, .pb 3 0), (14, .sl 0 4 (l.map vND)), (15, vi l.length), (16, vi (i + 1 : Nat))], [cM m, [.sl 0 4 (l.map vND), vi next], [.nil, .nil], [vb false]] ++ Jk (ks ++ [1, 4])⟩ -> roundK (fun q : Nat × List Nat => ⟨81, [(2, .pb 0 0), (3, .pb 1 0), (4, .pb 2 0), (5, .pb 3 0), (14, .sl 0 4 (l.map vND)), (15, vi l.length), (16, vi q.1)], [cM m, [.sl 0 4 (l.map vND), vi next], [.nil, .nil], [vb false]] ++ Jk q.2⟩)
   (fun q => l.length - q.1) (fun q => q.1 <= l.length /\ ∀ i, i < q.1 -> ¬ firstOm l i) (i, ks) σ := fun σ hq hle =>
  roundK.intro (i + 1, ks ++ [1, 4]) ⟨by show i + 1 <= _; omega, hnext hq⟩ (by show l.length - (i + 1) < l.length - i; omega) hle
 obtain ⟨z, ez⟩ : ∃ z, z = l[i]! := ⟨_, rfl⟩
 rw [<- ez] at hg hxs hxv hxp hxr
 have hvl := hxv.1
 change _ = some (AV.ag [vi z.st, vs 0 z.vec, vi z.par, vi z.rule]) at hg
 by_cases hp0 : z.par < 0
 case pos =>
  simp only [go_sem, cM, vss, List.cons_append, List.nil_append, hlt, hg, hB, n0, n1, s0, sN, hp0, hw, List.length_map, List.append_assoc, List.length_append, List.length_cons, List.length_nil]
  refine hfin _ (fun hf => by have := hf.1; rw [<- ez] at this; omega) ?_
  simp only [go_sem, cM, vss, List.cons_append, List.nil_append]
  exact leB_JkA ⟨⟨leV_any _, trivial⟩, ⟨leV_any _, leV_any _, leV_any _, leV_any _, trivial⟩, trivial⟩
 obtain ⟨q, hq⟩ : ∃ q : Nat, z.par = q := ⟨z.par.toNat, by omega⟩
 have hql : q < l.length := by omega
 have hgq := getND hql
 have hxq := hok.node q hql
 have hvq := hxq.vec
 have hvql := hvq.1
 rw [hq] at hp0 hg hxp
 have hpz : l[i]!.par = q := by rw [<- ez]; exact hq
 have hfo : firstOm l i ↔ ¬ noOm z.vec /\ noOm l[q]!.vec := by
  unfold firstOm
  rw [<- ez, hq, Int.toNat_natCast]
  exact ⟨fun h => h.2, fun h => ⟨by omega, h⟩⟩
 have hcz := con_containsI z.vec 1099511627776 (by omega)
 have hcq := con_containsI l[q]!.vec 1099511627776 (by omega)
 by_cases hoz : noOm z.vec
 case pos =>
  rw [any_omF hoz] at hcz
  simp only [go_sem, cM, vss, List.cons_append, List.nil_append, hlt, hg, hB, n0, n1, s0, sN, hp0, List.length_map, List.append_assoc, List.length_append, List.length_cons, List.length_nil]
  refine CallU.free hcz (by simp only [go_sem]) (by simp only [go_sem]) ?_
  rintro r bx rfl
  simp only [go_sem, hw]
  refine hfin _ (fun hf => (hfo.1 hf).1 hoz) ?_
  simp only [go_sem, cM, vss, List.cons_append, List.nil_append]
  exact leB_JkA ⟨⟨leV_any _, trivial⟩, ⟨leV_any _, leV_any _, leV_any _, leV_any _, trivial⟩, trivial⟩
 rw [any_om.2 hoz] at hcz
 by_cases hoq : noOm l[q]!.vec
 case neg =>
  rw [any_om.2 hoq] at hcq
  simp only [go_sem, cM, vss, List.cons_append, List.nil_append, hlt, hg, hB, n0, n1, s0, sN, hp0, List.length_map, List.append_assoc, List.length_append, List.length_cons, List.length_nil]
  refine CallU.free hcz (by simp only [go_sem]) (by simp only [go_sem]) ?_
  rintro r bx rfl
  simp only [go_sem, n1, hql, hgq, List.length_map]
  refine CallU.free hcq (by simp only [go_sem]) (by simp only [go_sem]) ?_
  rintro r bx rfl
  simp only [go_sem, hw]
  refine hfin _ (fun hf => hoq (hfo.1 hf).2) ?_
  simp only [go_sem, cM, vss, List.cons_append, List.nil_append]
  exact leB_JkA ⟨⟨leV_any _, trivial⟩, ⟨leV_any _, leV_any _, leV_any _, leV_any _, trivial⟩, trivial⟩
 rw [any_omF hoq] at hcq
 obtain ⟨k, hb⟩ : ∃ k, MadeBy m.rules l i q k := by
  rcases hM.made i hlt with ⟨h1, _⟩ | ⟨p, k, hb⟩
  ·omega
  ·have := hb.par
   obtain rfl : p = q := by omega
   exact ⟨k, hb⟩
 obtain ⟨j, hj, hjl, hpl, hpump⟩ := find_first h hT hM hn60 hb hlt (by rw [<- ez]; exact hoz) hoq
 have hk := hb.there
 have hgr := getRule hk
 have hzr : z.rule = k := by rw [ez]; exact hb.rule
 rw [hzr] at hg
 have hsl := plain_slim h _ (mem_bangI hk)
 have hA := con_afterF m.rules[k]! l[q]!.vec m.places.length hsl hvq (by omega) h2.1
 have hfl := fireO_len m.rules[k]! l[q]!.vec
 have hstz : l[i]!.st = z.st := by rw [ez]
 rw [hstz] at hj
 simp only [go_sem, cM, vss, List.cons_append, List.nil_append, hlt, hg, hB, n0, n1, s0, sN, hp0, List.length_map, List.append_assoc, List.length_append, List.length_cons, List.length_nil]
 refine CallU.free hcz (by simp only [go_sem]) (by simp only [go_sem]) ?_
 rintro r bx rfl
 simp only [go_sem, n1, hql, hgq, List.length_map]
 refine CallU.free hcq (by simp only [go_sem]) (by simp only [go_sem]) ?_
 rintro r bx rfl
 simp only [go_sem]
 refine DrawK.meet ⟨81, [(2, .pb 0 0), (3, .pb 1 0), (4, .pb 2 0), (5, .pb 3 0), (6, .pb (ks.length + 1 + 1 + 1 + 1) 0), (7, .pb (ks.length + 1 + 1 + 1 + 1 + 1) 0), (8, .pb (ks.length + 1 + 1 + 1 + 1 + 1 + 1) 0)], cM m :: [.sl 0 4 (l.map vND), vi next] :: [.nil, .nil] :: [vb false] :: (Jk ks ++ [[vi i], [vi z.st, vs 0 z.vec, vi q, vi k], [vs 0 (fireO m.rules[k]! l[q]!.vec)]])⟩ ?_ ?_
 ·refine DrawK.news0 [(17, ks.length + 1 + 1 + 1 + 1 + 1 + 1)] [1] [] 3 [] [16] 18 (.one 18 (.one 19 .done)) none [vb false] mixed (by kernel_rfl) (by kernel_rfl) (by kernel_rfl) (by simp only [go_sem, List.cons_append]) (by simp only [go_sem, List.length_append, List.length_cons, List.length_nil, hB]; omega) ⟨by simp only [go_sem], by simp only [go_sem]⟩ ⟨by simp only [go_sem], by simp only [go_sem, noPbB_app, show ∀ N, noPbB N (Jk ks) = true from fun N => noPbB_any ks, List.length_append, hB, List.length_cons, List.length_nil]; simp⟩ ?_
  have hrep : List.replicate 1 AV.any = [.any] := rfl
  simp only [go_sem, cM, vss, hrep, List.append_assoc, List.cons_append, List.nil_append, n1, hql, hgq, hk, hgr, List.length_map]
  refine CallY.mk hA (by simp only [go_sem]) (by simp only [go_sem]) (.inl (by simp only [go_sem])) ?_
  have d1 : ¬ ks.length = ks.length + 1 := by omega
  have d2 : ¬ ks.length = ks.length + 2 := by omega
  simp only [go_sem, hrep, n1, sN, d1, d2, not_false_eq_true, decide_true, Bool.and_self]
 simp only [go_sem, cM, vss, n1]
 refine CallU.sem (by simp only [go_sem]) (CallS.inline Tryz.func47 rfl Tryz.ntmps47 Tryz.results47 (by kernel_rfl) (by simp) (by simp) (by simp only [go_sem]) (by simp only [go_sem]) ?_)
 simp only [go_sem, hB, List.length_append, List.length_cons, List.length_nil, List.append_assoc, List.cons_append, List.nil_append]
 have hpar : ∀ i, i < l.length -> -1 <= l[i]!.par /\ l[i]!.par < i := fun i hi => (hT.node i hi).par
 refine RangeK.up (l := l) (p := q) (j := j) (s := z.st) (next := next) (v := fireO m.rules[k]! l[q]!.vec) (few := [(3, .pb 1 0), (4, .pb 2 0), (5, .pb 3 0), (6, .pb (ks.length + 1 + 1 + 1 + 1) 0), (8, .pb (ks.length + 1 + 1 + 1 + 1 + 1 + 1) 0)])
  (Br := cM m :: [.sl 0 4 (l.map vND), vi next] :: [.nil, .nil] :: [vb false] :: (Jk ks ++ [[vi i], [vi z.st, vs 0 z.vec, vi q, vi k], [vs 0 (fireO m.rules[k]! l[q]!.vec)], [], [], []]))
  (Bf := cM m :: [.sl 0 4 (l.map vND), vi next] :: [vs 0 (pathT l j), vs 0 ((pathT l i).drop (pathT l j).length)] :: [vb true] :: (Jk ks ++ [[vi i], [vi z.st, vs 0 z.vec, vi q, vi k], [vs 0 (fireO m.rules[k]! l[q]!.vec)], [], [], []]))
  (Bz := cM m :: [.sl 0 4 (l.map vND), vi next] :: [vs 0 (pathT l j), vs 0 ((pathT l i).drop (pathT l j).length)] :: [vb true] :: (Jk ks ++ [[vi i], [vi z.st, vs 0 z.vec, vi q, vi k], [vs 0 (fireO m.rules[k]! l[q]!.vec)], [.any, .any], [.any], [.any]]))
  (ST1 := fun n => ⟨81, [(3, .pb 1 0), (4, .pb 2 0), (5, .pb 3 0), (6, .pb (ks.length + 1 + 1 + 1 + 1) 0), (8, .pb (ks.length + 1 + 1 + 1 + 1 + 1 + 1) 0), (10, vi n), (11, vs 0 l[n]!.vec)], cM m :: [.sl 0 4 (l.map vND), vi next] :: [.nil, .nil] :: [vb false] :: (Jk ks ++ [[vi i], [vi z.st, vs 0 z.vec, vi q, vi k], [vs 0 (fireO m.rules[k]! l[q]!.vec)], [], [], []])⟩)
  hlen hql hpar hj rfl ?_ ?_ ?_ ?_ ?_ ?_ ?_ ?_ ?_ ?_ (by kernel_rfl) (by kernel_rfl) (fun _ => rfl) ?_ ?_ ?_
 ·simp only [go_sem, n1]
 ·simp only [go_sem, n1]
 ·simp only [go_sem, n1]
 ·intro y
  by_cases h3 : y = 3
  ·subst h3; exact .inl rfl
  by_cases h4 : y = 4
  ·subst h4; exact .inl rfl
  by_cases h5 : y = 5
  ·subst h5; exact .inl rfl
  by_cases h6 : y = 6
  ·subst h6; exact .inl rfl
  by_cases h8 : y = 8
  ·subst h8; exact .inl rfl
  exact .inr (by simp only [lookT]; rw [if_neg (Ne.symm h3), if_neg (Ne.symm h4), if_neg (Ne.symm h5), if_neg (Ne.symm h6), if_neg (Ne.symm h8)])
 ·intro y
  by_cases h3 : y = 3
  ·subst h3; exact .inl ⟨1, 0, rfl, by omega, by omega, by omega⟩
  by_cases h4 : y = 4
  ·subst h4; exact .inl ⟨2, 0, rfl, by omega, by omega, by omega⟩
  by_cases h5 : y = 5
  ·subst h5; exact .inl ⟨3, 0, rfl, by omega, by omega, by omega⟩
  by_cases h6 : y = 6
  ·subst h6; exact .inl ⟨_, 0, rfl, by omega, by omega, by omega⟩
  by_cases h8 : y = 8
  ·subst h8; exact .inl ⟨_, 0, rfl, by omega, by omega, by omega⟩
  exact .inr (by simp only [lookT]; rw [if_neg (Ne.symm h3), if_neg (Ne.symm h4), if_neg (Ne.symm h5), if_neg (Ne.symm h6), if_neg (Ne.symm h8)])
 ·show 63 < 81 /\ 64 < 81
  omega
 ·simp only [go_sem, cM, vss, sN]
 ·simp only [go_sem, cM, vss, sN]
 ·simp
 ·intro cs hcs
  simp only [List.mem_cons, List.mem_append, List.not_mem_nil, or_false] at hcs
  rcases hcs with rfl | rfl | rfl | rfl | hcs | rfl | rfl | rfl | rfl | rfl | rfl
  ·rfl
  ·rfl
  ·rfl
  ·rfl
  ·obtain ⟨c, _, rfl⟩ := List.mem_map.1 hcs
   exact List.all_eq_true.2 fun x hx => by rw [List.eq_of_mem_replicate hx]; rfl
  all_goals rfl
 ·intro n hn
  simp only [go_sem, cM, vss]
 ·intro n hn hst hhit
  have hvn := (hok.node n hn).vec.1
  have hL := con_fless l[n]!.vec (fireO m.rules[k]! l[q]!.vec) (by omega) (by omega)
  simp only [go_sem, cM, vss, n1]
  refine CallU.free hL (by simp only [go_sem]) (by simp only [go_sem]) ?_
  rintro r bx rfl
  cases hq2 : (leqV l[n]!.vec (fireO m.rules[k]! l[q]!.vec) && lessO l[n]!.vec (fireO m.rules[k]! l[q]!.vec))
  ·simp only [go_sem]
  ·obtain rfl := hhit hq2
   simp only [go_sem]
   refine CallU.free (con_pathF l next n hM.made hn hlen) (by simp only [go_sem]) (by simp only [go_sem]) ?_
   rintro r bx rfl
   simp only [go_sem, n0]
   refine CallU.free (con_pathF l next i hM.made hlt hlen) (by simp only [go_sem]) (by simp only [go_sem]) ?_
   rintro r bx rfl
   simp only [go_sem]
   refine ⟨hpl, Nat.le_refl _, ?_⟩
   rw [List.take_of_length_le (by rw [List.length_map]; exact Nat.le_refl _), List.map_drop]
   exact leV_refl _
 ·simp only [go_sem, cM, vss]
  exact .inr ⟨_, _, rfl, hpump, fun hall => hoz (by have := hall i hlt; rwa [<- ez] at this)⟩
theorem run_copy_zero {P : Program} {w : World} {dT sT ty elem : TypeId} {d a : Option Addr} {dCap sLen sCap : Nat} (hu : P.underlying dT = some (.slice elem)) (hs : ((P.info? elem).map (·.size)).isSome = true) :
  (Builtin.copy_ #[dT, sT] ty #[.slice d 0 dCap, .slice a sLen sCap]).run P w = .ok (goInt 0) w := by
 cases hq : P.info? elem with
 | none => simp [hq] at hs
 | some i =>
  have h0 : ∀ b : Addr, (loadCells b 0).run P w = .ok #[] w := fun b => by
   have := run_loadCells_list (P := P) w b [] (by simp)
   simpa using this
  cases a <;> cases d <;> simp [Builtin.copy_, run_underlying hu, Builtin.lenOf, Builtin.firstCells, sizeOf, typeInfo, hq, storeCells, h0]
theorem con_repeat1 (y : List Int) : Con Tryz.prog 50 [.sl 0 1 [vs 0 y], vi 1] [] fun r _ => r = .sl 2 1 [vs 0 y] := by
 refine Con.intro Tryz.func50 rfl Tryz.ntmps50 Tryz.results50 (by kernel_rfl) (by simp) 0 (by simp) ?_
 have w1 : IntKind.u64.wrap (1 : Int) = 1 := by kernel_rfl
 have w2 : IntKind.u64.wrap (1 : Int) = 1 := by kernel_rfl
 have w3 : IntKind.i64.wrap (1 : Int) = 1 := by kernel_rfl
 simp only [go_sem, w1]
 refine CallU.free (con_mul 1 (by omega)) (by simp only [go_sem]) (by simp only [go_sem]) ?_
 rintro r bx rfl
 simp only [go_sem, w3]
 refine ⟨by simp, ?_⟩
 obtain ⟨F, hF⟩ : ∃ F : Nat -> List AV, F = fun k => List.replicate k (.sl 0 1 (y.map vi)) ++ List.replicate (1 - k) .nil := ⟨_, rfl⟩
 have e1 : F 1 = [.sl 0 1 (y.map vi)] := by rw [hF]; rfl
 refine LoopK.intro (fun k : Nat => ⟨48, [(7, .sl 1984 1 (F k)), (8, vi k)], []⟩) (fun k => 1 - k) (fun k => k = 1) 1 (rfl) ?_ ?_
 ·simp only [go_sem, e1]
  all_goals first | exact ⟨leV_refl _, leV_refl _⟩ | exact leV_refl _
 rintro k hk
 subst hk
 ·simp only [go_sem, e1, List.length_cons, List.length_nil]
theorem con_repeat2 (y : List Int) : Con Tryz.prog 50 [.sl 0 1 [vs 0 y], vi 2] [] fun r _ => r = .sl 2 1 [vs 0 y, vs 0 y] := by
 refine Con.intro Tryz.func50 rfl Tryz.ntmps50 Tryz.results50 (by kernel_rfl) (by simp) 0 (by simp) ?_
 have w1 : IntKind.u64.wrap (1 : Int) = 1 := by kernel_rfl
 have w2 : IntKind.u64.wrap (2 : Int) = 2 := by kernel_rfl
 have w3 : IntKind.i64.wrap (2 : Int) = 2 := by kernel_rfl
 simp only [go_sem, w1, w2]
 refine CallU.free (con_mul 2 (by omega)) (by simp only [go_sem]) (by simp only [go_sem]) ?_
 rintro r bx rfl
 simp only [go_sem, w3]
 refine ⟨by simp, ?_⟩
 obtain ⟨F, hF⟩ : ∃ F : Nat -> List AV, F = fun k => List.replicate k (.sl 0 1 (y.map vi)) ++ List.replicate (2 - k) .nil := ⟨_, rfl⟩
 have e1 : F 1 = [.sl 0 1 (y.map vi), .nil] := by rw [hF]; rfl
 have e2 : F 2 = [.sl 0 1 (y.map vi), .sl 0 1 (y.map vi)] := by rw [hF]; rfl
 refine LoopK.intro (fun k : Nat => ⟨48, [(7, .sl 1984 1 (F k)), (8, vi k)], []⟩) (fun k => 2 - k) (fun k => k = 1 \/ k = 2) 1 (.inl rfl) ?_ ?_
 ·simp only [go_sem, e1]
  all_goals first | exact ⟨leV_refl _, leV_refl _⟩ | exact leV_refl _
 rintro k hk
 rcases hk with rfl | rfl
 ·simp only [go_sem, e1, List.length_cons, List.length_nil]
  refine DrawK.front [0] 7 mixed (by kernel_rfl) ?_
  simp only [go_sem, List.length_cons, List.length_nil, List.take]
  refine roundK.intro 2 (.inr rfl) (by omega) ?_
  have ew : IntKind.i64.wrap (1 + ((min 1 1 : Nat) : Int)) = 2 := by kernel_rfl
  simp only [go_sem, e2, ew]
  all_goals exact leV_refl _
 ·simp only [go_sem, e2, List.length_cons, List.length_nil]
theorem con_repeat3 (y : List Int) : Con Tryz.prog 50 [.sl 0 1 [vs 0 y], vi 3] [] fun r _ => r = .sl 2 1 [vs 0 y, vs 0 y, vs 0 y] := by
 refine Con.intro Tryz.func50 rfl Tryz.ntmps50 Tryz.results50 (by kernel_rfl) (by simp) 0 (by simp) ?_
 have w1 : IntKind.u64.wrap (1 : Int) = 1 := by kernel_rfl
 have w2 : IntKind.u64.wrap (3 : Int) = 3 := by kernel_rfl
 have w3 : IntKind.i64.wrap (3 : Int) = 3 := by kernel_rfl
 simp only [go_sem, w1, w2]
 refine CallU.free (con_mul 3 (by omega)) (by simp only [go_sem]) (by simp only [go_sem]) ?_
 rintro r bx rfl
 simp only [go_sem, w3]
 refine ⟨by simp, ?_⟩
 obtain ⟨F, hF⟩ : ∃ F : Nat -> List AV, F = fun k => List.replicate k (.sl 0 1 (y.map vi)) ++ List.replicate (3 - k) .nil := ⟨_, rfl⟩
 have e1 : F 1 = [.sl 0 1 (y.map vi), .nil, .nil] := by rw [hF]; rfl
 have e2 : F 2 = [.sl 0 1 (y.map vi), .sl 0 1 (y.map vi), .nil] := by rw [hF]; rfl
 have e3 : F 3 = [.sl 0 1 (y.map vi), .sl 0 1 (y.map vi), .sl 0 1 (y.map vi)] := by rw [hF]; rfl
 refine LoopK.intro (fun k : Nat => ⟨48, [(7, .sl 1984 1 (F k)), (8, vi k)], []⟩) (fun k => 3 - k) (fun k => k = 1 \/ k = 2 \/ k = 3) 1 (.inl rfl) ?_ ?_
 ·simp only [go_sem, e1]
  all_goals first | exact ⟨leV_refl _, leV_refl _⟩ | exact leV_refl _
 rintro k hk
 rcases hk with rfl | rfl | rfl
 ·simp only [go_sem, e1, List.length_cons, List.length_nil]
  refine DrawK.front [0] 7 mixed (by kernel_rfl) ?_
  simp only [go_sem, List.length_cons, List.length_nil, List.take]
  refine roundK.intro 2 (.inr (.inl rfl)) (by omega) ?_
  have ew : IntKind.i64.wrap (1 + ((min 1 2 : Nat) : Int)) = 2 := by kernel_rfl
  simp only [go_sem, e2, ew]
  all_goals exact leV_refl _
 ·simp only [go_sem, e2, List.length_cons, List.length_nil]
  refine DrawK.front [0] 7 mixed (by kernel_rfl) ?_
  simp only [go_sem, List.length_cons, List.length_nil, List.take]
  refine roundK.intro 3 (.inr (.inr rfl)) (by omega) ?_
  have ew : IntKind.i64.wrap (2 + ((min 2 1 : Nat) : Int)) = 3 := by kernel_rfl
  simp only [go_sem, e3, ew]
  all_goals exact leV_refl _
 ·simp only [go_sem, e3, List.length_cons, List.length_nil]
theorem con_repeat4 (y : List Int) : Con Tryz.prog 50 [.sl 0 1 [vs 0 y], vi 4] [] fun r _ => r = .sl 2 1 [vs 0 y, vs 0 y, vs 0 y, vs 0 y] := by
 refine Con.intro Tryz.func50 rfl Tryz.ntmps50 Tryz.results50 (by kernel_rfl) (by simp) 0 (by simp) ?_
 have w1 : IntKind.u64.wrap (1 : Int) = 1 := by kernel_rfl
 have w2 : IntKind.u64.wrap (4 : Int) = 4 := by kernel_rfl
 have w3 : IntKind.i64.wrap (4 : Int) = 4 := by kernel_rfl
 simp only [go_sem, w1, w2]
 refine CallU.free (con_mul 4 (by omega)) (by simp only [go_sem]) (by simp only [go_sem]) ?_
 rintro r bx rfl
 simp only [go_sem, w3]
 refine ⟨by simp, ?_⟩
 obtain ⟨F, hF⟩ : ∃ F : Nat -> List AV, F = fun k => List.replicate k (.sl 0 1 (y.map vi)) ++ List.replicate (4 - k) .nil := ⟨_, rfl⟩
 have e1 : F 1 = [.sl 0 1 (y.map vi), .nil, .nil, .nil] := by rw [hF]; rfl
 have e2 : F 2 = [.sl 0 1 (y.map vi), .sl 0 1 (y.map vi), .nil, .nil] := by rw [hF]; rfl
 have e4 : F 4 = [.sl 0 1 (y.map vi), .sl 0 1 (y.map vi), .sl 0 1 (y.map vi), .sl 0 1 (y.map vi)] := by rw [hF]; rfl
 refine LoopK.intro (fun k : Nat => ⟨48, [(7, .sl 1984 1 (F k)), (8, vi k)], []⟩) (fun k => 4 - k) (fun k => k = 1 \/ k = 2 \/ k = 4) 1 (.inl rfl) ?_ ?_
 ·simp only [go_sem, e1]
  all_goals first | exact ⟨leV_refl _, leV_refl _⟩ | exact leV_refl _
 rintro k hk
 rcases hk with rfl | rfl | rfl
 ·simp only [go_sem, e1, List.length_cons, List.length_nil]
  refine DrawK.front [0] 7 mixed (by kernel_rfl) ?_
  simp only [go_sem, List.length_cons, List.length_nil, List.take]
  refine roundK.intro 2 (.inr (.inl rfl)) (by omega) ?_
  have ew : IntKind.i64.wrap (1 + ((min 1 3 : Nat) : Int)) = 2 := by kernel_rfl
  simp only [go_sem, e2, ew]
  all_goals exact leV_refl _
 ·simp only [go_sem, e2, List.length_cons, List.length_nil]
  refine DrawK.front [0] 7 mixed (by kernel_rfl) ?_
  simp only [go_sem, List.length_cons, List.length_nil, List.take]
  refine roundK.intro 4 (.inr (.inr rfl)) (by omega) ?_
  have ew : IntKind.i64.wrap (2 + ((min 2 2 : Nat) : Int)) = 4 := by kernel_rfl
  simp only [go_sem, e4, ew]
  all_goals exact leV_refl _
 ·simp only [go_sem, e4, List.length_cons, List.length_nil]
theorem wpOps_val {P : Program} {ops : Array Oper} {Q : Exit -> Act -> World -> Prop} {i : Nat} {rest : List Nat} {d : Option Tmp} {op : Op} {T : TypeId} {pos : String} {af : Array Edge} {v : Value} {a : Act} {w : World} (ho : ops[i]? = some ⟨d, op, T, pos, af, none⟩) (hr : (execOp a.eval ⟨d, op, T, pos, af, none⟩).run P w = .ok (.value v) w) (k : Go.wpOps P ops Q rest (a.put d v) w) : Go.wpOps P ops Q (i :: rest) a w := by
 rw [wpOps_cons]
 unfold Go.wpOp
 rw [ho]
 simp only
 rw [if_pos (by simp [Region.wanted])]
 left
 unfold Oper.wp
 rw [hr, Oper.upon_value]
 exact k
theorem nextQ_le {ST : St} : ∀ e τ, nextQ ST e τ -> e = .normal /\ τ.le ST := fun e τ h => by
 cases e <;> first | exact ⟨rfl, h⟩ | exact h.elim
theorem con_repeat0 (y : List Int) : Con Tryz.prog 50 [.sl 0 1 [vs 0 y], vi 0] [] fun r _ => r = .sl 2 1 [] := by
 refine Con.raw Tryz.func50 rfl Tryz.ntmps50 Tryz.results50 (by kernel_rfl) (by simp) 0 (by simp) ?_
 have w1 : IntKind.u64.wrap (1 : Int) = 1 := by kernel_rfl
 have w2 : IntKind.u64.wrap (0 : Int) = 0 := by kernel_rfl
 have w3 : IntKind.i64.wrap (0 : Int) = 0 := by kernel_rfl
 intro G w a hs
 refine seqA (ST := ⟨48, [(0, .sl 0 1 [vs 0 y]), (1, vi 0)], []⟩) _ nextQ_le (by simp only [go_sem]) hs ?_
 intro G a w hs
 refine seqA (ST := ⟨48, [(0, .sl 0 1 [vs 0 y]), (1, vi 0)], []⟩) _ nextQ_le (by simp only [go_sem]) hs ?_
 intro G a w hs
 refine seqA (ST := ⟨48, [(0, .sl 0 1 [vs 0 y]), (1, vi 0), (5, vq 0), (6, vq 0)], []⟩) _ nextQ_le (by
  simp only [go_sem, w1, w2]
  refine CallU.free (con_mul 0 (by omega)) (by simp only [go_sem]) (by simp only [go_sem]) ?_
  rintro r bx rfl
  simp only [go_sem]) hs ?_
 intro G a w hs
 refine seqA (ST := ⟨48, [(0, .sl 0 1 [vs 0 y]), (1, vi 0), (5, vq 0), (6, vq 0)], []⟩) _ nextQ_le (by simp only [go_sem]) hs ?_
 intro G a w hs
 refine seqA (ST := ⟨48, [(0, .sl 0 1 [vs 0 y]), (7, .sl 1984 1 [])], []⟩) _ nextQ_le (by simp only [go_sem, w3]; exact leV_refl _) hs ?_
 intro G a w hs
 have h7 := hs.slots 7
 have h0 := hs.slots 0
 change VRel G w (.sl 1984 1 []) _ at h7
 change VRel G w (.sl 0 1 [vs 0 y]) _ at h0
 obtain ⟨d, c, e7⟩ : ∃ d c, a.tmps.getD 7 undef = .slice d 0 c := by
  generalize a.tmps.getD 7 undef = u at h7
  cases h7 with
  | froz h => cases h <;> exact ⟨_, _, rfl⟩
  | own t es xs v e vals h1 h2 =>
   rcases h2.2 with ⟨hv, _⟩ | ⟨g, cap, cur, hv, _⟩
   ·exact ⟨_, _, hv⟩
   ·exact ⟨_, _, hv⟩
 obtain ⟨d2, n2, c2, e0⟩ : ∃ d n c, a.tmps.getD 0 undef = .slice d n c := by
  generalize a.tmps.getD 0 undef = u at h0
  cases h0 with
  | froz h => cases h; exact ⟨_, _, _, rfl⟩
  | own t es xs v e vals h1 h2 => omega
 have b1 := hs.add (.refl _ _) hs.good (fun _ _ h => h) (d := some 31) (by kernel_rfl) h7
 have b2 := b1.add (.refl _ _) hs.good (fun _ _ h => h) (d := some 32) (by kernel_rfl) h0
 have b3 := b2.add (.refl _ _) hs.good (fun _ _ h => h) (d := some 33) (x := vi 0) (v := goInt 0) (by kernel_rfl) (.froz (.sc _))
 have b4 := b3.add (.refl _ _) hs.good (fun _ _ h => h) (d := some 8) (x := vi 0) (v := goInt 0) (by kernel_rfl) (.froz (.sc _))
 refine wp_seq (wp_region ?_)
 change Go.wpOps _ _ _ [0, 1, 2, 3] _ _
 refine wpOps_val rfl (v := a.tmps.getD 7 undef) rfl ?_
 have hsz : a.tmps.size = 48 := hs.size
 obtain ⟨a1, ea1⟩ : ∃ a1, a1 = a.put (some 31) (a.tmps.getD 7 undef) := ⟨_, rfl⟩
 obtain ⟨a2, ea2⟩ : ∃ a2, a2 = a1.put (some 32) (a.tmps.getD 0 undef) := ⟨_, rfl⟩
 obtain ⟨a3, ea3⟩ : ∃ a3, a3 = a2.put (some 33) (goInt 0) := ⟨_, rfl⟩
 have hz1 : a1.tmps.size = 48 := by rw [ea1, put_size]; exact hsz
 have hz2 : a2.tmps.size = 48 := by rw [ea2, put_size]; exact hz1
 have hz3 : a3.tmps.size = 48 := by rw [ea3, put_size]; exact hz2
 have g1 : a1.eval (.tmp 0) = a.tmps.getD 0 undef := by
  show a1.tmps.getD 0 undef = _
  rw [ea1, put_getD]; simp
 have g2 : a2.eval (.tmp 31) = .slice d 0 c := by
  show a2.tmps.getD 31 undef = _
  rw [ea2, put_getD, ea1, put_getD, hsz, <- e7]; simp
 have g3 : a2.eval (.tmp 32) = .slice d2 n2 c2 := by
  show a2.tmps.getD 32 undef = _
  rw [ea2, put_getD, hz1, <- e0]; simp
 have g4 : a3.eval (.tmp 33) = goInt 0 := by
  show a3.tmps.getD 33 undef = _
  rw [ea3, put_getD, hz2]; simp
 refine wpOps_val rfl (v := a.tmps.getD 0 undef) ?_ ?_
 ·rw [<- ea1, <- g1]; rfl
 rw [<- ea1, <- ea2]
 refine wpOps_val rfl (v := goInt 0) ?_ ?_
 ·have hrun : ∀ ty, (Builtin.copy_ #[106, 106] ty #[.slice d 0 c, .slice d2 n2 c2]).run Tryz.prog w = .ok (goInt 0) w := fun ty => run_copy_zero (elem := 27) (by kernel_rfl) (by kernel_rfl)
  simp [execOp, resolve, invoke, builtin, g2, g3, hrun]
 rw [<- ea3]
 refine wpOps_val rfl (v := goInt 0) ?_ ?_
 ·rw [<- g4]; rfl
 rw [<- ea1, <- ea2, <- ea3] at b4
 show Code.wp _ _ _ _ _
 refine wpA_sound trivial _ _ ⟨48, [(7, .sl 1984 1 []), (8, vi 0)], []⟩ _ _ _ ?_ (b4.le (by simp only [go_sem]))
 simp only [go_sem]
 refine LoopK.intro (fun _ : Unit => ⟨48, [(7, .sl 1984 1 []), (8, vi 0)], []⟩) (fun _ => 0) (fun _ => True) () trivial ?_ ?_
 ·simp only [go_sem]
 rintro ⟨⟩ _
 simp only [go_sem]
theorem con_repeatN (y : List Int) (n : Nat) (hn : n <= 4) : Con Tryz.prog 50 [.sl 0 1 [vs 0 y], vi n] [] fun r _ => r = .sl 2 1 (List.replicate n (vs 0 y)) := by
 obtain rfl | rfl | rfl | rfl | rfl : n = 0 \/ n = 1 \/ n = 2 \/ n = 3 \/ n = 4 := by omega
 ·exact con_repeat0 y
 ·exact con_repeat1 y
 ·exact con_repeat2 y
 ·exact con_repeat3 y
 ·exact con_repeat4 y
def repA (q : Int × List StD) : AV := if q.1 = 0 then .tup [.sl 2 3 (q.2.map vStep), vi 0] else .tup [.nil, vi q.1]
theorem getRowR {l : List (List Int)} {i : Nat} (h : i < l.length) : (l.map (vs 0))[i]? = some (vs 0 l[i]!) := by
 rw [List.getElem?_map, List.getElem?_eq_getElem h, getElem!_pos l i h, Option.map_some]
theorem con_brepG (m : MD) (v0 : List Int) (b a : List Int) (n : Nat) (g : List Int) (h : PlainM m 0 v0) (hb : ∀ k ∈ b, 0 <= k /\ k < m.rules.length) (ha : ∀ k ∈ a, 0 <= k /\ k < m.rules.length) (hl : b.length + a.length <= 64) (ha0 : a ≠ []) (hg : growsF m.rules (0, v0) b a = (0, g)) (hn : n <= 4) :
  Con Tryz.prog 20 [vM m, .ag [vs 0 b, vs 0 a], vi n] [] fun x _ => x = repA (repF m.rules (0, v0) b a n) := by
 refine Con.intro Tryz.func20 rfl Tryz.ntmps20 Tryz.results20 (by kernel_rfl) (by simp) 0 (by simp) ?_
 have hgr := con_grows m v0 b a h hb ha hl
 rw [hg, show growA (0, g) = .tup [vs 2 g, vi 0] from rfl] at hgr
 have hst := con_bstart m v0 h
 have hal : 0 < a.length := List.length_pos_iff.2 ha0
 have hs0 := h.good.states
 have wq : IntKind.i64.wrap ((IntKind.i64.wrap (64 - (b.length : Int))).tdiv a.length) = (((64 - b.length) / a.length : Nat) : Int) := by
  have e : IntKind.i64.wrap (64 - (b.length : Int)) = ((64 - b.length : Nat) : Int) := by rw [wrap_in (by omega) (by omega)]; omega
  rw [e, <- Int.ofNat_tdiv]
  have : (64 - b.length) / a.length <= 64 := Nat.le_trans (Nat.div_le_self _ _) (by omega)
  generalize (64 - b.length) / a.length = D at this ⊢
  exact wrap_in (by omega) (by omega)
 have hn0 : ¬ (n : Int) < 0 := by omega
 have hz : ((a.length : Int) == 0) = false := beq_eq_false_iff_ne.2 (by omega)
 have hz2 : ¬ (a.length : Int) = 0 := by omega
 simp only [go_sem, vM, cM, vss]
 refine CallU.free hgr (by simp only [go_sem]) (by simp only [go_sem, vM, cM, vss]) ?_
 rintro r bx rfl
 simp only [go_sem, hn0, wq, hz2, List.length_map]
 by_cases hlim : (64 - b.length) / a.length < n
 ·have e : repF m.rules (0, v0) b a n = (1, []) := by unfold repF; rw [if_pos hlim]
  rw [e]
  simp only [go_sem, hlim, repA]
 have hng : ∀ x ∈ rowsR b a n, (∀ k ∈ x, 0 <= k /\ k < m.rules.length) /\ x.length <= 64 := fun x hx => by
  rcases mem_rows hx with rfl | rfl
  ·exact ⟨hb, by omega⟩
  ·exact ⟨ha, by omega⟩
 have hrepI : ∀ i, ∀ k ∈ repI a i, k ∈ a := fun i => by
  induction i with
  | zero => intro k hk; cases hk
  | succ i ih => intro k hk; rcases List.mem_append.1 hk with hk | hk; exact ih k hk; exact hk
 have hfirst : ∀ i, ∀ k ∈ firstR b a i, 0 <= k /\ k < m.rules.length := fun i => by
  cases i with
  | zero => intro k hk; cases hk
  | succ i => intro k hk; rcases List.mem_append.1 hk with hk | hk; exact hb k hk; exact ha k (hrepI i k hk)
 have hflen : ∀ i, i <= n + 1 -> (firstR b a i).length <= 320 := fun i hi => by
  cases i with
  | zero => simp [firstR]
  | succ i =>
   rw [firstR_len]
   have : i * a.length <= 4 * 64 := Nat.mul_le_mul (by omega) (by omega)
   omega
 have hg5 : ∀ r ∈ m.rules, 0 <= r.dst /\ r.dst < m.states.length /\ ∀ i, i < m.places.length -> 0 <= r.give[i]! := fun r hr => by
  have hsl := plain_slim h r hr
  obtain ⟨f1, f2, f3, f4, f5, f6⟩ := (h.fine r hr).right
  exact ⟨f3, f4, fun j hj => (hsl.low j hj).2.2.1⟩
 have hv0 : finV m.places.length v0 := ⟨h.conf.len, fun x hx => h.conf.low x hx⟩
 obtain ⟨W, hW⟩ : ∃ W, W = fun i => walkF m.rules (0, v0) (firstR b a i) := ⟨_, rfl⟩
 have hWs : ∀ i, i < n + 1 -> (W i).1 = 0 -> W (i + 1) = ((walkF m.rules (W i).2.1 (rowsR b a n)[i]!).1, (walkF m.rules (W i).2.1 (rowsR b a n)[i]!).2.1, (W i).2.2 ++ (walkF m.rules (W i).2.1 (rowsR b a n)[i]!).2.2) := fun i hi h0 => by
  rw [hW] at h0 ⊢
  simp only at h0 ⊢
  rw [firstR_succ b a n hi, walk_app h0]
 have hWok : ∀ i, (W i).1 = 0 -> finV m.places.length (W i).2.1.2 /\ 0 <= (W i).2.1.1 /\ (W i).2.1.1 < m.states.length := fun i h0 => by
  rw [hW] at h0 ⊢
  exact (walk_run hg5 (ks := firstR b a i) (x := (0, v0)) (y := (walkF m.rules (0, v0) (firstR b a i)).2.1) (st := (walkF m.rules (0, v0) (firstR b a i)).2.2) (hfirst i) ⟨Int.le_refl _, by show (0 : Int) < _; omega⟩ hv0 (Prod.ext h0 rfl)).2
 have hWl : ∀ i, i <= n + 1 -> (W i).2.2.length <= 320 := fun i hi => by
  rw [hW]
  exact Nat.le_trans (walk_len _ _ _) (hflen i hi)
 have hW0 : W 0 = (0, (0, v0), []) := by rw [hW]; rfl
 have hrep : repF m.rules (0, v0) b a n = if (W (n + 1)).1 = 0 then (0, (W (n + 1)).2.2) else ((W (n + 1)).1, []) := by
  unfold repF
  rw [if_neg hlim, hW]
 have hstop : ∀ i, i <= n + 1 -> (W i).1 ≠ 0 -> repF m.rules (0, v0) b a n = ((W i).1, []) := fun i hi h0 => by
  have e : (W (n + 1)).1 = (W i).1 := by
   rw [hW] at h0 ⊢
   exact walk_first hi h0
  rw [hrep, if_neg (by rw [e]; exact h0), e]
 simp only [go_sem, hlim]
 refine CallU.news (bx0 := []) hst (by simp only [go_sem]) (by simp only [go_sem]) (by simp only [go_sem]) (by simp only [go_sem, vM, cM, vss]) (by simp only [go_sem]) ?_
 rintro r bx ⟨rfl, rfl⟩
 simp only [go_sem, cM, vss]
 refine DrawK.meet ⟨64, [(10, .pb 3 0), (47, .sl 2688 1 ((rowsR b a n).map (vs 0))), (48, vi (n + 1 : Nat)), (49, vi 0)], [cM m, [vs 0 b, vs 0 a], cM m, walkC m 0 v0 .nil]⟩ ?_ ?_
 ·refine DrawK.tree repTree mixed (by kernel_rfl) ?_
  unfold repTree
  simp only [go_sem, List.length_cons, List.length_nil]
  have hro : roomFor (1 + n) 24 := by simp only [roomFor]; omega
  have hrows : (rowsR b a n).map (vs 0) = vs 0 b :: List.replicate n (vs 0 a) := by simp [rowsR]
  repeat' (first | with_reducible apply andK_mk | (refine CallU.freeze (con_repeatN a n hn) (by simp only [go_sem]) (by simp only [go_sem]) ?_; rintro r bx rfl; simp only [go_sem, cM, vss, hro, hrows, List.length_cons, List.length_nil, List.length_replicate]) | simp only [go_sem, List.length_cons, List.length_nil])
 simp only [go_sem, cM, vss]
 have hrl := rowsR_len b a n
 refine LoopK.intro (fun i : Nat => ⟨64, [(10, .pb 3 0), (47, .sl 2688 1 ((rowsR b a n).map (vs 0))), (48, vi (n + 1 : Nat)), (49, vi i)], [cM m, [vs 0 b, vs 0 a], cM m, walkC m (W i).2.1.1 (W i).2.1.2 (.sl 1026 3 ((W i).2.2.map vStep))]⟩) (fun i => n + 1 - i) (fun i => i <= n + 1 /\ (W i).1 = 0) 0 ⟨by omega, by rw [hW0]⟩ ?_ ?_
 ·simp only [go_sem, cM, vss, hW0, List.map_nil]
  try exact leV_nil _ _
 rintro i ⟨hi, h0⟩
 have hok := hWok i h0
 have hwl := hWl i hi
 by_cases hlt : i < n + 1
 case neg =>
  obtain rfl : i = n + 1 := by omega
  have hnl : ¬ ((n : Int) + 1 < (n : Int) + 1) := by omega
  rw [hrep, if_pos h0]
  simp only [go_sem, cM, vss, hnl, repA]
 have hsucc := hWs i hlt h0
 have hir : i < (rowsR b a n).length := by omega
 have hgi := getRowR hir
 have hxr := hng _ (by rw [getElem!_pos _ i hir]; exact List.getElem_mem hir : (rowsR b a n)[i]! ∈ rowsR b a n)
 have hst2 := hstop (i + 1) (by omega)
 have hwi : IntKind.i64.wrap ((i : Int) + 1) = i + 1 := wrap_in (by omega) (by omega)
 obtain ⟨y, ey⟩ : ∃ y, y = W i := ⟨_, rfl⟩
 obtain ⟨row, er⟩ : ∃ row, row = (rowsR b a n)[i]! := ⟨_, rfl⟩
 rw [<- ey, <- er] at hsucc
 rw [<- er] at hgi hxr
 rw [<- ey] at hok hwl
 rw [<- ey]
 have hwk := con_walk m v0 y.2.1.1 y.2.1.2 row y.2.2 (.sl 2 3 (y.2.2.map vStep)) h ⟨hok.2.1, hok.2.2⟩ hok.1 hxr.1 hxr.2 (by omega) (leV_refl _)
 rw [show ((y.2.1.1, y.2.1.2) : SV) = y.2.1 from rfl] at hwk
 obtain ⟨q, hq⟩ : ∃ q, walkF m.rules y.2.1 row = q := ⟨_, rfl⟩
 rw [hq] at hwk hsucc
 have hlt2 : (i : Int) < (n : Int) + 1 := by omega
 simp only [go_sem, cM, vss, hlt2, hir, hgi, List.length_map]
 refine CallU.own (i := 3) (is := []) (bx0 := [walkC m y.2.1.1 y.2.1.2 (.sl 1026 3 (y.2.2.map vStep))]) hwk (by simp only [go_sem]) (by simp only [go_sem, vss]) [1026] (by simp only [go_sem, vss]) (by simp only [go_sem, vss]) (by simp only [go_sem]) (by simp only [go_sem, vss]) ?_
 rintro x bb ⟨rfl, rfl⟩
 by_cases hq0 : q.1 = 0
 case neg =>
  have hq0' : (q.1 != 0) = true := bne_iff_ne.2 hq0
  have e := hst2 (by rw [hsucc]; exact hq0)
  rw [hsucc] at e
  rw [e]
  simp only [go_sem, vss, hq0', repA]
  rw [if_neg hq0]
 have hq0' : (q.1 != 0) = false := by rw [hq0]; rfl
 simp only [go_sem, vss, hq0', hwi]
 refine roundK.mv 3586 1026 (by omega) (by omega) (by omega) (i + 1) ⟨by omega, by rw [hsucc]; exact hq0⟩ (by omega) ?_
 simp only [go_sem, hsucc]
 exact leV_refl _
theorem con_rorderI (x y : Int) : Con Tryz.prog 56 [vi x, vi y] [] fun r _ => r = vi (ordI x y) := by
 refine Con.intro Tryz.func56 rfl Tryz.ntmps56 Tryz.results56 (by kernel_rfl) (by simp) 0 (by simp) ?_
 by_cases h1 : x < y
 ·have e : ordI x y = -1 := by unfold ordI; rw [if_pos h1]
  simp only [go_sem, h1, e]
 by_cases h2 : y < x
 ·have e : ordI x y = 1 := by unfold ordI; rw [if_neg h1, if_pos h2]
  simp only [go_sem, h1, h2, e]
 ·have e : ordI x y = 0 := by unfold ordI; rw [if_neg h1, if_neg h2]
  simp only [go_sem, h1, h2, e]
theorem con_rcompare : ∀ (N : Nat) (a b : CV), SizeOf.sizeOf a <= N -> a.Ok -> b.Ok -> Con Tryz.prog 93 [vV a, vV b] [] fun r _ => r = vi (cmpV a b) := by
 intro N
 induction N with
 | zero => intro a b hN; cases a; simp at hN
 | succ N ih =>
 intro a b hN ha hb
 have hrec : ∀ x ∈ a.kids, ∀ y ∈ b.kids, Con Tryz.prog 93 [vV x, vV y] [] fun r _ => r = vi (cmpV x y) := fun x hx y hy => ih x y (by have := kid_size hx; omega) (ha.kid hx) (hb.kid hy)
 have hal := ha.len
 have hbl := hb.len
 rw [vV_eq a, vV_eq b]
 have hcmp : cmpV a b = if a.n ≠ b.n then ordI a.n b.n else if a.kids.length ≠ b.kids.length then ordI a.kids.length b.kids.length else cmpVs a.kids b.kids := by cases a; cases b; rw [cmpV]; rfl
 refine Con.intro Tryz.func93 rfl Tryz.ntmps93 Tryz.results93 (by kernel_rfl) (by simp) 0 (by simp) ?_
 simp only [go_sem]
 by_cases h1 : a.n = b.n
 case neg =>
  have h1' : (a.n != b.n) = true := bne_iff_ne.2 h1
  rw [if_pos h1] at hcmp
  simp only [go_sem, h1']
  refine CallU.free (con_rorderI a.n b.n) (by simp only [go_sem]) (by simp only [go_sem]) ?_
  rintro r bx rfl
  simp only [go_sem, hcmp]
 have h1' : (a.n != b.n) = false := by simp [h1]
 rw [if_neg (fun h => h h1)] at hcmp
 by_cases h2 : a.kids.length = b.kids.length
 case neg =>
  rw [if_pos h2] at hcmp
  simp only [go_sem, h1', h2]
  refine CallU.free (con_rorderI a.kids.length b.kids.length) (by simp only [go_sem]) (by simp only [go_sem]) ?_
  rintro r bx rfl
  simp only [go_sem, hcmp]
 rw [if_neg (fun h => h h2)] at hcmp
 simp only [go_sem, h1', h2]
 refine LoopK.intro (fun i : Nat => ⟨52, [(2, .pb 0 0), (3, .pb 1 0), (5, vi i)], [[vi a.n, .sl 0 2 (a.kids.map vV)], [vi b.n, .sl 0 2 (b.kids.map vV)]]⟩)
  (fun i => a.kids.length - i) (fun i => i <= a.kids.length /\ cmpVs (a.kids.drop i) (b.kids.drop i) = cmpVs a.kids b.kids) 0 ⟨by omega, rfl⟩ ?_ ?_
 ·simp only [go_sem]
 rintro i ⟨hi, he⟩
 by_cases h : i < a.kids.length
 case neg =>
  have e : cmpVs a.kids b.kids = 0 := by rw [<- he, List.drop_of_length_le (by omega), List.drop_of_length_le (by omega)]; rfl
  rw [e] at hcmp
  have h' : ¬ (i < b.kids.length) := by omega
  simp only [go_sem, h2, h', hcmp]
 have h' : i < b.kids.length := by omega
 have hw : IntKind.i64.wrap (i + 1) = i + 1 := wrap_in (by omega) (by omega)
 have g1 := getvV h
 have g2 := getvV h'
 have d1 : a.kids.drop i = a.kids[i]! :: a.kids.drop (i + 1) := by rw [<- List.getElem_cons_drop h, <- getElem!_pos a.kids i h]
 have d2 : b.kids.drop i = b.kids[i]! :: b.kids.drop (i + 1) := by rw [<- List.getElem_cons_drop h', <- getElem!_pos b.kids i h']
 rw [d1, d2, cmpVs] at he
 have hc := hrec _ (mem_bangI h) _ (mem_bangI h')
 rw [vV_eq a.kids[i]!, vV_eq b.kids[i]!] at hc
 simp only [go_sem, h', h2]
 refine DrawK.walk 10 mixed (by kernel_rfl) ?_
 simp only [go_sem, h', h2, g1, g2]
 refine CallU.free hc (by simp only [go_sem]) (by simp only [go_sem]) ?_
 rintro r bx rfl
 by_cases h4 : cmpV a.kids[i]! b.kids[i]! = 0
 ·have h5 : (cmpV a.kids[i]! b.kids[i]! != 0) = false := by rw [h4]; rfl
  rw [if_neg (fun h' => h' h4)] at he
  simp only [go_sem, h5, hw]
  refine roundK.intro (i + 1) ⟨by omega, he⟩ (by omega) ?_
  simp only [go_sem]
 ·have h5 : (cmpV a.kids[i]! b.kids[i]! != 0) = true := bne_iff_ne.2 h4
  rw [if_pos h4] at he
  rw [<- he] at hcmp
  simp only [go_sem, h5, hcmp]
def kidZ (n : Int) : AV := .ag [vi n, .sl 0 2 []]
attribute [go_sem] kidZ
end Go.AM
