/-
  Walks: numbers of the dice; configurations of the dice.
  Configurations and models as they are built: what is empty is nil.
  Plain laws: all short cycles of a counter model.
  Walks: the reference's short cycles of counter models.
  Walks: the reference of models: the type of configurations, kind 3.
  Walks: the reference of models: the type of configurations, kind 4.
  Walks: the reference of models: the type of configurations, for all kinds.
  Walks: values of types in general: the reference's of, Valid.
  Walks: which models are valid, for all kinds: the reference's Check, Type, Valid.
  Walks: equality of models of any kind, types and states of configurations (model.Same, Type, State).
  Walks: the reference's type of a counter model whose start is missing.
  Walks: the reference's steps of counter models: which rules can be used.
  Walks: counter.Apply at a valid counter model.
  Walks: the reference's Copy; sorted values of flat types.
-/
import Derived.Test.YtpmodjodfimejaaGreatg16
import Derived.Test.YtpmodjodfimejaaGreatg22
import Derived.Test.YtpmodjodfimejaaGreatg17
import Derived.Test.YtpmodjodfimejaaGreatg21
import Derived.Test.YtpmodjodfimejaaGreatg20
import Derived.Test.YtpmodjodfimejaaGreatg18
/-! ## CmZ -/
namespace Go.AM
open Go Go.Proofs Go.RowKit
theorem Con.freezeB {P : Program} {f : FuncId} {args : List AV} {bx : List (List AV)} {post : AV → List (List AV) → Prop} (p : Nat → Bool) (h : Con P f args bx post) : Con P f args bx fun r' b' => ∃ r b, post r b ∧ r' = r.freeze p ∧ b' = b.map fun cs => cs.map (AV.freeze p) :=
 ⟨h.1, fun G w vs h1 h2 h3 h4 h5 => (h.2 G w vs h1 h2 h3 h4 h5).mono fun e w' ⟨v, r, bx', G', he, hq, hr, hg, hbx, hlt, e1, e2, e3, e4, e5, e6⟩ => by
  have hbox : ∀ k i, freezeG p G' k = .box i ↔ G' k = .box i := fun k i => by
   unfold freezeG; split
   ·rename_i t ht; split <;> simp [ht]
   ·exact Iff.rfl
  refine ⟨v, _, bx'.map (fun cs => cs.map (AV.freeze p)), freezeG p G', he, ⟨r, bx', hq, rfl, rfl⟩, hr.freeze, hg.freeze, ⟨fun i vs hv => by simp [noGh] at hv, fun i cs hi => ?_⟩, fun k i hk => by simpa using hlt k i ((hbox k i).1 hk), e1, e2, e3, e4, fun k hk => ?_, e6⟩
  ·rw [List.getElem?_map] at hi
   cases hc : bx'[i]? with
   | none => simp [hc] at hi
   | some cs' =>
    simp [hc] at hi; subst hi
    exact (hbx.cell i cs' hc).map (fun x v hr => hr.freeze) (fun k hk => ⟨(hbox k i).2 hk, rfl⟩) fun h0 k hk => h0 k ((hbox k i).1 hk)
  ·have := e5 k hk
   unfold freezeG
   split
   ·rename_i t ht; rw [this] at ht; exact absurd ht (h2 k t)
   ·exact this⟩
def kidN (n : Int) : AV := .ag [vi n, .nil]
def cfgN (t s : Nat) (v : List Int) : AV := .ag [vi 0, .sl t 2 (((s : Int) :: v).map kidN)]
attribute [go_sem] kidN cfgN
end Go.AM

/-! ## CmX0 -/
namespace Go.AM
open Go Go.Proofs Go.RowKit
theorem flat_cons (x : AV) (l : List AV) : flat (x :: l) = x.cells ++ flat l := by simp [flat]
theorem kids_pw : ∀ l : List Int, PW Sub (flat (l.map kidN)) (flat ((l.map fun n => CV.mk n []).map vV))
 | [] => PW.nil _
 | n :: l => by
  rw [List.map_cons, List.map_cons, List.map_cons, flat_cons, flat_cons, vV_eq]
  exact PW.append (PW.cons (Sub.refl _) (PW.cons (Sub.nil 2) (PW.nil _))) (kids_pw l)
theorem cfg_le (s : Nat) (v : List Int) : leV (cfgN 0 s v) (vV (cfgC s v)) := by
 rw [vV_eq]
 refine leV_ag ⟨leV_refl _, ?_, trivial⟩
 show leV (.sl 0 2 (((s : Int) :: v).map kidN)) (.sl 0 2 ((((s : Int) :: v).map fun n => CV.mk n []).map vV))
 exact leV_slE (by simp) (fun y hy => by
  obtain ⟨x, _, rfl⟩ := List.mem_map.1 hy
  rw [vV_eq]; rfl) (kids_pw _)
def ruleN (r : RD) : AV := .ag [vStr r.name, vi r.src, vi r.dst, vs 0 r.need, vs 0 r.give, .nil, vi 0, vi 0, vi 0, .nil, .nil, .nil, .nil, vi 0]
attribute [go_sem] ruleN
def ThinR (r : RD) : Prop := r = bareR r.name r.src r.dst r.need r.give []
theorem rules_pw : ∀ l : List RD, (∀ r ∈ l, ThinR r) → PW Sub (flat (l.map ruleN)) (flat (l.map vRule))
 | [], _ => PW.nil _
 | r :: l, h => by
  rw [List.map_cons, List.map_cons, flat_cons, flat_cons]
  refine PW.append ?_ (rules_pw l fun x hx => h x (List.mem_cons_of_mem _ hx))
  rw [h r (List.mem_cons_self ..)]
  have e1 : Sub .nil (vs 0 []) := Sub.nil 1
  have e3 : Sub .nil (.sl 0 3 (([] : List (Int × Int × Int)).map vTake)) := Sub.nil 3
  exact PW.cons (Sub.refl _) (PW.cons (Sub.refl _) (PW.cons (Sub.refl _) (PW.cons (Sub.refl _) (PW.cons (Sub.refl _) (PW.cons e1 (PW.cons (Sub.refl _) (PW.cons (Sub.refl _) (PW.cons (Sub.refl _) (PW.cons e1 (PW.cons e1 (PW.cons e3 (PW.cons e1 (PW.cons (Sub.refl _) (PW.nil _))))))))))))))
def modelN (m : MD) (t s0 : Nat) (v0 : List Int) : AV := .ag [vi 1, vss m.states, vss m.places, .nil, .nil, vi 0, vi 0, .sl t 14 (m.rules.map ruleN), vi 0, .sl t 2 (((s0 : Int) :: v0).map kidN)]
attribute [go_sem] modelN
end Go.AM

/-! ## LCyc -/
namespace Go.AM
end Go.AM

/-! ## FG -/
namespace Go.AM
open Go Go.Proofs Go.RowKit
set_option maxRecDepth 100000
theorem con_rcopy (l : List Int) (h2 : l.length ≤ 1000000) : Con Tryz.prog 132 [vs 0 l] [] fun r _ => r = vs 2 l := by
 refine Con.intro Tryz.func132 rfl Tryz.ntmps132 Tryz.results132 (by kernel_rfl) (by simp) 0 (by simp) ?_
 have hr : roomFor l.length 8 := by simp only [roomFor]; omega
 simp only [go_sem, List.length_map, hr]
end Go.AM

/-! ## GT -/
namespace Go.AM
open Go Go.Proofs Go.RowKit
set_option maxRecDepth 100000
set_option maxHeartbeats 8000000
def prioR (nl : Nat) (l : List Int) : AV := .ag [vi 7, vi nl, vs 0 l, .nil]
theorem con_rtypeOf3 (m : MD) (hp : m.places.length ≤ 1000000) (hr : m.ranks.length ≤ 1000000) (hk : m.kind = 3) : Con Tryz.prog 77 [vM m] [] fun r _ => r = .ag [vi 3, vi 0, .nil, .sl 2 4 (.ag [vi 2, vi m.states.length, .nil, .nil] :: List.replicate m.places.length (prioR m.letters.length m.ranks))] := by
 refine Con.intro Tryz.func77 rfl Tryz.ntmps77 Tryz.results77 (by kernel_rfl) (by simp) 0 (by simp) ?_
 unfold vM cM
 rw [hk]
 simp only [go_sem, vss, List.length_map]
 refine LoopK.intro (fun i : Nat => ⟨96, [(1, .pb 0 0), (2, .pb 1 0), (3, .pb 2 0), (4, .pb 3 0), (8, vi i)], [vi 3, .sl 0 1 (m.states.map vStr), .sl 0 1 (m.places.map vStr), .sl 0 1 (m.letters.map vStr), vs 0 m.ranks, vi m.levels, vi m.age, .sl 0 14 (m.rules.map vRule), vi m.start.n, .sl 0 2 (m.start.kids.map vV)] :: [.any, .any, .any, .any] :: [vi 3, vi 0, .nil, .sl 960 4 (.ag [vi 2, vi m.states.length, .nil, .nil] :: List.replicate i (prioR m.letters.length m.ranks))] :: [vi 2, vi m.letters.length, .nil, .nil] :: Rk 4 i⟩)
  (fun i => m.places.length - i) (fun i => i ≤ m.places.length) 0 (by omega) ?_ ?_
 ·simp only [go_sem, List.replicate_zero]
  all_goals exact leB_self _
 rintro i hi
 by_cases hlt : i < m.places.length
 ·have hw : IntKind.i64.wrap (i + 1) = i + 1 := wrap_in (by omega) (by omega)
  have hB := Rk_len 4 i
  have n0 := fun L : List (List AV) => app_at0 (L := L) hB
  have s0 := fun (L : List (List AV)) z => app_set0 (L := L) (z := z) hB
  have e : List.replicate (i + 1) (prioR m.letters.length m.ranks) = List.replicate i (prioR m.letters.length m.ranks) ++ [prioR m.letters.length m.ranks] := rep_succ _ _
  have cc := con_rcopy m.ranks hr
  simp only [go_sem, hlt, hB, n0, s0, List.length_map]
  refine DrawK.walk 7 mixed (by kernel_rfl) ?_
  simp only [go_sem]
  refine CallY.mk cc (by simp only [go_sem]) (by simp only [go_sem]) (.inl (by simp only [go_sem])) ?_
  simp only [go_sem, hw, n0, s0]
  refine ⟨by simp only [roomFor, List.length_replicate]; omega, ?_⟩
  refine roundK.intro (i + 1) (by omega) (by omega) ?_
  simp only [go_sem, Rk_succ, e]
  exact ⟨leV_refl _, leB_RkA ⟨leC_any _ 4 rfl, trivial⟩⟩
 ·obtain rfl : i = m.places.length := by omega
  simp only [go_sem, hlt, List.length_map]
end Go.AM

/-! ## GU -/
namespace Go.AM
open Go Go.Proofs Go.RowKit
set_option maxRecDepth 100000
set_option maxHeartbeats 8000000
def nodeR (nl : Nat) : Nat → AV
 | 0 => .ag [vi 2, vi nl, .nil, .sl 0 4 []]
 | n + 1 => .ag [vi 3, vi 0, .nil, .sl 0 4 [.ag [vi 2, vi nl, .nil, .nil], .ag [vi 5, vi 0, .nil, .sl 0 4 [nodeR nl n]]]]
def nodeC (nl : Nat) : Nat → List AV
 | 0 => [vi 2, vi nl, .nil, .sl 4224 4 []]
 | n + 1 => [vi 3, vi 0, .nil, .sl 4224 4 [.ag [vi 2, vi nl, .nil, .nil], .ag [vi 5, vi 0, .nil, .sl 0 4 [nodeR nl n]]]]
theorem nodeC_eq (nl n : Nat) : ∃ (k s : Int) (p : List AV), nodeC nl n = [vi k, vi s, .nil, .sl 4224 4 p] ∧ nodeR nl n = .ag [vi k, vi s, .nil, .sl 0 4 p] := by cases n <;> exact ⟨_, _, _, rfl, rfl⟩
theorem con_rtypeOf4 (m : MD) (n : Nat) (hl : m.levels = (n + 1 : Nat)) (hn : n ≤ 100) (hk : m.kind = 4) : Con Tryz.prog 77 [vM m] [] fun r _ => r = .ag [vi 3, vi 0, .nil, .sl 2 4 [.ag [vi 2, vi m.states.length, .nil, .nil], .ag [vi 5, vi 0, .nil, .sl 0 4 [nodeR m.letters.length n]]]] := by
 refine Con.intro Tryz.func77 rfl Tryz.ntmps77 Tryz.results77 (by kernel_rfl) (by simp) 0 (by simp) ?_
 have hro : roomFor (1 + 1) 64 := by simp only [roomFor]; omega
 unfold vM cM
 rw [hk, hl]
 simp only [go_sem, vss, List.length_map]
 refine LoopK.intro (fun i : Nat => ⟨96, [(1, .pb 0 0), (2, .pb 1 0), (3, .pb 2 0), (4, .pb 3 0), (5, .pb 4 0), (6, vi ((i : Int) + 1))], [[vi 4, .sl 0 1 (m.states.map vStr), .sl 0 1 (m.places.map vStr), .sl 0 1 (m.letters.map vStr), vs 0 m.ranks, vi ((n : Int) + 1), vi m.age, .sl 0 14 (m.rules.map vRule), vi m.start.n, .sl 0 2 (m.start.kids.map vV)], [.any, .any, .any, .any], [vi 3, vi 0, .nil, .sl 960 4 [.ag [vi 2, vi m.states.length, .nil, .nil]]], [vi 2, vi m.letters.length, .nil, .nil], nodeC m.letters.length i]⟩)
  (fun i => n - i) (fun i => i ≤ n) 0 (by omega) ?_ ?_
 ·simp only [go_sem, nodeC]
  all_goals exact ⟨leV_int rfl, leV_nil 4224 4⟩
 rintro i hi
 obtain ⟨k, s, p, ec, er⟩ := nodeC_eq m.letters.length i
 by_cases hlt : i < n
 ·have hlt' : (i : Int) + 1 < (n : Int) + 1 := by omega
  have hw : IntKind.i64.wrap ((i : Int) + 1 + 1) = (i : Int) + 1 + 1 := wrap_in (by omega) (by omega)
  have e2 : nodeC m.letters.length (i + 1) = [vi 3, vi 0, .nil, .sl 4224 4 [.ag [vi 2, vi m.letters.length, .nil, .nil], .ag [vi 5, vi 0, .nil, .sl 0 4 [.ag [vi k, vi s, .nil, .sl 0 4 p]]]]] := by rw [nodeC, er]
  simp only [go_sem, hlt', hw, ec]
  refine roundK.intro (i + 1) (by omega) (by omega) ?_
  simp only [go_sem, e2]
 ·obtain rfl : i = n := by omega
  have hlt' : ¬ (i : Int) + 1 < (i : Int) + 1 := by omega
  rw [er]
  simp only [go_sem, hlt', ec, List.length_cons, List.length_nil, hro]
end Go.AM

/-! ## GV -/
namespace Go.AM
open Go Go.Proofs Go.RowKit
def ForT (x : AV) (t : TD) : Prop := PW Sub x.cells (vT t).cells
theorem ForT.leaf (k s : Int) : ForT (.ag [vi k, vi s, .nil, .nil]) (.mk k s [] []) := by
 unfold ForT; rw [vT_eq]
 exact PW.cons (Sub.refl _) (PW.cons (Sub.refl _) (PW.cons (Sub.nil 1) (PW.cons (Sub.nil 4) (PW.nil _))))
theorem ForT.leafS (k s : Int) : ForT (.ag [vi k, vi s, .nil, .sl 0 4 []]) (.mk k s [] []) := by
 unfold ForT; rw [vT_eq]
 exact PW.cons (Sub.refl _) (PW.cons (Sub.refl _) (PW.cons (Sub.nil 1) (PW.cons (Sub.refl _) (PW.nil _))))
theorem ForT.ranks (k s : Int) (l : List Int) : ForT (.ag [vi k, vi s, vs 0 l, .nil]) (.mk k s l []) := by
 unfold ForT; rw [vT_eq]
 exact PW.cons (Sub.refl _) (PW.cons (Sub.refl _) (PW.cons (Sub.refl _) (PW.cons (Sub.nil 4) (PW.nil _))))
inductive ForL : List AV → List TD → Prop
 | nil : ForL [] []
 | cons {x : AV} {t : TD} {xs : List AV} {l : List TD} : ForT x t → ForL xs l → ForL (x :: xs) (t :: l)
theorem ForL.len {xs : List AV} {l : List TD} (h : ForL xs l) : xs.length = (l.map vT).length := by
 induction h with
 | nil => rfl
 | cons _ _ ih => rw [List.length_cons, List.map_cons, List.length_cons, ih]
theorem ForL.flat {xs : List AV} {l : List TD} (h : ForL xs l) : PW Sub (AM.flat xs) (AM.flat (l.map vT)) := by
 induction h with
 | nil => exact PW.nil _
 | cons h _ ih =>
  rw [List.map_cons, flat_consL, flat_consL]
  exact PW.append h ih
theorem vT_cells (l : List TD) : ∀ y ∈ l.map vT, y.cells.length = 4 := fun y hy => by
 obtain ⟨t, _, rfl⟩ := List.mem_map.1 hy
 rw [vT_eq]; rfl
theorem ForT.parts (k s : Int) {xs : List AV} {l : List TD} (h : ForL xs l) : ForT (.ag [vi k, vi s, .nil, .sl 0 4 xs]) (.mk k s [] l) := by
 unfold ForT; rw [vT_eq]
 exact PW.cons (Sub.refl _) (PW.cons (Sub.refl _) (PW.cons (Sub.nil 1) (PW.cons (Sub.slE h.len (vT_cells l) h.flat) (PW.nil _))))
theorem ForL.rep {x : AV} {t : TD} (h : ForT x t) : ∀ n, ForL (List.replicate n x) (List.replicate n t)
 | 0 => .nil
 | n + 1 => by rw [List.replicate_succ, List.replicate_succ]; exact .cons h (ForL.rep h n)
theorem type_le {xs : List AV} {l : List TD} (h : ForL xs l) : leV (.ag [vi 3, vi 0, .nil, .sl 0 4 xs]) (vT (prodT l)) := by
 unfold prodT
 rw [vT_eq]
 exact leV_ag ⟨leV_refl _, leV_refl _, leV_nil 0 1, leV_slE h.len (vT_cells l) h.flat, trivial⟩
def nodeT (nl : Int) : Nat → TD
 | 0 => labelT nl
 | n + 1 => prodT [labelT nl, listT 5 (nodeT nl n)]
theorem nodeR_for (nl : Nat) : ∀ n, ForT (nodeR nl n) (nodeT nl n)
 | 0 => ForT.leafS 2 nl
 | n + 1 => ForT.parts 3 0 (.cons (ForT.leaf 2 nl) (.cons (ForT.parts 5 0 (.cons (nodeR_for nl n) .nil)) .nil))
theorem nodes_node (nl : Int) : ∀ n, nodesT nl (n + 1) = listT 5 (nodeT nl n)
 | 0 => rfl
 | n + 1 => by rw [nodesT, nodes_node nl n]; rfl
theorem con_rtypeOfG (m : MD) (h : SizeM m) (hb : betweenB m.kind 1 6 = true) (hlv : m.kind = 4 → 1 ≤ m.levels) : Con Tryz.prog 77 [vM m] [] fun r _ => r = vT (typeM m) := by
 have hlab : ForT (.ag [vi 2, vi m.states.length, .nil, .nil]) (labelT m.states.length) := ForT.leaf 2 _
 have fin : ∀ {xs : List AV} {l : List TD}, (Con Tryz.prog 77 [vM m] [] fun r _ => ∃ r0, r0 = (.ag [vi 3, vi 0, .nil, .sl 2 4 xs] : AV) ∧ r = r0.freeze fun _ => true) → typeM m = prodT l → ForL xs l → (.ag [vi 3, vi 0, .nil, .sl 2 4 xs] : AV).freeze (fun _ => true) = .ag [vi 3, vi 0, .nil, .sl 0 4 xs] → Con Tryz.prog 77 [vM m] [] fun r _ => r = vT (typeM m) := fun hc e hf hz =>
  hc.weak fun r b ⟨r1, h3, h6⟩ => by
   subst h3; subst h6
   refine ⟨_, rfl, ?_⟩
   rw [e, hz]
   exact type_le hf
 have e0 : ∀ k, m.kind = k → k ≠ 4 → k ≠ 5 → typeM m = prodT (labelT m.states.length :: List.replicate m.places.length (placeT m)) := fun k hk h4 h5 => by unfold typeM partsM; rw [if_neg (by omega), if_neg (by omega)]
 have ef : flatT 2 (partsP m.states.length m.places.length) = .ag [vi 3, vi 0, .nil, .sl 2 4 (.ag [vi 2, vi m.states.length, .nil, .nil] :: List.replicate m.places.length (.ag [vi 1, vi 0, .nil, .nil]))] := by
  unfold flatT partsP
  rw [List.map_cons, List.map_replicate]
  rfl
 rcases kind_cases hb with hk | hk | hk | hk | hk | hk
 ·have hc := con_rtypeOf16 m h.places (.inl hk)
  rw [ef] at hc
  refine fin (hc.freezeR fun _ => true) (e0 1 hk (by omega) (by omega)) (.cons hlab (ForL.rep (t := placeT m) ?_ _)) rfl
  unfold placeT; rw [if_neg (by omega), if_neg (by omega)]
  exact ForT.leaf 1 0
 ·refine fin ((con_rtypeOf2 m h.places hk).freezeR fun _ => true) (e0 2 hk (by omega) (by omega)) (.cons hlab (ForL.rep (t := placeT m) ?_ _)) rfl
  unfold placeT; rw [if_pos hk]
  exact ForT.parts 4 0 (.cons (ForT.leaf 2 _) .nil)
 ·refine fin ((con_rtypeOf3 m h.places h.ranks hk).freezeR fun _ => true) (e0 3 hk (by omega) (by omega)) (.cons hlab (ForL.rep (t := placeT m) ?_ _)) rfl
  unfold placeT; rw [if_neg (by omega), if_pos hk]
  exact ForT.ranks 7 _ _
 ·have hl := h.levels hk
  have h1 := hlv hk
  obtain ⟨n, hn⟩ : ∃ n : Nat, m.levels = (n + 1 : Nat) := ⟨(m.levels - 1).toNat, by omega⟩
  have e4 : typeM m = prodT [labelT m.states.length, listT 5 (nodeT m.letters.length n)] := by
   unfold typeM partsM
   rw [if_pos hk, hn, Int.toNat_natCast, nodes_node]
  exact fin ((con_rtypeOf4 m n hn (by omega) hk).freezeR fun _ => true) e4 (.cons hlab (.cons (ForT.parts 5 0 (.cons (nodeR_for _ n) .nil)) .nil)) rfl
 ·have hc := con_rtypeOf16 m h.places (.inr hk)
  rw [ef] at hc
  refine fin (hc.freezeR fun _ => true) (e0 6 hk (by omega) (by omega)) (.cons hlab (ForL.rep (t := placeT m) ?_ _)) rfl
  unfold placeT; rw [if_neg (by omega), if_neg (by omega)]
  exact ForT.leaf 1 0
 ·have e5 : typeM m = prodT [labelT m.states.length, listT 5 (prodT [labelT m.places.length, labelT (m.age + 2)])] := by
   unfold typeM partsM
   rw [if_neg (by omega), if_pos hk]
  exact fin ((con_rtypeOf5 m (by have := h.age hk; omega) hk).freezeR fun _ => true) e5 (.cons hlab (.cons (ForT.parts 5 0 (.cons (ForT.parts 3 0 (.cons (ForT.leaf 2 _) (.cons (ForT.leaf 2 _) .nil))) .nil)) .nil)) rfl
end Go.AM

/-! ## GW -/
namespace Go.AM
open Go Go.Proofs Go.RowKit
set_option maxRecDepth 100000
set_option maxHeartbeats 8000000
theorem ordI_anti (a b : Int) : ordI a b = - ordI b a := by unfold ordI; split <;> split <;> omega
mutual
theorem cmpV_anti : ∀ (a b : CV), cmpV a b = - cmpV b a
 | .mk n k, .mk m l => by
  by_cases h : n = m
  ·by_cases h2 : k.length = l.length
   ·have a : cmpV (.mk n k) (.mk m l) = cmpVs k l := by rw [cmpV, if_neg (fun h' => h' h), if_neg (fun h' => h' h2)]
    have b : cmpV (.mk m l) (.mk n k) = cmpVs l k := by rw [cmpV, if_neg (fun h' => h' h.symm), if_neg (fun h' => h' h2.symm)]
    rw [a, b, cmpVs_anti k l]
   ·have a : cmpV (.mk n k) (.mk m l) = ordI k.length l.length := by rw [cmpV, if_neg (fun h' => h' h), if_pos h2]
    have b : cmpV (.mk m l) (.mk n k) = ordI l.length k.length := by rw [cmpV, if_neg (fun h' => h' h.symm), if_pos (fun e => h2 e.symm)]
    rw [a, b, ordI_anti]
  ·have a : cmpV (.mk n k) (.mk m l) = ordI n m := by rw [cmpV, if_pos h]
   have b : cmpV (.mk m l) (.mk n k) = ordI m n := by rw [cmpV, if_pos (fun e => h e.symm)]
   rw [a, b, ordI_anti]
theorem cmpVs_anti : ∀ (k l : List CV), cmpVs k l = - cmpVs l k
 | [], [] => by simp [cmpVs]
 | [], _ :: _ => by simp [cmpVs]
 | _ :: _, [] => by simp [cmpVs]
 | x :: k, y :: l => by
  have h1 := cmpV_anti x y
  have h2 := cmpVs_anti k l
  rw [cmpVs, cmpVs]
  by_cases h : cmpV x y = 0
  ·rw [if_neg (fun h' => h' h), if_neg (fun h' => h' (by omega)), h2]
  ·rw [if_pos h, if_pos (by omega), h1]
end
theorem right_kind {d : Nat} {t : TD} (h : rightT d t = true) : t.kind = 1 ∨ t.kind = 2 ∨ t.kind = 3 ∨ t.kind = 4 ∨ t.kind = 5 ∨ t.kind = 6 ∨ t.kind = 7 := by
 cases d with
 | zero => simp [rightT] at h
 | succ d =>
  unfold rightT at h
  split at h
  ·cases h
  ·split at h
   ·omega
   ·split at h
    ·omega
    ·split at h
     ·omega
     ·split at h
      ·omega
      ·split at h
       ·omega
       ·cases h
theorem right_parts {d : Nat} {t : TD} (h : rightT d t = true) : ∀ x ∈ t.parts, rightT (d - 1) x = true := by
 cases d with
 | zero => simp [rightT] at h
 | succ d =>
  have hparts : t.parts = [] ∨ ∀ x ∈ t.parts, rightT d x = true := by
   unfold rightT at h
   split at h
   ·cases h
   ·split at h
    ·simp at h; exact .inl h.1
    ·split at h
     ·simp at h; exact .inl h.1.1
     ·split at h
      ·simp at h; exact .inl h.1.1
      ·split at h
       ·right; intro x hx; simp at h; exact h.2 x hx
       ·split at h
        ·right; intro x hx; simp at h; exact h.2 x hx
        ·cases h
  intro x hx
  rcases hparts with hp | hp
  ·rw [hp] at hx; cases hx
  ·exact hp x hx
theorem allT_bad {l : List CV} {t : TD} {i : Nat} (h : i < l.length) (hb : oneT l[i]! t = false) : allT l t = false := by
 rw [allT_any, any_bad (p := fun x => !oneT x t) h (by rw [hb]; rfl)]; rfl
theorem allT_good {l : List CV} {t : TD} (h : ∀ i, i < l.length → oneT l[i]! t = true) : allT l t = true := by
 rw [allT_any, any_ok (l := l) (p := fun x => !oneT x t) fun i hi => by rw [h i hi]; rfl]; rfl
theorem con_rnodes : ∀ (s : Nat) (v : CV) (size : Int), SizeOf.sizeOf v ≤ s → v.Ok → Con Tryz.prog 150 [vi size, vV v] [] fun r _ => r = vb (taggedV v size) := by
 intro s
 induction s with
 | zero => intro v _ hs; cases v; rw [CV.mk.sizeOf_spec] at hs; omega
 | succ s ih =>
  intro v size hs hv
  have hlen := hv.len
  rw [vV_eq, tagged_eq]
  refine Con.intro Tryz.func150 rfl Tryz.ntmps150 Tryz.results150 (by kernel_rfl) (by simp) 0 (by simp) ?_
  simp only [go_sem]
  refine LoopK.intro (fun i : Nat => ⟨30, [(0, vi size), (3, .pb 0 0), (5, vi i)], [[vi v.n, .sl 0 2 (v.kids.map vV)]]⟩)
   (fun i => v.kids.length - i) (fun i => i ≤ v.kids.length ∧ ∀ j, j < i → (!taggedV v.kids[j]! size) = false) 0 ⟨by omega, fun j hj => by omega⟩ ?_ ?_
  ·simp only [go_sem]
  rintro i ⟨hi, hj⟩
  by_cases h : i < v.kids.length
  ·have hg := getvV h
   have hw : IntKind.i64.wrap (i + 1) = i + 1 := wrap_in (by omega) (by omega)
   have hm : v.kids[i]! ∈ v.kids := mem_bangI h
   simp only [go_sem, h, hg]
   refine CallU.free (ih v.kids[i]! size (by have := kid_size hm; omega) (hv.kid hm)) (by simp only [go_sem]) (by simp only [go_sem, vV_eq]) ?_
   rintro r bx rfl
   cases hp : taggedV v.kids[i]! size
   ·have hb := any_bad (p := fun x => !taggedV x size) h (by rw [hp]; rfl)
    rw [hb]
    simp only [go_sem, Bool.not_true, Bool.and_false]
   simp only [go_sem, hw]
   refine roundK.intro (i + 1) ⟨by omega, fun j hj2 => ?_⟩ (by omega) ?_
   ·by_cases e : j = i
    ·rw [e, hp]; rfl
    ·exact hj j (by omega)
   simp only [go_sem]
  ·have hb := any_ok (l := v.kids) (p := fun x => !taggedV x size) fun j hj2 => hj j (by omega)
   rw [hb, Bool.not_false, Bool.and_true]
   by_cases h1 : 0 ≤ v.n
   ·simp only [go_sem, h, h1, decide_true, Bool.true_and]
   ·simp only [go_sem, h, h1, decide_false, Bool.false_and]
theorem con_rof : ∀ (s d : Nat) (v : CV) (t : TD), SizeOf.sizeOf v ≤ s → v.Ok → t.Ok → rightT d t = true → Con Tryz.prog 97 [vT t, vV v] [] fun r _ => r = vb (oneT v t) := by
 intro s
 induction s with
 | zero => intro d v t hs; cases v; rw [CV.mk.sizeOf_spec] at hs; omega
 | succ s ih =>
  intro d v t hs hv ht hr
  have hlen := hv.len
  have hpl := ht.plen
  have hf := right_fit d t hr
  have hkind := right_kind hr
  have e : oneT v t = if t.kind = 1 then decide (0 ≤ v.n) && decide (v.n ≤ 1048576) && v.kids.length == 0
   else if t.kind = 2 then decide (0 ≤ v.n) && decide (v.n < t.size) && v.kids.length == 0
   else if t.kind = 3 then v.n == 0 && decide (v.kids.length = t.parts.length) && zipT v.kids t.parts
   else if t.kind = 4 then v.n == 0 && decide (v.kids.length ≤ 12) && allT v.kids t.parts[0]!
   else if t.kind = 5 then v.n == 0 && decide (v.kids.length ≤ 12) && allT v.kids t.parts[0]! && sortedB v.kids
   else if t.kind = 6 then decide (countV v 12 ≤ 12) && taggedV v t.size
   else v.n == 0 && decide (v.kids.length ≤ 12) && !v.kids.any fun k => !labelB t.size k := by cases v; rw [oneT]; rfl
  have hzk : ((v.kids.length : Int) == 0) = (v.kids.length == 0) := zero_len _
  have hrec : ∀ x ∈ v.kids, ∀ p ∈ t.parts, Con Tryz.prog 97 [vT p, vV x] [] fun r _ => r = vb (oneT x p) := fun x hx p hp => ih (d - 1) x p (by have := kid_size hx; omega) (hv.kid hx) (ht.part hp) (right_parts hr p hp)
  have e0 := vV_eq v
  have e1 := vT_eq t
  rw [e, e0, e1]
  refine Con.intro Tryz.func97 rfl Tryz.ntmps97 Tryz.results97 (by kernel_rfl) (by simp) 0 (by simp) ?_
  by_cases k1 : t.kind = 1
  ·have b1 : (t.kind == 1) = true := beq_iff_eq.2 k1
   rw [if_pos k1]
   by_cases h1 : 0 ≤ v.n
   ·by_cases h2 : v.n ≤ 1048576
    ·simp only [go_sem, b1, h1, h2, hzk, List.length_map, decide_true, Bool.true_and]
    ·simp only [go_sem, b1, h1, h2, decide_true, decide_false, Bool.true_and, Bool.false_and]
   ·simp only [go_sem, b1, h1, decide_false, Bool.false_and]
  have b1 : (t.kind == 1) = false := beq_eq_false_iff_ne.2 k1
  rw [if_neg k1]
  by_cases k2 : t.kind = 2
  ·have b2 : (t.kind == 2) = true := beq_iff_eq.2 k2
   rw [if_pos k2]
   by_cases h1 : 0 ≤ v.n
   ·by_cases h2 : v.n < t.size
    ·simp only [go_sem, b1, b2, h1, h2, hzk, List.length_map, decide_true, Bool.true_and]
    ·simp only [go_sem, b1, b2, h1, h2, decide_true, decide_false, Bool.true_and, Bool.false_and]
   ·simp only [go_sem, b1, b2, h1, decide_false, Bool.false_and]
  have b2 : (t.kind == 2) = false := beq_eq_false_iff_ne.2 k2
  rw [if_neg k2]
  by_cases k6 : t.kind = 6
  ·have b6 : (t.kind == 6) = true := beq_iff_eq.2 k6
   rw [if_neg (by omega), if_neg (by omega), if_neg (by omega), if_pos k6]
   simp only [go_sem, b1, b2, b6]
   refine CallU.free (con_rcount v 12 (by omega) (by omega) hv) (by simp only [go_sem]) (by simp only [go_sem, e0]) ?_
   rintro r bx rfl
   by_cases hc : countV v 12 ≤ 12
   ·simp only [go_sem, hc]
    refine CallU.free (con_rnodes _ v t.size (Nat.le_refl _) hv) (by simp only [go_sem]) (by simp only [go_sem, e0]) ?_
    rintro r bx rfl
    simp only [go_sem, hc, decide_true, Bool.true_and]
   ·simp only [go_sem, hc, decide_false, Bool.false_and]
  have b6 : (t.kind == 6) = false := beq_eq_false_iff_ne.2 k6
  by_cases k3 : t.kind = 3
  ·have b3 : (t.kind == 3) = true := beq_iff_eq.2 k3
   rw [if_pos k3]
   cases hn : v.n == 0
   ·have hn' : (v.n != 0) = true := by unfold bne; rw [hn]; rfl
    simp only [go_sem, b1, b2, b6, b3, hn', Bool.false_and]
   have hn' : (v.n != 0) = false := by unfold bne; rw [hn]; rfl
   by_cases hl : v.kids.length = t.parts.length
   case neg =>
    have hl' : ((v.kids.length : Int) != (t.parts.length : Int)) = true := bne_iff_ne.2 (by omega)
    simp only [go_sem, b1, b2, b6, b3, hn', hl', hl, List.length_map, decide_false, Bool.and_false, Bool.false_and]
   have hl' : ((v.kids.length : Int) != (t.parts.length : Int)) = false := by rw [hl]; simp
   have hld : decide (v.kids.length = t.parts.length) = true := decide_eq_true hl
   rw [hld, Bool.true_and, Bool.true_and]
   simp only [go_sem, b1, b2, b6, b3, hn', hl', List.length_map]
   refine LoopK.intro (fun i : Nat => ⟨169, [(2, .pb 0 0), (3, .pb 1 0), (5, vi i)], [[vi t.kind, vi t.size, vs 0 t.ranks, .sl 0 4 (t.parts.map vT)], [vi v.n, .sl 0 2 (v.kids.map vV)]]⟩)
    (fun i => v.kids.length - i) (fun i => i ≤ v.kids.length ∧ ∀ j, j < i → oneT v.kids[j]! t.parts[j]! = true) 0 ⟨by omega, fun j hj => by omega⟩ ?_ ?_
   ·simp only [go_sem]
   rintro i ⟨hi, hb⟩
   by_cases h : i < v.kids.length
   ·have h2 : i < t.parts.length := by omega
    have hg := getvV h
    have hg2 := getvT h2
    have hw : IntKind.i64.wrap (i + 1) = i + 1 := wrap_in (by omega) (by omega)
    have hr := hrec _ (mem_bangI h) _ (mem_bangI h2)
    rw [vT_eq, vV_eq] at hr
    simp only [go_sem, h]
    refine DrawK.walk 12 mixed (by kernel_rfl) ?_
    simp only [go_sem, h, h2, hg, hg2]
    refine CallY.mk hr (by simp only [go_sem]) (by simp only [go_sem]) (.inl (by simp only [go_sem])) ?_
    cases hq : oneT v.kids[i]! t.parts[i]!
    ·simp only [go_sem, zipT_bad h h2 hq]
    ·simp only [go_sem, hw]
     refine roundK.intro (i + 1) ⟨by omega, fun j hj => ?_⟩ (by omega) ?_
     ·by_cases hji : j = i
      ·subst hji; exact hq
      ·exact hb j (by omega)
     ·simp only [go_sem]
   ·have ez : zipT v.kids t.parts = true := zipT_good hl fun j hj => hb j (by omega)
    simp only [go_sem, h, ez]
  have b3 : (t.kind == 3) = false := beq_eq_false_iff_ne.2 k3
  rw [if_neg k3, if_neg k6]
  cases hn : v.n == 0
  ·have hn' : (v.n != 0) = true := by unfold bne; rw [hn]; rfl
   simp only [go_sem, b1, b2, b6, b3, hn', Bool.false_and, ite_self]
  have hn' : (v.n != 0) = false := by unfold bne; rw [hn]; rfl
  by_cases h12 : v.kids.length ≤ 12
  case neg =>
   have h12' : (12 : Int) < (v.kids.length : Int) := by omega
   rw [decide_eq_false h12]
   simp only [go_sem, b1, b2, b6, b3, hn', h12', List.length_map, Bool.and_false, Bool.false_and, ite_self]
  have h12' : ¬ (12 : Int) < (v.kids.length : Int) := by omega
  rw [decide_eq_true h12, Bool.true_and, Bool.true_and]
  simp only [go_sem, b1, b2, b6, b3, hn', h12', List.length_map]
  by_cases k4 : t.kind = 4
  ·have b5 : (t.kind == 5) = false := beq_eq_false_iff_ne.2 (by omega)
   have b7 : (t.kind == 7) = false := beq_eq_false_iff_ne.2 (by omega)
   have hp1 := hf.one (.inl k4)
   have hp0 : 0 < t.parts.length := by omega
   have hg2 := getvT hp0
   rw [if_pos k4]
   refine LoopK.intro (fun i : Nat => ⟨169, [(2, .pb 0 0), (3, .pb 1 0), (6, vi i)], [[vi t.kind, vi t.size, vs 0 t.ranks, .sl 0 4 (t.parts.map vT)], [vi v.n, .sl 0 2 (v.kids.map vV)]]⟩)
    (fun i => v.kids.length - i) (fun i => i ≤ v.kids.length ∧ ∀ j, j < i → oneT v.kids[j]! t.parts[0]! = true) 0 ⟨by omega, fun j hj => by omega⟩ ?_ ?_
   ·simp only [go_sem]
   rintro i ⟨hi, hb⟩
   by_cases h : i < v.kids.length
   ·have hg := getvV h
    have hw : IntKind.i64.wrap (i + 1) = i + 1 := wrap_in (by omega) (by omega)
    have hr := hrec _ (mem_bangI h) _ (mem_bangI hp0)
    rw [vT_eq, vV_eq] at hr
    simp only [go_sem, h, b7]
    refine DrawK.walk 35 mixed (by kernel_rfl) ?_
    simp only [go_sem, h, hp0, hg, hg2]
    refine CallY.mk hr (by simp only [go_sem]) (by simp only [go_sem]) (.inl (by simp only [go_sem])) ?_
    cases hq : oneT v.kids[i]! t.parts[0]!
    ·simp only [go_sem, allT_bad h hq]
    ·simp only [go_sem, b5, hw]
     refine roundK.intro (i + 1) ⟨by omega, fun j hj => ?_⟩ (by omega) ?_
     ·by_cases hji : j = i
      ·subst hji; exact hq
      ·exact hb j (by omega)
     ·simp only [go_sem]
   ·have ez : allT v.kids t.parts[0]! = true := allT_good fun j hj => hb j (by omega)
    simp only [go_sem, h, ez]
  rw [if_neg k4]
  by_cases k5 : t.kind = 5
  ·have b5 : (t.kind == 5) = true := beq_iff_eq.2 k5
   have b7 : (t.kind == 7) = false := beq_eq_false_iff_ne.2 (by omega)
   have hp1 := hf.one (.inr k5)
   have hp0 : 0 < t.parts.length := by omega
   have hg2 := getvT hp0
   rw [if_pos k5]
   refine LoopK.intro (fun i : Nat => ⟨169, [(2, .pb 0 0), (3, .pb 1 0), (6, vi i)], [[vi t.kind, vi t.size, vs 0 t.ranks, .sl 0 4 (t.parts.map vT)], [vi v.n, .sl 0 2 (v.kids.map vV)]]⟩)
    (fun i => v.kids.length - i) (fun i => i ≤ v.kids.length ∧ ∀ j, j < i → oneT v.kids[j]! t.parts[0]! = true ∧ (j ≠ 0 → ¬ cmpV v.kids[j]! v.kids[j - 1]! < 0)) 0 ⟨by omega, fun j hj => by omega⟩ ?_ ?_
   ·simp only [go_sem]
   rintro i ⟨hi, hb⟩
   by_cases h : i < v.kids.length
   ·have hg := getvV h
    have hw : IntKind.i64.wrap (i + 1) = i + 1 := wrap_in (by omega) (by omega)
    have hr := hrec _ (mem_bangI h) _ (mem_bangI hp0)
    rw [vT_eq, vV_eq] at hr
    simp only [go_sem, h, b7]
    refine DrawK.walk 35 mixed (by kernel_rfl) ?_
    simp only [go_sem, h, hp0, hg, hg2]
    refine CallY.mk hr (by simp only [go_sem]) (by simp only [go_sem]) (.inl (by simp only [go_sem])) ?_
    cases hq : oneT v.kids[i]! t.parts[0]!
    ·simp only [go_sem, allT_bad h hq, Bool.false_and]
    by_cases h0 : 0 < i
    ·have h2 : i - 1 < v.kids.length := by omega
     have hg3 := getvV h2
     have hw2 : IntKind.i64.wrap ((i : Int) - 1) = ((i - 1 : Nat) : Int) := by rw [wrap_in (by omega) (by omega)]; omega
     have hc := con_rcompare _ v.kids[i - 1]! v.kids[i]! (Nat.le_refl _) (hv.kid (mem_bangI h2)) (hv.kid (mem_bangI h))
     rw [vV_eq v.kids[i - 1]!, vV_eq v.kids[i]!] at hc
     have han := cmpV_anti v.kids[i]! v.kids[i - 1]!
     simp only [go_sem, b5, h0, h, h2, hg, hg3, hw2]
     refine CallY.mk hc (by simp only [go_sem]) (by simp only [go_sem]) (.inl (by simp only [go_sem])) ?_
     by_cases hneg : cmpV v.kids[i]! v.kids[i - 1]! < 0
     ·have hneg' : 0 < cmpV v.kids[i - 1]! v.kids[i]! := by omega
      simp only [go_sem, hneg', sorted_bad h (by omega) hneg, Bool.and_false]
     ·have hneg' : ¬ 0 < cmpV v.kids[i - 1]! v.kids[i]! := by omega
      simp only [go_sem, hneg', hw]
      refine roundK.intro (i + 1) ⟨by omega, fun j hj => ?_⟩ (by omega) ?_
      ·by_cases hji : j = i
       ·subst hji; exact ⟨hq, fun _ => hneg⟩
       ·exact hb j (by omega)
      ·simp only [go_sem]
    ·have h0' : i = 0 := by omega
     simp only [go_sem, b5, h0, hw]
     refine roundK.intro (i + 1) ⟨by omega, fun j hj => ?_⟩ (by omega) ?_
     ·by_cases hji : j = i
      ·subst hji; exact ⟨hq, fun h => absurd h0' h⟩
      ·exact hb j (by omega)
     ·simp only [go_sem]
   ·have ez : allT v.kids t.parts[0]! = true := allT_good fun j hj => (hb j (by omega)).1
    have es : sortedB v.kids = true := sorted_good fun j hj hj0 => (hb j (by omega)).2 hj0
    simp only [go_sem, h, ez, es, Bool.true_and]
  rw [if_neg k5]
  have b7 : (t.kind == 7) = true := beq_iff_eq.2 (by omega)
  refine LoopK.intro (fun i : Nat => ⟨169, [(2, .pb 0 0), (3, .pb 1 0), (6, vi i)], [[vi t.kind, vi t.size, vs 0 t.ranks, .sl 0 4 (t.parts.map vT)], [vi v.n, .sl 0 2 (v.kids.map vV)]]⟩)
   (fun i => v.kids.length - i) (fun i => i ≤ v.kids.length ∧ ∀ j, j < i → (!labelB t.size v.kids[j]!) = false) 0 ⟨by omega, fun j hj => by omega⟩ ?_ ?_
  ·simp only [go_sem]
  rintro i ⟨hi, hb⟩
  by_cases h : i < v.kids.length
  ·have hg := getvV h
   have hw : IntKind.i64.wrap (i + 1) = i + 1 := wrap_in (by omega) (by omega)
   have hbad : labelB t.size v.kids[i]! = false → (v.kids.any fun k => !labelB t.size k) = true := fun h3 => any_bad (p := fun k => !labelB t.size k) h (by rw [h3]; rfl)
   simp only [go_sem, h, b7]
   refine DrawK.walk 28 mixed (by kernel_rfl) ?_
   simp only [go_sem, h, hg]
   by_cases h1 : v.kids[i]!.n < 0
   ·rw [hbad (by unfold labelB; rw [decide_eq_false (by omega)]; rfl)]
    simp only [go_sem, h1, Bool.not_true]
   by_cases h2 : t.size ≤ v.kids[i]!.n
   ·rw [hbad (by unfold labelB; rw [decide_eq_false (show ¬ v.kids[i]!.n < t.size by omega), Bool.and_false]; rfl)]
    simp only [go_sem, h1, h2, h, hg, Bool.not_true]
   by_cases h3 : 0 < v.kids[i]!.kids.length
   ·rw [hbad (by unfold labelB; rw [show (v.kids[i]!.kids.length == 0) = false from beq_eq_false_iff_ne.2 (by omega), Bool.and_false])]
    simp only [go_sem, h1, h2, h3, h, hg, List.length_map, Bool.not_true]
   simp only [go_sem, h1, h2, h3, h, hg, List.length_map, hw]
   refine roundK.intro (i + 1) ⟨by omega, fun j hj => ?_⟩ (by omega) ?_
   ·by_cases hji : j = i
    ·subst hji
     unfold labelB
     rw [decide_eq_true (show 0 ≤ v.kids[j]!.n by omega), decide_eq_true (show v.kids[j]!.n < t.size by omega), show (v.kids[j]!.kids.length == 0) = true from beq_iff_eq.2 (by omega)]; rfl
    ·exact hb j (by omega)
   ·simp only [go_sem]
  ·have ez : (v.kids.any fun k => !labelB t.size k) = false := any_ok (p := fun k => !labelB t.size k) fun j hj => hb j (by omega)
   simp only [go_sem, h, ez, Bool.not_false]
theorem con_rtValid (t : TD) (v : CV) (ht : t.Ok) (hv : v.Ok) : Con Tryz.prog 39 [vT t, vV v] [] fun r _ => r = vb (validV t v) := by
 have e0 := vV_eq v
 have e1 := vT_eq t
 rw [e0, e1]
 refine Con.intro Tryz.func39 rfl Tryz.ntmps39 Tryz.results39 (by kernel_rfl) (by simp) 0 (by simp) ?_
 have hc := con_rtCheckG t ht
 unfold checkT at hc
 unfold validV
 simp only [go_sem]
 refine CallU.free hc (by simp only [go_sem]) (by simp only [go_sem, e1]) ?_
 rintro r bx rfl
 cases hr : rightT 8 t
 ·simp only [go_sem, Bool.false_eq_true, if_false, Bool.false_and]
 simp only [go_sem, if_true]
 refine CallU.free (con_rcount v 128 (by omega) (by omega) hv) (by simp only [go_sem]) (by simp only [go_sem, e0]) ?_
 rintro r bx rfl
 by_cases h : countV v 128 ≤ 128
 ·simp only [go_sem, h]
  refine CallU.free (con_rof _ 8 v t (Nat.le_refl _) hv ht hr) (by simp only [go_sem]) (by simp only [go_sem, e0, e1]) ?_
  rintro r bx rfl
  simp only [go_sem, h, decide_true, Bool.true_and]
 ·simp only [go_sem, h, decide_false, Bool.true_and, Bool.false_and]
end Go.AM

/-! ## GX -/
namespace Go.AM
open Go Go.Proofs Go.RowKit
set_option maxRecDepth 100000
set_option maxHeartbeats 8000000
theorem sized_levels {m : MD} (h : sizedB m = true) : m.kind = 4 → 1 ≤ m.levels := fun hk => by
 unfold sizedB betweenB at h
 simp only [Bool.and_eq_true, decide_eq_true_eq] at h
 have h5 := h.1.2
 rw [hk] at h5
 have : lim 4 4 = 1 ∧ lim 4 5 = 2 := by decide
 omega
theorem con_rCheckG (m : MD) (h : LenM m) : Con Tryz.prog 22 [vM m] [] fun r _ => r = vi (checkF m) := by
 have e1 : vM m = .ag [vi m.kind, vss m.states, vss m.places, vss m.letters, vs 0 m.ranks, vi m.levels, vi m.age, .sl 0 14 (m.rules.map vRule), vi m.start.n, .sl 0 2 (m.start.kids.map vV)] := rfl
 have hl := names_lens h
 rw [e1]
 refine Con.intro Tryz.func22 rfl Tryz.ntmps22 Tryz.results22 (by kernel_rfl) (by simp) 0 (by simp) ?_
 unfold checkF
 simp only [go_sem, vss]
 refine CallU.free (con_rbetween m.kind 1 6) (by simp only [go_sem]) (by simp only [go_sem]) ?_
 rintro r bx rfl
 cases h1 : betweenB m.kind 1 6
 ·simp only [go_sem, if_true]
 simp only [go_sem, if_false]
 refine CallU.free (con_rnumbersG m h1) (by simp only [go_sem]) (by simp only [go_sem, vss]) ?_
 rintro r bx rfl
 cases h2 : sizedB m
 ·simp only [go_sem, if_true]
 simp only [go_sem, if_false]
 refine CallU.free (con_rranksG m h.ranks) (by simp only [go_sem]) (by simp only [go_sem, vss]) ?_
 rintro r bx rfl
 cases h3 : rankedB m
 ·simp only [go_sem, if_true]
 have hz := sized_lim h2
 have hsz := sized_size h h2 h3
 have hRM : RightM m := ⟨hl.1, hl.2.1, hl.2.2.1, fun hk => by have := hz.2.2.1 hk; omega⟩
 simp only [go_sem, if_false]
 refine CallU.free (con_rnamesG m hz.1 h.names h.sizes) (by simp only [go_sem]) (by simp only [go_sem, vss]) ?_
 rintro r bx rfl
 cases h4 : namesB (namesOf m)
 ·simp only [go_sem, if_true]
 simp only [go_sem, if_false]
 refine LoopK.intro (fun i : Nat => ⟨52, [(1, .pb 0 0), (3, vi i)], [[vi m.kind, vss m.states, vss m.places, vss m.letters, vs 0 m.ranks, vi m.levels, vi m.age, .sl 0 14 (m.rules.map vRule), vi m.start.n, .sl 0 2 (m.start.kids.map vV)]]⟩)
  (fun i => m.rules.length - i) (fun i => i ≤ m.rules.length ∧ ∀ j, j < i → (!rightR m m.rules[j]!) = false) 0 ⟨by omega, fun j hj => by omega⟩ ?_ ?_
 ·simp only [go_sem, vss]
 rintro i ⟨hi, hj⟩
 by_cases hlt : i < m.rules.length
 ·have hg := getRule hlt
  have hw : IntKind.i64.wrap (i + 1) = i + 1 := wrap_in (by omega) (by omega)
  simp only [go_sem, hlt, vss]
  refine DrawK.walk 8 mixed (by kernel_rfl) ?_
  simp only [go_sem, hlt, hg]
  refine CallY.mk (con_rrightG m m.rules[i]! hRM (h.rules _ (mem_bangI hlt)) h1 h2) (by simp only [go_sem, vss]) (by simp only [go_sem]) (.inl (by simp only [go_sem])) ?_
  cases hq : rightR m m.rules[i]!
  ·rw [any_bad (p := fun r => !rightR m r) hlt (by rw [hq]; rfl)]
   simp only [go_sem, if_true]
  simp only [go_sem, hw]
  refine roundK.intro (i + 1) ⟨by omega, fun j hj2 => ?_⟩ (by omega) ?_
  ·by_cases e : j = i
   ·rw [e, hq]; rfl
   ·exact hj j (by omega)
  simp only [go_sem]
 ·have hok := any_ok (l := m.rules) (p := fun r => !rightR m r) fun j hj2 => hj j (by omega)
  rw [hok]
  unfold beginsF
  by_cases k6 : m.kind = 6
  ·have b6 : (m.kind == 6) = true := beq_iff_eq.2 k6
   rw [if_pos k6]
   cases hn : m.start.n == 0
   ·have hn' : (m.start.n != 0) = true := by unfold bne; rw [hn]; rfl
    simp only [go_sem, hlt, b6, hn', Bool.false_and, if_true, Bool.false_eq_true, if_false]
   have hn' : (m.start.n != 0) = false := by unfold bne; rw [hn]; rfl
   by_cases hk0 : 0 < m.start.kids.length
   ·have hb : (m.start.kids.length == 0) = false := beq_eq_false_iff_ne.2 (by omega)
    simp only [go_sem, hlt, b6, hn', hk0, hb, List.length_map, Bool.and_false, if_true, Bool.false_eq_true, if_false]
   ·have hb : (m.start.kids.length == 0) = true := beq_iff_eq.2 (by omega)
    simp only [go_sem, hlt, b6, hn', hk0, hb, List.length_map, Bool.and_self, Bool.true_eq_false, Bool.false_eq_true, if_false]
  have b6 : (m.kind == 6) = false := beq_eq_false_iff_ne.2 k6
  rw [if_neg k6]
  have ct := con_rtypeOfG m hsz.1 h1 (sized_levels h2)
  have cv := con_rtValid (typeM m) m.start (type_ok hsz.1 hsz.2) h.start
  have e2 := vT_eq (typeM m)
  rw [e2] at ct cv
  rw [vV_eq] at cv
  simp only [go_sem, hlt, b6, vss]
  refine DrawK.walk 6 mixed (by kernel_rfl) ?_
  simp only [go_sem]
  refine CallY.mk ct (by simp only [go_sem, vss]) (by simp only [go_sem]) (.inl (by simp only [go_sem])) ?_
  simp only [go_sem]
  refine CallY.mk cv (by simp only [go_sem]) (by simp only [go_sem]) (.inr (by simp only [go_sem])) ?_
  cases validV (typeM m) m.start
  ·simp only [go_sem, if_true, if_false]
  ·simp only [go_sem, Bool.true_eq_false, if_false]
def zeroT : TD := .mk 0 0 [] []
def typeF (m : MD) : TD := if checkF m = 0 then typeM m else zeroT
theorem con_rTypeG (m : MD) (h : LenM m) : Con Tryz.prog 26 [vM m] [] fun r _ => r = .tup [vT (typeF m), vi (checkF m)] := by
 have e1 : vM m = .ag [vi m.kind, vss m.states, vss m.places, vss m.letters, vs 0 m.ranks, vi m.levels, vi m.age, .sl 0 14 (m.rules.map vRule), vi m.start.n, .sl 0 2 (m.start.kids.map vV)] := rfl
 have cc := con_rCheckG m h
 have key : Con Tryz.prog 26 [vM m] [] fun r _ => r = .tup [if checkF m = 0 then vT (typeM m) else .ag [vi 0, vi 0, .nil, .nil], vi (checkF m)] := by
  rw [e1]
  refine Con.intro Tryz.func26 rfl Tryz.ntmps26 Tryz.results26 (by kernel_rfl) (by simp) 0 (by simp) ?_
  simp only [go_sem, vss]
  refine CallU.free cc (by simp only [go_sem]) (by simp only [go_sem, vss]) ?_
  rintro r bx rfl
  by_cases h0 : checkF m = 0
  ·have hz := checkF_zero h0
   have hsz := sized_size h hz.2.1 hz.2.2.1
   have ct := con_rtypeOfG m hsz.1 hz.1 (sized_levels hz.2.1)
   have e2 := vT_eq (typeM m)
   rw [e2] at ct
   rw [if_pos h0, h0]
   simp only [go_sem]
   refine CallU.free ct (by simp only [go_sem]) (by simp only [go_sem, vss]) ?_
   rintro r bx rfl
   simp only [go_sem, e2]
  ·have hn : (checkF m != 0) = true := bne_iff_ne.2 h0
   rw [if_neg h0]
   simp only [go_sem, hn]
 refine key.weak fun r b hr => ⟨_, rfl, ?_⟩
 subst hr
 unfold typeF
 by_cases h0 : checkF m = 0
 ·rw [if_pos h0, if_pos h0]; exact leV_refl _
 ·rw [if_neg h0, if_neg h0, vT_eq]
  show leV _ (.tup [.ag [vi 0, vi 0, vs 0 [], .sl 0 4 []], vi (checkF m)])
  exact leV_tup ⟨leV_ag ⟨leV_refl _, leV_refl _, leV_nil 0 1, leV_nil 0 4, trivial⟩, leV_refl _, trivial⟩
end Go.AM

/-! ## GY -/
namespace Go.AM
open Go Go.Proofs Go.RowKit
set_option maxRecDepth 100000
set_option maxHeartbeats 8000000
def sameSs (a b : List ByteArray) : Bool := decide (a.length = b.length) && (List.range a.length).all fun i => a[i]!.toList == b[i]!.toList
theorem sameSs_refl (a : List ByteArray) : sameSs a a = true := by unfold sameSs; simp
theorem all_bad' {n i : Nat} {p : Nat → Bool} (h : i < n) (hb : p i = false) : (List.range n).all p = false := by
 rw [List.all_eq_false]
 exact ⟨i, List.mem_range.2 h, by rw [hb]; decide⟩
theorem all_ok' {n : Nat} {p : Nat → Bool} (h : ∀ i, i < n → p i = true) : (List.range n).all p = true := List.all_eq_true.2 fun i hi => h i (List.mem_range.1 hi)
theorem con_equalStr (a b : List ByteArray) (hl : a.length ≤ 9223372036854775806) : Con Tryz.prog 78 [vss a, vss b] [] fun r _ => r = vb (sameSs a b) := by
 refine Con.intro Tryz.func78 rfl Tryz.ntmps78 Tryz.results78 (by kernel_rfl) (by simp) 0 (by simp) ?_
 unfold sameSs
 by_cases he : a.length = b.length
 case neg =>
  have he' : ((a.length : Int) != (b.length : Int)) = true := bne_iff_ne.2 (by omega)
  rw [decide_eq_false he, Bool.false_and]
  simp only [go_sem, vss, he']
 rw [decide_eq_true he, Bool.true_and]
 have he' : ((a.length : Int) != (b.length : Int)) = false := by rw [he]; simp
 simp only [go_sem, vss, he']
 refine LoopK.intro (fun i : Nat => ⟨26, [(0, vss a), (1, vss b), (12, vi a.length), (13, vi i)], []⟩)
  (fun i => a.length - i) (fun i => i ≤ a.length ∧ ∀ j, j < i → (a[j]!.toList == b[j]!.toList) = true) 0 ⟨by omega, fun j hj => by omega⟩ ?_ ?_
 ·simp only [go_sem, vss]
  all_goals exact leV_refl _
 rintro i ⟨hi, hb⟩
 by_cases h : i < a.length
 ·have h2 : i < b.length := by omega
  have g1 := getStr h
  have g2 := getStr h2
  have hw : IntKind.i64.wrap (i + 1) = i + 1 := wrap_in (by omega) (by omega)
  simp only [go_sem, vss, h]
  refine DrawK.walk 9 mixed (by kernel_rfl) ?_
  simp only [go_sem, h, h2, g1, g2]
  cases hq : (a[i]!.toList == b[i]!.toList)
  ·rw [all_bad' (p := fun i => a[i]!.toList == b[i]!.toList) h hq]
   simp only [go_sem, Bool.not_false]
  ·simp only [go_sem, Bool.not_true, hw]
   refine roundK.intro (i + 1) ⟨by omega, fun j hj => ?_⟩ (by omega) ?_
   ·by_cases e : j = i
    ·rw [e, hq]
    ·exact hb j (by omega)
   simp only [go_sem]
 ·have hall := all_ok' (n := a.length) (p := fun i => a[i]!.toList == b[i]!.toList) fun j hj => hb j (by omega)
  rw [hall]
  simp only [go_sem, vss, h]
def sameRs (a b : List RD) : Bool := decide (a.length = b.length) && (List.range a.length).all fun i => sameB a[i]! b[i]!
theorem con_equalRules (a b : List RD) (hl : a.length ≤ 1000000) (hr : ∀ r ∈ a, r.Len) : Con Tryz.prog 80 [.sl 0 14 (a.map vRule), .sl 0 14 (b.map vRule), .fn 81 []] [] fun r _ => r = vb (sameRs a b) := by
 refine Con.intro Tryz.func80 rfl Tryz.ntmps80 Tryz.results80 (by kernel_rfl) (by simp) 0 (by simp) ?_
 unfold sameRs
 by_cases he : a.length = b.length
 case neg =>
  have he' : ((a.length : Int) != (b.length : Int)) = true := bne_iff_ne.2 (by omega)
  rw [decide_eq_false he, Bool.false_and]
  simp only [go_sem, he']
 rw [decide_eq_true he, Bool.true_and]
 have he' : ((a.length : Int) != (b.length : Int)) = false := by rw [he]; simp
 simp only [go_sem, he']
 refine LoopK.intro (fun i : Nat => ⟨32, [(0, .sl 0 14 (a.map vRule)), (1, .sl 0 14 (b.map vRule)), (2, .fn 81 []), (15, .sl 0 14 (a.map vRule)), (16, vi a.length), (17, vi i)], Rk 14 (2 * i)⟩)
  (fun i => a.length - i) (fun i => i ≤ a.length ∧ ∀ j, j < i → sameB a[j]! b[j]! = true) 0 ⟨by omega, fun j hj => by omega⟩ ?_ ?_
 ·simp only [go_sem]
  all_goals exact leB_self _
 rintro i ⟨hi, hb⟩
 by_cases h : i < a.length
 ·have h2 : i < b.length := by omega
  have g1 := getRule h
  have g2 := getRule h2
  have hw : IntKind.i64.wrap (i + 1) = i + 1 := wrap_in (by omega) (by omega)
  have hB := Rk_len 14 (2 * i)
  have n0 := fun L : List (List AV) => app_at0 (L := L) hB
  have s0 := fun (L : List (List AV)) z => app_set0 (L := L) (z := z) hB
  have n1 := fun L : List (List AV) => app_at (L := L) (i := 1) hB
  have s1 := fun (L : List (List AV)) z => app_setN (L := L) (i := 1) (z := z) hB
  simp only [go_sem, h, h2, g1, g2, hB, n0, s0, n1, s1, List.append_assoc, List.length_append, List.length_cons, List.length_nil]
  refine CallU.free (con_same a[i]! b[i]! (hr _ (mem_bangI h))) (by simp only [go_sem]) (by simp only [go_sem]) ?_
  rintro r bx rfl
  cases hq : sameB a[i]! b[i]!
  ·rw [all_bad' (p := fun i => sameB a[i]! b[i]!) h hq]
   simp only [go_sem]
  ·simp only [go_sem, hw]
   refine roundK.intro (i + 1) ⟨by omega, fun j hj => ?_⟩ (by omega) ?_
   ·by_cases e : j = i
    ·rw [e, hq]
    ·exact hb j (by omega)
   simp only [go_sem, show 2 * (i + 1) = 2 * i + 1 + 1 by omega, Rk_succ2]
   all_goals exact leB_RkA ⟨leC_any _ 14 rfl, leC_any _ 14 rfl, trivial⟩
 ·have hall := all_ok' (n := a.length) (p := fun i => sameB a[i]! b[i]!) fun j hj => hb j (by omega)
  rw [hall]
  simp only [go_sem, h]
def sameMD (a b : MD) : Bool := (a.kind == b.kind) && sameSs a.states b.states && sameSs a.places b.places && sameSs a.letters b.letters && (a.ranks == b.ranks) && (a.levels == b.levels) && (a.age == b.age) && sameRs a.rules b.rules && (cmpV a.start b.start == 0)
theorem con_SameG (a b : MD) (ha : LenM a) (hb : LenM b) : Con Tryz.prog 23 [vM a, vM b] [] fun r _ => r = vb (sameMD a b) := by
 have e1 : ∀ m : MD, vM m = .ag [vi m.kind, vss m.states, vss m.places, vss m.letters, vs 0 m.ranks, vi m.levels, vi m.age, .sl 0 14 (m.rules.map vRule), vi m.start.n, .sl 0 2 (m.start.kids.map vV)] := fun _ => rfl
 have hla := names_lens ha
 have hc := con_compare _ a.start b.start (Nat.le_refl _) ha.start hb.start
 rw [vV_eq, vV_eq] at hc
 rw [e1 a, e1 b]
 refine Con.intro Tryz.func23 rfl Tryz.ntmps23 Tryz.results23 (by kernel_rfl) (by simp) 0 (by simp) ?_
 unfold sameMD
 simp only [go_sem, vss]
 cases h1 : a.kind == b.kind
 ·simp only [go_sem, Bool.false_and]
 simp only [go_sem]
 refine CallU.free (con_equalStr a.states b.states (by omega)) (by simp only [go_sem]) (by simp only [go_sem, vss]) ?_
 rintro r bx rfl
 cases h2 : sameSs a.states b.states
 ·simp only [go_sem, Bool.false_and]
 simp only [go_sem]
 refine CallU.free (con_equalStr a.places b.places (by omega)) (by simp only [go_sem]) (by simp only [go_sem, vss]) ?_
 rintro r bx rfl
 cases h3 : sameSs a.places b.places
 ·simp only [go_sem, Bool.false_and]
 simp only [go_sem]
 refine CallU.free (con_equalStr a.letters b.letters (by omega)) (by simp only [go_sem]) (by simp only [go_sem, vss]) ?_
 rintro r bx rfl
 cases h4 : sameSs a.letters b.letters
 ·simp only [go_sem, Bool.false_and]
 simp only [go_sem]
 refine CallU.free (con_equalInt a.ranks b.ranks (by have := ha.ranks; omega)) (by simp only [go_sem]) (by simp only [go_sem]) ?_
 rintro r bx rfl
 cases h5 : a.ranks == b.ranks
 ·simp only [go_sem, Bool.false_and]
 cases h6 : a.levels == b.levels
 ·simp only [go_sem, h6, Bool.true_and, Bool.false_and]
 cases h7 : a.age == b.age
 ·simp only [go_sem, h6, h7, Bool.true_and, Bool.false_and]
 simp only [go_sem, h6, h7]
 refine CallU.free (con_equalRules a.rules b.rules (by omega) (fun r hr => (ha.rules r hr).len)) (by simp only [go_sem]) (by simp only [go_sem]) ?_
 rintro r bx rfl
 cases h8 : sameRs a.rules b.rules
 ·simp only [go_sem, Bool.false_and]
 simp only [go_sem]
 refine CallU.free hc (by simp only [go_sem]) (by simp only [go_sem]) ?_
 rintro r bx rfl
 simp only [go_sem]
theorem con_TypeG (m : MD) (h : LenM m) : Con Tryz.prog 25 [vM m] [] fun r _ => r = .tup [vT (typeF m), vi (checkF m)] := by
 have e1 : vM m = .ag [vi m.kind, vss m.states, vss m.places, vss m.letters, vs 0 m.ranks, vi m.levels, vi m.age, .sl 0 14 (m.rules.map vRule), vi m.start.n, .sl 0 2 (m.start.kids.map vV)] := rfl
 have cc := con_CheckG m h
 have key : Con Tryz.prog 25 [vM m] [] fun r _ => r = .tup [if checkF m = 0 then vT (typeM m) else .ag [vi 0, vi 0, .nil, .nil], vi (checkF m)] := by
  rw [e1]
  refine Con.intro Tryz.func25 rfl Tryz.ntmps25 Tryz.results25 (by kernel_rfl) (by simp) 0 (by simp) ?_
  simp only [go_sem, vss]
  refine CallU.free cc (by simp only [go_sem]) (by simp only [go_sem, vss]) ?_
  rintro r bx rfl
  by_cases h0 : checkF m = 0
  ·have hz := checkF_zero h0
   have hsz := sized_size h hz.2.1 hz.2.2.1
   have ct := con_typedG m hsz.1
   have e2 := vT_eq (typeM m)
   rw [e2] at ct
   rw [if_pos h0, h0]
   simp only [go_sem]
   refine CallU.free ct (by simp only [go_sem]) (by simp only [go_sem, vss]) ?_
   rintro r bx rfl
   simp only [go_sem, e2]
  ·have hn : (checkF m != 0) = true := bne_iff_ne.2 h0
   rw [if_neg h0]
   simp only [go_sem, hn]
 refine key.weak fun r b hr => ⟨_, rfl, ?_⟩
 subst hr
 unfold typeF
 by_cases h0 : checkF m = 0
 ·rw [if_pos h0, if_pos h0]; exact leV_refl _
 ·rw [if_neg h0, if_neg h0, vT_eq]
  show leV _ (.tup [.ag [vi 0, vi 0, vs 0 [], .sl 0 4 []], vi (checkF m)])
  exact leV_tup ⟨leV_ag ⟨leV_refl _, leV_refl _, leV_nil 0 1, leV_nil 0 4, trivial⟩, leV_refl _, trivial⟩
def stateF (m : MD) (c : CV) : Int × Int := if checkF m = 0 then (if validV (typeM m) c = true then (c.kids[0]!.n, 0) else (0, 17)) else (0, checkF m)
theorem valid_kids {m : MD} {c : CV} (h : validV (typeM m) c = true) : 0 < c.kids.length := by
 unfold validV at h
 rw [Bool.and_eq_true] at h
 have h2 := h.2
 obtain ⟨n, k⟩ := c
 unfold typeM prodT at h2
 rw [oneT] at h2
 have h3 : (n == 0 && decide (k.length = (partsM m).length) && zipT k (partsM m)) = true := h2
 rw [Bool.and_eq_true, Bool.and_eq_true, decide_eq_true_eq] at h3
 have : 1 ≤ (partsM m).length := by unfold partsM; rw [List.length_cons]; omega
 show 0 < k.length
 omega
theorem con_StateG (m : MD) (c : CV) (h : LenM m) (hc : c.Ok) : Con Tryz.prog 32 [vM m, vV c] [] fun r _ => r = .tup [vi (stateF m c).1, vi (stateF m c).2] := by
 have e1 : vM m = .ag [vi m.kind, vss m.states, vss m.places, vss m.letters, vs 0 m.ranks, vi m.levels, vi m.age, .sl 0 14 (m.rules.map vRule), vi m.start.n, .sl 0 2 (m.start.kids.map vV)] := rfl
 have e0 := vV_eq c
 have cc := con_CheckG m h
 rw [e0, e1]
 refine Con.intro Tryz.func32 rfl Tryz.ntmps32 Tryz.results32 (by kernel_rfl) (by simp) 0 (by simp) ?_
 unfold stateF
 simp only [go_sem, vss]
 refine CallU.free cc (by simp only [go_sem]) (by simp only [go_sem, vss]) ?_
 rintro r bx rfl
 by_cases h0 : checkF m = 0
 ·have hz := checkF_zero h0
  have hsz := sized_size h hz.2.1 hz.2.2.1
  have ct := con_typedG m hsz.1
  have cv := con_oValid (typeM m) c (type_ok hsz.1 hsz.2) hc
  have e2 := vT_eq (typeM m)
  rw [e2] at ct cv
  rw [e0] at cv
  rw [if_pos h0]
  simp only [go_sem, h0]
  refine DrawK.walk 5 mixed (by kernel_rfl) ?_
  simp only [go_sem]
  refine CallY.mk ct (by simp only [go_sem, vss]) (by simp only [go_sem]) (.inl (by simp only [go_sem])) ?_
  simp only [go_sem]
  refine CallY.mk cv (by simp only [go_sem]) (by simp only [go_sem]) (.inl (by simp only [go_sem])) ?_
  cases hv : validV (typeM m) c
  ·rw [if_neg (by decide)]
   simp only [go_sem]
  ·have hk := valid_kids hv
   have hg := getvV hk
   rw [if_pos rfl]
   simp only [go_sem, hk, hg]
 ·have hn : (checkF m != 0) = true := bne_iff_ne.2 h0
  rw [if_neg h0]
  simp only [go_sem, hn]
end Go.AM

/-! ## HC -/
namespace Go.AM
open Go Go.Proofs Go.RowKit
def zeroV : CV := .mk 0 []
end Go.AM

/-! ## CrL -/
namespace Go.AM
open Go Go.Proofs Go.RowKit
end Go.AM

/-! ## HF -/
namespace Go.AM
open Go Go.Proofs Go.RowKit
def kidZ (n : Int) : AV := .ag [vi n, .sl 0 2 []]
attribute [go_sem] kidZ
end Go.AM

/-! ## HD -/
namespace Go.AM
open Go Go.Proofs Go.RowKit
set_option maxRecDepth 100000
set_option maxHeartbeats 8000000
def ownV (t : Nat) (c : CV) : AV := .ag [vi c.n, .sl t 2 (c.kids.map vV)]
attribute [go_sem] ownV
theorem ownV_zero (c : CV) : ownV 0 c = vV c := by rw [vV_eq]; rfl
theorem Con.froz {P : Program} {f : FuncId} {args : List AV} {c : CV} (h : Con P f args [] fun r _ => r = ownV 2 c) : Con P f args [] fun r _ => r = ownV 0 c :=
 (Con.freezeR (fun _ => true) h).weak fun r b ⟨r0, h0, h1⟩ => by
  subst h0; subst h1
  exact ⟨_, rfl, leV_refl _⟩
inductive CV.Slim : CV → Prop
 | mk (n : Int) (k : List CV) : k.length ≤ 1000000 → (∀ x ∈ k, CV.Slim x) → CV.Slim (.mk n k)
theorem CV.Slim.len {a : CV} (h : a.Slim) : a.kids.length ≤ 1000000 := by cases h; assumption
theorem CV.Slim.kid {a : CV} (h : a.Slim) {x : CV} (hx : x ∈ a.kids) : x.Slim := by cases h with | mk n k _ h2 => exact h2 x hx
theorem CV.Slim.leaf (n : Int) : (CV.mk n []).Slim := .mk n [] (by simp) (fun x hx => by cases hx)
theorem con_rcopyV (c : CV) (hc : c.Slim) : Con Tryz.prog 93 [vV c] [] fun r _ => r = ownV 2 c := by
 have key : ∀ (N : Nat) (c : CV), SizeOf.sizeOf c ≤ N → c.Slim → Con Tryz.prog 93 [vV c] [] fun r _ => r = ownV 2 c := by
  intro N
  induction N with
  | zero => intro v hs; cases v; rw [CV.mk.sizeOf_spec] at hs; omega
  | succ N ih =>
   intro v hs hv
   have hlen := hv.len
   rw [vV_eq]
   refine Con.intro Tryz.func93 rfl Tryz.ntmps93 Tryz.results93 (by kernel_rfl) (by simp) 0 (by simp) ?_
   simp only [go_sem]
   refine LoopK.intro (fun i : Nat => ⟨27, [(1, .pb 0 0), (2, .pb 1 0), (3, .pb 2 0), (4, vi i)], [[vi v.n, .sl 0 2 (v.kids.map vV)], [vi 0, .nil], [vi v.n, .sl 1600 2 ((v.kids.take i).map vV)]]⟩)
    (fun i => v.kids.length - i) (fun i => i ≤ v.kids.length) 0 (by omega) ?_ ?_
   ·simp only [go_sem, List.take_zero, List.map_nil]
    all_goals exact ⟨leV_refl _, leV_nil _ _, trivial⟩
   rintro i hi
   by_cases h : i < v.kids.length
   ·have hg := getvV h
    have hw : IntKind.i64.wrap (i + 1) = i + 1 := wrap_in (by omega) (by omega)
    have hmem : v.kids[i]! ∈ v.kids := mem_bangI h
    have hsz := kid_size hmem
    have e : (v.kids.take (i + 1)).map vV = (v.kids.take i).map vV ++ [.ag [vi v.kids[i]!.n, .sl 0 2 (v.kids[i]!.kids.map vV)]] := by
     rw [← vV_eq, List.take_add_one, List.getElem?_eq_getElem h, getElem!_pos v.kids i h, List.map_append]; rfl
    simp only [go_sem, h]
    refine DrawK.walk 9 mixed (by kernel_rfl) ?_
    simp only [go_sem, h, hg]
    refine CallY.mk (Con.froz (ih v.kids[i]! (by omega) (hv.kid hmem))) (by simp only [go_sem, vV_eq]) (by simp only [go_sem]) (.inl (by simp only [go_sem])) ?_
    simp only [go_sem, hw]
    refine ⟨by simp only [roomFor, List.length_take]; omega, ?_⟩
    refine roundK.intro (i + 1) (by omega) (by omega) ?_
    simp only [go_sem, e]
   ·have e : v.kids.take i = v.kids := List.take_of_length_le (by omega)
    simp only [go_sem, h, e]
 exact key _ c (Nat.le_refl _) hc
end Go.AM
