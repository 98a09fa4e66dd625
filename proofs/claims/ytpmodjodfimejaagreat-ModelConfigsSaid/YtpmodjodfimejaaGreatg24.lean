/-
  Walks: copies of values; a state with parts (order.Copy, Copies, model.With).
  Plain laws: lists of which one element is changed.
  Walks: sorted values of any type (ref06.sorted).
  Walks: configurations made of a state and parts (model.Config, ref15.Config).
  Tables of rows of numbers: how the machine's steps turn them.
  Walks: matrices of counter models (model.Matrix, ref15.Matrix).
  Walks: the sanity check of chapter 15.
  Walks: the deck (one fixed answer each).
-/
import Derived.Test.YtpmodjodfimejaaGreatg16
import Derived.Test.YtpmodjodfimejaaGreatg23
import Derived.Test.YtpmodjodfimejaaGreatg21
/-! ## KV -/
namespace Go.AM
open Go Go.Proofs Go.RowKit
set_option maxRecDepth 100000
def vrow (l : List CV) : AV := .sl 0 2 (l.map vV)
theorem getRowV {ls : List (List CV)} {i : Nat} (h : i < ls.length) : (ls.map vrow)[i]? = some (.sl 0 2 (ls[i]!.map vV)) := by
 rw [List.getElem?_map, List.getElem?_eq_getElem h, getElem!_pos ls i h, Option.map_some]; rfl
theorem con_growVal (n : Nat) (h1 : 1 ≤ n) (h2 : n ≤ 1000000) : Con Tryz.prog 182 [.nil, vi n] [] fun r _ => r = .sl 2 2 [] := by
 refine Con.intro Tryz.func182 rfl Tryz.ntmps182 Tryz.results182 (by kernel_rfl) (by simp) 0 (by simp) ?_
 have a1 : ¬ ((n : Int) < 0) := by omega
 have a2 : (0 : Int) < (n : Int) := by omega
 have hw : IntKind.i64.wrap ((n : Int) - 0) = n := by rw [wrap_in (by omega) (by omega)]; omega
 have hz : IntKind.i64.wrap 0 = 0 := wrap_in (by omega) (by omega)
 simp only [go_sem, a1, a2, hz, hw]
 omega
theorem con_concatVal (ls : List (List CV)) (h1 : 1 ≤ ls.flatten.length) (h2 : ls.flatten.length ≤ 1000000) (hl : ls.length ≤ 1000000) : Con Tryz.prog 146 [.sl 0 1 (ls.map vrow)] [] fun r _ => r = .sl 2 2 (ls.flatten.map vV) := by
 refine Con.intro Tryz.func146 rfl Tryz.ntmps146 Tryz.results146 (by kernel_rfl) (by simp) 0 (by simp) ?_
 simp only [go_sem]
 refine LoopK.intro (fun i : Nat => ⟨36, [(0, .sl 0 1 (ls.map vrow)), (2, .nil), (3, vi (sumL ls i)), (9, .sl 0 1 (ls.map vrow)), (10, vi ls.length), (11, vi i)], []⟩)
  (fun i => ls.length - i) (fun i => i ≤ ls.length) 0 (by omega) ?_ ?_
 ·simp only [go_sem, sumL_zero]
  all_goals exact leV_refl _
 rintro i hi
 have hm := sumL_mono (ls := ls) (i := i)
 by_cases h : i < ls.length
 ·have hg := getRowV h
  have hw : IntKind.i64.wrap (i + 1) = i + 1 := wrap_in (by omega) (by omega)
  have hm2 := sumL_mono (ls := ls) (i := i + 1)
  have hs := sumL_succ h
  have hw2 : IntKind.i64.wrap ((sumL ls i : Int) + (ls[i]!.length : Int)) = (sumL ls (i + 1) : Int) := by rw [wrap_in (by omega) (by omega)]; omega
  have a1 : ¬ ((sumL ls (i + 1) : Int) < 0) := by omega
  simp only [go_sem, h, hg, hw, hw2, a1]
  refine roundK.intro (i + 1) (by omega) (by omega) ?_
  simp only [go_sem]
 ·obtain rfl : i = ls.length := by omega
  have e : sumL ls ls.length = ls.flatten.length := by unfold sumL; rw [List.take_length, ← List.length_flatten]
  simp only [go_sem, h, e]
  refine CallU.free (con_growVal ls.flatten.length h1 h2) (by simp only [go_sem]) (by simp only [go_sem]) ?_
  rintro r bx rfl
  simp only [go_sem]
  refine LoopK.intro (fun i : Nat => ⟨36, [(0, .sl 0 1 (ls.map vrow)), (2, .nil), (6, .sl 1602 2 (((ls.take i).flatten).map vV)), (25, .sl 0 1 (ls.map vrow)), (26, vi ls.length), (27, vi i)], []⟩)
   (fun i => ls.length - i) (fun i => i ≤ ls.length) 0 (by omega) ?_ ?_
  ·simp only [go_sem, List.take_zero, List.flatten_nil, List.map_nil]
   all_goals exact leV_refl _
  rintro i hi
  by_cases h : i < ls.length
  ·have hg := getRowV h
   have hw : IntKind.i64.wrap (i + 1) = i + 1 := wrap_in (by omega) (by omega)
   have hm2 := sumL_mono (ls := ls) (i := i + 1)
   have hs := sumL_succ h
   have hf := flat_succ h
   have el : (ls.take i).flatten.length = sumL ls i := by unfold sumL; rw [List.length_flatten]
   simp only [go_sem, h, hg, hw]
   refine ⟨by simp only [roomFor, el]; omega, ?_⟩
   refine roundK.intro (i + 1) (by omega) (by omega) ?_
   simp only [go_sem, hf, List.map_append]
  ·obtain rfl : i = ls.length := by omega
   simp only [go_sem, h, List.take_length]
theorem con_oCopies (l : List CV) (hl : l.length ≤ 1000000) (hk : ∀ x ∈ l, Con Tryz.prog 183 [vV x] [] fun r _ => r = ownV 2 x) : Con Tryz.prog 147 [vrow l] [] fun r _ => r = .sl 2 2 (l.map vV) := by
 unfold vrow
 refine Con.intro Tryz.func147 rfl Tryz.ntmps147 Tryz.results147 (by kernel_rfl) (by simp) 0 (by simp) ?_
 simp only [go_sem]
 refine LoopK.intro (fun i : Nat => ⟨19, [(3, .sl 1088 2 ((l.take i).map vV)), (6, .sl 0 2 (l.map vV)), (7, vi l.length), (8, vi i)], Rk 2 i⟩)
  (fun i => l.length - i) (fun i => i ≤ l.length) 0 (by omega) ?_ ?_
 ·simp only [go_sem, List.take_zero, List.map_nil]
  all_goals exact leB_self []
 rintro i hi
 have hB := Rk_len 2 i
 have n0 := fun L : List (List AV) => app_at0 (L := L) hB
 have s0 := fun (L : List (List AV)) z => app_set0 (L := L) (z := z) hB
 by_cases h : i < l.length
 ·have hg := getvV h
  have hw : IntKind.i64.wrap (i + 1) = i + 1 := wrap_in (by omega) (by omega)
  have hc := Con.froz (hk _ (mem_bangI h))
  rw [vV_eq] at hc
  have e : (l.take (i + 1)).map vV = (l.take i).map vV ++ [.ag [vi l[i]!.n, .sl 0 2 (l[i]!.kids.map vV)]] := by
   rw [← vV_eq, List.take_add_one, List.getElem?_eq_getElem h, getElem!_pos l i h, List.map_append]; rfl
  simp only [go_sem, h, hg, hB, n0, s0]
  refine CallU.free hc (by simp only [go_sem]) (by simp only [go_sem]) ?_
  rintro r bx rfl
  simp only [go_sem, hw]
  refine ⟨by simp only [roomFor, List.length_take]; omega, ?_⟩
  refine roundK.intro (i + 1) (by omega) (by omega) ?_
  simp only [go_sem, e, Rk_succ]
  all_goals exact leB_RkA ⟨leC_any _ 2 rfl, trivial⟩
 ·have e : l.take i = l := List.take_of_length_le (by omega)
  simp only [go_sem, h, e]
theorem con_oCopy : ∀ (N : Nat) (v : CV), SizeOf.sizeOf v ≤ N → v.Slim → Con Tryz.prog 183 [vV v] [] fun r _ => r = ownV 2 v := by
 intro N
 induction N with
 | zero => intro v hs; cases v; rw [CV.mk.sizeOf_spec] at hs; omega
 | succ N ih =>
  intro v hs hv
  have hc := con_oCopies v.kids hv.len fun x hx => ih x (by have := kid_size hx; omega) (hv.kid hx)
  unfold vrow at hc
  rw [vV_eq]
  refine Con.intro Tryz.func183 rfl Tryz.ntmps183 Tryz.results183 (by kernel_rfl) (by simp) 0 (by simp) ?_
  simp only [go_sem]
  refine DrawK.walk 6 mixed (by kernel_rfl) ?_
  simp only [go_sem]
  refine CallY.mk hc (by simp only [go_sem]) (by simp only [go_sem]) (.inl (by simp only [go_sem])) ?_
  simp only [go_sem]
theorem con_oCopiesG (l : List CV) (hl : l.length ≤ 1000000) (hs : ∀ x ∈ l, x.Slim) : Con Tryz.prog 147 [vrow l] [] fun r _ => r = .sl 2 2 (l.map vV) :=
 con_oCopies l hl fun x hx => con_oCopy _ x (Nat.le_refl _) (hs x hx)
def withC (s : Int) (l : List CV) : CV := .mk 0 (.mk s [] :: l)
theorem con_mWith (s : Int) (l : List CV) (hl : l.length ≤ 1000) (hs : ∀ x ∈ l, x.Slim) : Con Tryz.prog 92 [vi s, vrow l] [] fun r _ => r = ownV 2 (withC s l) := by
 have hc := con_oCopiesG l (by omega) hs
 have hcat := con_concatVal [[.mk s []], l] (by simp) (by simp; omega) (by simp)
 have e0 : [[CV.mk s []], l].flatten = .mk s [] :: l := by simp
 rw [e0] at hcat
 unfold vrow at hc ⊢
 refine Con.intro Tryz.func92 rfl Tryz.ntmps92 Tryz.results92 (by kernel_rfl) (by simp) 0 (by simp) ?_
 simp only [go_sem]
 refine CallU.free hc (by simp only [go_sem]) (by simp only [go_sem]) ?_
 rintro r bx rfl
 simp only [go_sem]
 have hle : leV (.sl 0 1 [.sl 0 2 [kidN s], vrow l]) (.sl 0 1 ([[CV.mk s []], l].map vrow)) := by
  refine leV_slE rfl (fun y hy => by
   obtain ⟨z, _, rfl⟩ := List.mem_map.1 hy
   rfl) ?_
  refine PW.cons ?_ (PW.cons (Sub.refl _) (PW.nil _))
  exact Sub.slE rfl (fun y hy => by
   obtain ⟨z, _, rfl⟩ := List.mem_map.1 hy
   rw [vV_eq]; rfl) (by
    show PW Sub (flat ([s].map kidN)) (flat (([s].map fun n => CV.mk n []).map vV))
    exact kids_pw [s])
 refine CallU.freeze (hcat.leA (args' := [.sl 0 1 [.sl 0 2 [kidN s], vrow l]]) ⟨hle, trivial⟩) (by simp only [go_sem]) (by simp only [go_sem, vrow]) ?_
 rintro r bx rfl
 simp only [go_sem, List.map_cons, vV_eq]
 show _ = AV.ag [vi 0, .sl 2 2 (vV (CV.mk s []) :: l.map vV)]
 rw [vV_eq (CV.mk s [])]
 rfl
end Go.AM

/-! ## LMod -/
namespace Go.AM
theorem mod_set {α : Type} {f : α → α} : ∀ {L : List α} {i : Nat} {a : α}, L[i]? = some a → L.modify i f = L.set i (f a)
 | [], _, _, h => by simp at h
 | x :: L, 0, a, h => by
  have : x = a := by simpa using h
  subst this; rfl
 | x :: L, i + 1, a, h => by
  have := mod_set (f := f) (L := L) (i := i) (a := a) (by simpa using h)
  rw [List.modify_succ_cons, this]; rfl
end Go.AM

/-! ## HV -/
namespace Go.AM
open Go Go.Proofs Go.RowKit
set_option maxRecDepth 100000
set_option maxHeartbeats 8000000
def blend (n i : Nat) (f g : Nat → CV) : List CV := (List.range n).map fun p => if p < i then f p else g p
theorem blend_len (n i : Nat) (f g : Nat → CV) : (blend n i f g).length = n := by simp [blend]
theorem blend_at {n i p : Nat} {f g : Nat → CV} (h : p < n) : (blend n i f g)[p]! = if p < i then f p else g p := by
 rw [getElem!_pos _ p (by rw [blend_len]; exact h)]; simp [blend]
theorem ext_bangV {l l' : List CV} (h : l.length = l'.length) (he : ∀ p, p < l.length → l[p]! = l'[p]!) : l = l' :=
 List.ext_getElem h fun p h1 h2 => by have := he p h1; rwa [getElem!_pos l p h1, getElem!_pos l' p h2] at this
theorem bang_setV {l : List CV} {q j : Nat} {x : CV} (h : q < l.length) : (l.set q x)[j]! = if j = q then x else l[j]! := by
 by_cases hj : j < l.length
 ·rw [getElem!_pos _ j (by rw [List.length_set]; exact hj), getElem!_pos l j hj, List.getElem_set]
  by_cases e : q = j
  ·subst e; simp
  ·rw [if_neg e, if_neg (fun h => e h.symm)]
 ·rw [getElem!_neg _ j (by rw [List.length_set]; exact hj), getElem!_neg l j hj, if_neg (by omega)]
theorem blend_set {n i : Nat} {f g : Nat → CV} (h : i < n) : (blend n i f g).set i (f i) = blend n (i + 1) f g := by
 refine ext_bangV (by rw [List.length_set, blend_len, blend_len]) fun p hp => ?_
 rw [List.length_set, blend_len] at hp
 rw [bang_setV (by rw [blend_len]; exact h), blend_at hp, blend_at hp]
 by_cases e : p = i
 ·subst e; rw [if_pos rfl, if_pos (by omega)]
 ·rw [if_neg e]
  by_cases h2 : p < i
  ·rw [if_pos h2, if_pos (by omega)]
  ·rw [if_neg h2, if_neg (by omega)]
theorem blend_zero {l : List CV} {f : Nat → CV} : blend l.length 0 f (fun j => l[j]!) = l := by
 refine ext_bangV (by rw [blend_len]) fun p hp => ?_
 rw [blend_len] at hp
 rw [blend_at hp, if_neg (by omega)]
theorem blend_full {n : Nat} {f g : Nat → CV} : blend n n f g = (List.range n).map f := by
 unfold blend
 refine List.map_congr_left fun p hp => ?_
 rw [if_pos (List.mem_range.1 hp)]
theorem range_map {l : List CV} {f : CV → CV} : ((List.range l.length).map fun j => f l[j]!) = l.map f := by
 refine ext_bangV (by simp) fun p hp => ?_
 rw [List.length_map, List.length_range] at hp
 rw [getElem!_pos _ p (by simpa using hp), getElem!_pos _ p (by simpa using hp), List.getElem_map, List.getElem_map, List.getElem_range, getElem!_pos l p hp]
theorem set_bangV {l : List CV} {i : Nat} (h : i < l.length) : l.set i l[i]! = l := by
 refine ext_bangV (by simp) fun p hp => ?_
 rw [bang_setV h]
 split
 ·rename_i e; rw [e]
 ·rfl
def swapV (l : List CV) (k : Nat) : List CV := (l.set (k + 1) l[k]!).set k l[k + 1]!
def sinkV : Nat → List CV → List CV
 | 0, l => l
 | k + 1, l => if cmpV l[k + 1]! l[k]! < 0 then sinkV k (swapV l k) else l
theorem swapV_len (l : List CV) (k : Nat) : (swapV l k).length = l.length := by simp [swapV]
theorem sinkV_len : ∀ (k : Nat) (l : List CV), (sinkV k l).length = l.length
 | 0, _ => rfl
 | k + 1, l => by
  unfold sinkV
  split
  ·rw [sinkV_len k, swapV_len]
  ·rfl
def isortN (l : List CV) : Nat → List CV
 | 0 => l
 | i + 1 => sinkV i (isortN l i)
theorem isortN_len (l : List CV) : ∀ i, (isortN l i).length = l.length
 | 0 => rfl
 | i + 1 => by unfold isortN; rw [sinkV_len, isortN_len l i]
def isortV (l : List CV) : List CV := isortN l l.length
theorem mem_swapV {l : List CV} {k : Nat} {x : CV} (hk : k + 1 < l.length) (h : x ∈ swapV l k) : x ∈ l := by
 unfold swapV at h
 rcases List.mem_or_eq_of_mem_set h with h | rfl
 ·rcases List.mem_or_eq_of_mem_set h with h | rfl
  ·exact h
  ·exact mem_bangI (by omega)
 ·exact mem_bangI hk
theorem mem_sinkV {x : CV} : ∀ {k : Nat} {l : List CV}, k < l.length → x ∈ sinkV k l → x ∈ l
 | 0, _, _, h => h
 | k + 1, l, hk, h => by
  unfold sinkV at h
  split at h
  ·exact mem_swapV hk (mem_sinkV (by rw [swapV_len]; omega) h)
  ·exact h
theorem mem_isortN {l : List CV} {x : CV} : ∀ {i : Nat}, i ≤ l.length → x ∈ isortN l i → x ∈ l
 | 0, _, h => h
 | i + 1, hi, h => mem_isortN (by omega) (mem_sinkV (by rw [isortN_len]; omega) h)
mutual
def srtT : CV → TD → CV
 | .mk n kids, t => .mk n (if t.kind = 5 then isortV (srtA kids t.parts[0]!) else if t.kind = 4 then srtA kids t.parts[0]! else if t.kind = 3 then srtZ kids t.parts else kids)
def srtZ : List CV → List TD → List CV
 | [], _ => []
 | x :: l, [] => x :: l
 | x :: l, t :: ts => srtT x t :: srtZ l ts
def srtA : List CV → TD → List CV
 | [], _ => []
 | x :: l, t => srtT x t :: srtA l t
end
theorem srtA_map : ∀ (l : List CV) (t : TD), srtA l t = l.map fun x => srtT x t
 | [], _ => by rw [srtA]; rfl
 | x :: l, t => by rw [srtA, srtA_map l t]; rfl
theorem srtZ_len : ∀ (l : List CV) (ts : List TD), (srtZ l ts).length = l.length
 | [], _ => by rw [srtZ]
 | x :: l, [] => by rw [srtZ]
 | x :: l, t :: ts => by rw [srtZ, List.length_cons, srtZ_len l ts]; rfl
theorem srtZ_at : ∀ {l : List CV} {ts : List TD} {j : Nat}, j < l.length → (srtZ l ts)[j]! = if j < ts.length then srtT l[j]! ts[j]! else l[j]!
 | x :: l, [], j, h => by rw [srtZ, if_neg (by simp)]
 | x :: l, t :: ts, 0, h => by rw [srtZ, if_pos (by simp)]; rfl
 | x :: l, t :: ts, j + 1, h => by
  have := srtZ_at (l := l) (ts := ts) (j := j) (by simpa using h)
  rw [srtZ]
  simpa using this
def srtF (v : CV) (t : TD) (j : Nat) : CV := if t.kind = 3 ∧ j < t.parts.length then srtT v.kids[j]! t.parts[j]! else if t.kind = 4 ∨ t.kind = 5 then srtT v.kids[j]! t.parts[0]! else v.kids[j]!
def srtK (v : CV) (t : TD) : List CV := (List.range v.kids.length).map (srtF v t)
theorem srtK_len (v : CV) (t : TD) : (srtK v t).length = v.kids.length := by simp [srtK]
theorem srtK_at {v : CV} {t : TD} {j : Nat} (h : j < v.kids.length) : (srtK v t)[j]! = srtF v t j := by
 rw [getElem!_pos _ j (by rw [srtK_len]; exact h)]; simp [srtK]
theorem srt_eq (v : CV) (t : TD) : srtT v t = .mk v.n (if t.kind = 5 then isortV (srtK v t) else srtK v t) := by
 have e : srtT v t = .mk v.n (if t.kind = 5 then isortV (srtA v.kids t.parts[0]!) else if t.kind = 4 then srtA v.kids t.parts[0]! else if t.kind = 3 then srtZ v.kids t.parts else v.kids) := by cases v; rw [srtT]; rfl
 have e45 : t.kind = 4 ∨ t.kind = 5 → srtA v.kids t.parts[0]! = srtK v t := fun h => by
  rw [srtA_map]
  unfold srtK
  rw [← range_map]
  refine List.map_congr_left fun j _ => ?_
  unfold srtF
  rw [if_neg (by omega), if_pos h]
 rw [e]
 by_cases h5 : t.kind = 5
 ·rw [if_pos h5, if_pos h5, e45 (.inr h5)]
 rw [if_neg h5, if_neg h5]
 by_cases h4 : t.kind = 4
 ·rw [if_pos h4, e45 (.inl h4)]
 rw [if_neg h4]
 by_cases h3 : t.kind = 3
 ·rw [if_pos h3]
  refine congrArg _ (ext_bangV (by rw [srtZ_len, srtK_len]) fun j hj => ?_)
  rw [srtZ_len] at hj
  rw [srtZ_at hj, srtK_at hj]
  unfold srtF
  by_cases hp : j < t.parts.length
  ·rw [if_pos hp, if_pos ⟨h3, hp⟩]
  ·rw [if_neg hp, if_neg (fun h => hp h.2), if_neg (by omega)]
 ·rw [if_neg h3]
  refine congrArg _ (ext_bangV (by rw [srtK_len]) fun j hj => ?_)
  rw [srtK_at hj]
  unfold srtF
  rw [if_neg (fun h => h3 h.1), if_neg (by omega)]
theorem CV.Slim.ok {a : CV} (h : a.Slim) : a.Ok := by
 have key : ∀ (N : Nat) (a : CV), SizeOf.sizeOf a ≤ N → a.Slim → a.Ok := by
  intro N
  induction N with
  | zero => intro a hs; cases a; rw [CV.mk.sizeOf_spec] at hs; omega
  | succ N ih =>
   intro a hs ha
   obtain ⟨n, k⟩ := a
   have hl := ha.len
   exact .mk n k (by show k.length ≤ _; have : k.length ≤ 1000000 := hl; omega) fun x hx => ih x (by have := kid_size (a := .mk n k) hx; omega) (ha.kid hx)
 exact key _ a (Nat.le_refl _) h
theorem srt_slim : ∀ (N : Nat) (v : CV) (t : TD), SizeOf.sizeOf v ≤ N → v.Slim → (srtT v t).Slim := by
 intro N
 induction N with
 | zero => intro v t hs; cases v; rw [CV.mk.sizeOf_spec] at hs; omega
 | succ N ih =>
  intro v t hs hv
  have hk : ∀ x ∈ srtK v t, x.Slim := fun x hx => by
   unfold srtK at hx
   obtain ⟨j, hj, rfl⟩ := List.mem_map.1 hx
   have hj := List.mem_range.1 hj
   have hm : v.kids[j]! ∈ v.kids := mem_bangI hj
   have hsz := kid_size hm
   unfold srtF
   split
   ·exact ih _ _ (by omega) (hv.kid hm)
   ·split
    ·exact ih _ _ (by omega) (hv.kid hm)
    ·exact hv.kid hm
  have hl := hv.len
  rw [srt_eq]
  split
  ·exact .mk _ _ (by unfold isortV; rw [isortN_len, srtK_len]; exact hl) fun x hx => hk x (mem_isortN (Nat.le_refl _) hx)
  ·exact .mk _ _ (by rw [srtK_len]; exact hl) hk
theorem modKV {L : List CV} {i : Nat} {x : CV} (h : i < L.length) : (L.map vV).modify i (updElem 0 [.sc (.int .i64 x.n), .sl 0 2 (x.kids.map vV)]) = (L.set i x).map vV := by
 have h2 : (L.map vV)[i]? = some (.ag [vi L[i]!.n, .sl 0 2 (L[i]!.kids.map vV)]) := by rw [List.getElem?_map, List.getElem?_eq_getElem h, getElem!_pos L i h, ← vV_eq]; rfl
 rw [mod_set h2, List.map_set, vV_eq x]; rfl
theorem con_rsortedG : ∀ (N d : Nat) (v : CV) (t : TD), SizeOf.sizeOf v ≤ N → v.Slim → t.Ok → rightT d t = true → Con Tryz.prog 152 [vT t, vV v] [] fun r _ => r = ownV 2 (srtT v t) := by
 intro N
 induction N with
 | zero => intro d v t hs; cases v; rw [CV.mk.sizeOf_spec] at hs; omega
 | succ N ih =>
  intro d v t hs hv ht hr
  have hlen := hv.len
  have hpl := ht.plen
  have hf := right_fit d t hr
  have hcp := con_rcopyV v hv
  have hrec : ∀ x ∈ v.kids, ∀ p ∈ t.parts, Con Tryz.prog 152 [vT p, vV x] [] fun r _ => r = ownV 0 (srtT x p) := fun x hx p hp => Con.froz (ih (d - 1) x p (by have := kid_size hx; omega) (hv.kid hx) (ht.part hp) (right_parts hr p hp))
  have e0 := vV_eq v
  have e1 := vT_eq t
  rw [e0] at hcp
  rw [e0, e1, srt_eq]
  refine Con.intro Tryz.func152 rfl Tryz.ntmps152 Tryz.results152 (by kernel_rfl) (by simp) 0 (by simp) ?_
  simp only [go_sem]
  refine CallU.free hcp (by simp only [go_sem]) (by simp only [go_sem]) ?_
  rintro r bx rfl
  obtain ⟨n, hn⟩ : ∃ n, n = v.kids.length := ⟨_, rfl⟩
  obtain ⟨g, hg⟩ : ∃ g : Nat → CV, g = fun j => v.kids[j]! := ⟨_, rfl⟩
  have b0 : v.kids = blend n 0 (srtF v t) g := by rw [hn, hg, blend_zero]
  simp only [go_sem]
  refine LoopK.intro (fun i : Nat => ⟨117, [(2, .pb 0 0), (4, .pb 2 0), (5, .pb 3 0), (6, vi i)], [[vi t.kind, vi t.size, vs 0 t.ranks, .sl 0 4 (t.parts.map vT)], [.any, .any], [.any, .any], [vi v.n, .sl 706 2 ((blend n i (srtF v t) g).map vV)]]⟩)
   (fun i => n - i) (fun i => i ≤ n) 0 (by omega) ?_ ?_
  ·rw [← b0]
   simp only [go_sem]
  rintro i hi
  have hbl := blend_len n i (srtF v t) g
  by_cases h : i < n
  ·have hw : IntKind.i64.wrap (i + 1) = i + 1 := wrap_in (by omega) (by omega)
   have hbi : i < (blend n i (srtF v t) g).length := by omega
   have hgb := getvV hbi
   have hat : (blend n i (srtF v t) g)[i]! = v.kids[i]! := by rw [blend_at h, if_neg (by omega), hg]
   have hmem : v.kids[i]! ∈ v.kids := mem_bangI (by omega)
   have hset := blend_set (f := srtF v t) (g := g) h
   rw [hat] at hgb
   by_cases k3 : t.kind = 3
   ·have b3 : (t.kind == 3) = true := beq_iff_eq.2 k3
    have b4 : (t.kind == 4) = false := by rw [k3]; rfl
    have b5 : (t.kind == 5) = false := by rw [k3]; rfl
    by_cases hp : i < t.parts.length
    ·have hg2 := getvT hp
     have hcall := hrec _ hmem _ (mem_bangI hp)
     rw [vT_eq, vV_eq] at hcall
     have hfi : srtF v t i = srtT v.kids[i]! t.parts[i]! := by unfold srtF; rw [if_pos ⟨k3, hp⟩]
     simp only [go_sem, hbl, h, b3, hp, List.length_map]
     refine DrawK.walk 14 mixed (by kernel_rfl) ?_
     simp only [go_sem, hbi, hp, hgb, hg2]
     refine CallY.mk hcall (by simp only [go_sem]) (by simp only [go_sem]) (.inl (by simp only [go_sem])) ?_
     have hm := modKV (x := srtF v t i) hbi
     rw [hset, hfi] at hm
     simp only [go_sem, hbi, hm, b4, b5, hw]
     refine roundK.intro (i + 1) (by omega) (by omega) ?_
     simp only [go_sem]
    ·have hfi : srtF v t i = v.kids[i]! := by unfold srtF; rw [if_neg (fun h => hp h.2), if_neg (by omega)]
     have hnx : blend n i (srtF v t) g = blend n (i + 1) (srtF v t) g := by
      rw [← hset, hfi, ← hat]
      exact (set_bangV hbi).symm
     simp only [go_sem, hbl, h, b3, b4, b5, hp, List.length_map, hw]
     rw [hnx]
     refine roundK.intro (i + 1) (by omega) (by omega) ?_
     simp only [go_sem]
   have b3 : (t.kind == 3) = false := beq_eq_false_iff_ne.2 k3
   by_cases k45 : t.kind = 4 ∨ t.kind = 5
   ·have hp1 := hf.one k45
    have hp : 0 < t.parts.length := by omega
    have hg2 := getvT hp
    have hcall := hrec _ hmem _ (mem_bangI hp)
    rw [vT_eq, vV_eq] at hcall
    have hfi : srtF v t i = srtT v.kids[i]! t.parts[0]! := by unfold srtF; rw [if_neg (fun h => k3 h.1), if_pos k45]
    have hm := modKV (x := srtF v t i) hbi
    rw [hset, hfi] at hm
    have b45 : (t.kind == 4) = true ∨ ((t.kind == 4) = false ∧ (t.kind == 5) = true) := by
     rcases k45 with h | h
     ·exact .inl (beq_iff_eq.2 h)
     ·exact .inr ⟨beq_eq_false_iff_ne.2 (by omega), beq_iff_eq.2 h⟩
    rcases b45 with b4 | ⟨b4, b5⟩
    ·simp only [go_sem, hbl, h, b3, b4, List.length_map]
     refine DrawK.walk 13 mixed (by kernel_rfl) ?_
     simp only [go_sem, hbi, hp, hgb, hg2]
     refine CallY.mk hcall (by simp only [go_sem]) (by simp only [go_sem]) (.inl (by simp only [go_sem])) ?_
     simp only [go_sem, hbi, hm, hw]
     refine roundK.intro (i + 1) (by omega) (by omega) ?_
     simp only [go_sem]
    ·simp only [go_sem, hbl, h, b3, b4, b5, List.length_map]
     refine DrawK.walk 13 mixed (by kernel_rfl) ?_
     simp only [go_sem, hbi, hp, hgb, hg2]
     refine CallY.mk hcall (by simp only [go_sem]) (by simp only [go_sem]) (.inl (by simp only [go_sem])) ?_
     simp only [go_sem, hbi, hm, hw]
     refine roundK.intro (i + 1) (by omega) (by omega) ?_
     simp only [go_sem]
   ·have b4 : (t.kind == 4) = false := beq_eq_false_iff_ne.2 (by omega)
    have b5 : (t.kind == 5) = false := beq_eq_false_iff_ne.2 (by omega)
    have hfi : srtF v t i = v.kids[i]! := by unfold srtF; rw [if_neg (fun h => k3 h.1), if_neg k45]
    have hnx : blend n i (srtF v t) g = blend n (i + 1) (srtF v t) g := by
     rw [← hset, hfi, ← hat]
     exact (set_bangV hbi).symm
    simp only [go_sem, hbl, h, b3, b4, b5, hw]
    rw [hnx]
    refine roundK.intro (i + 1) (by omega) (by omega) ?_
    simp only [go_sem]
  have ei : i = n := by omega
  have hfull : blend n n (srtF v t) g = srtK v t := by rw [blend_full, hn]; rfl
  rw [ei, hfull]
  have hll : ¬ n < n := by omega
  have hKl : (srtK v t).length = n := by rw [srtK_len, hn]
  have hKs : ∀ x ∈ srtK v t, x.Ok := fun x hx => by
   unfold srtK at hx
   obtain ⟨j, hj, rfl⟩ := List.mem_map.1 hx
   have hj := List.mem_range.1 hj
   have hm : v.kids[j]! ∈ v.kids := mem_bangI hj
   unfold srtF
   split
   ·exact (srt_slim _ _ _ (Nat.le_refl _) (hv.kid hm)).ok
   ·split
    ·exact (srt_slim _ _ _ (Nat.le_refl _) (hv.kid hm)).ok
    ·exact (hv.kid hm).ok
  generalize srtK v t = K at hKl hKs
  by_cases k5 : t.kind = 5
  case neg =>
   have b5 : (t.kind != 5) = true := bne_iff_ne.2 k5
   rw [if_neg k5]
   simp only [go_sem, hKl, hll, b5]
   rfl
  have b5 : (t.kind != 5) = false := by rw [k5]; rfl
  rw [if_pos k5]
  simp only [go_sem, hKl, hll, b5]
  refine LoopK.intro (fun i : Nat => ⟨117, [(4, .pb 2 0), (5, .pb 3 0), (7, vi i)], [[.any, .any, .any, .any], [.any, .any], [.any, .any], [vi v.n, .sl 706 2 ((isortN K i).map vV)]]⟩)
   (fun i => n - i) (fun i => 1 ≤ i ∧ (n = 0 ∨ i ≤ n)) 1 ⟨by omega, by omega⟩ ?_ ?_
  ·have : isortN K 1 = K := rfl
   rw [this]
   simp only [go_sem]
  rintro i ⟨hi1, hi⟩
  have hIl := isortN_len K i
  by_cases h : i < n
  case neg =>
   have ei : isortN K i = isortV K := by
    unfold isortV
    rw [hKl]
    by_cases h0 : n = 0
    ·have hk0 : K = [] := List.length_eq_zero_iff.1 (by omega)
     rw [hk0]
     have key : ∀ i, isortN [] i = [] := fun i => List.length_eq_zero_iff.1 (by rw [isortN_len]; rfl)
     rw [key, key]
    ·rw [show i = n by omega]
   have hIv : (isortV K).length = n := by rw [← ei, hIl, hKl]
   rw [ei]
   simp only [go_sem, hIv, h]
   rfl
  have hn2 : n ≤ 1000000 := by omega
  have hw : IntKind.i64.wrap (i + 1) = i + 1 := wrap_in (by omega) (by omega)
  obtain ⟨T, hT⟩ : ∃ T, T = sinkV i (isortN K i) := ⟨_, rfl⟩
  have hTn : isortN K (i + 1) = T := by rw [hT]; rfl
  have hmemK : ∀ x ∈ isortN K i, x.Ok := fun x hx => hKs x (mem_isortN (by omega) hx)
  simp only [go_sem, hIl, hKl, h]
  refine LoopK.intro (fun p : Nat × List CV => ⟨117, [(4, .pb 2 0), (5, .pb 3 0), (7, vi i), (8, vi p.1)], [[.any, .any, .any, .any], [.any, .any], [.any, .any], [vi v.n, .sl 706 2 (p.2.map vV)]]⟩)
   (fun p => p.1) (fun p => p.1 < n ∧ p.2.length = n ∧ sinkV p.1 p.2 = T ∧ ∀ x ∈ p.2, x.Ok) (i, isortN K i) ⟨h, by rw [hIl, hKl], hT.symm, hmemK⟩ ?_ ?_
  ·simp only [go_sem]
  rintro ⟨k, L⟩ ⟨g1, g2, g3, g4⟩
  simp only at g1 g2 g3 g4
  cases k with
  | zero =>
   have e : L = T := g3
   simp only [go_sem]
   refine DrawK.walk 17 mixed (by kernel_rfl) ?_
   have hz : ¬ (0 : Int) < ((0 : Nat) : Int) := by omega
   simp only [go_sem, hw]
   refine roundK.intro (i + 1) ⟨by omega, .inr (by omega)⟩ (by omega) ?_
   rw [hTn, ← e]
   simp only [go_sem]
  | succ k =>
   have h1 : k + 1 < L.length := by omega
   have h2 : k < L.length := by omega
   have hz : (0 : Int) < (k : Int) + 1 := by omega
   have hwk : IntKind.i64.wrap ((k : Int) + 1 - 1) = (k : Int) := by rw [wrap_in (by omega) (by omega)]; omega
   have ht : ((k : Int) + 1).toNat = k + 1 := by omega
   have hnn : (0 : Int) ≤ (k : Int) + 1 := by omega
   have hq : (k : Int) + 1 < (L.length : Int) := by omega
   have q1 := getvV h1
   have q2 := getvV h2
   have hc := con_rcompare _ L[k + 1]! L[k]! (Nat.le_refl _) (g4 _ (mem_bangI h1)) (g4 _ (mem_bangI h2))
   rw [vV_eq L[k + 1]!, vV_eq L[k]!] at hc
   simp only [go_sem]
   refine DrawK.walk 17 mixed (by kernel_rfl) ?_
   simp only [go_sem, hz, hwk, ht, hnn, hq, h2, q1, q2]
   refine CallY.mk hc (by simp only [go_sem]) (by simp only [go_sem]) (.inl (by simp only [go_sem])) ?_
   by_cases hneg : cmpV L[k + 1]! L[k]! < 0
   ·have e : sinkV k (swapV L k) = T := by rw [← g3]; conv => rhs; unfold sinkV; rw [if_pos hneg]
    have sl := swapV_len L k
    have hs1 := modKV (x := L[k]!) h1
    have hs2 := modKV (L := L.set (k + 1) L[k]!) (x := L[k + 1]!) (i := k) (by rw [List.length_set]; exact h2)
    have hsw : (L.set (k + 1) L[k]!).set k L[k + 1]! = swapV L k := rfl
    rw [hsw] at hs2
    have hmem' : ∀ x ∈ swapV L k, x.Ok := fun x hx => g4 x (mem_swapV h1 hx)
    simp only [go_sem, hneg]
    refine DrawK.meet ⟨117, [(4, .pb 2 0), (5, .pb 3 0), (7, vi i), (8, vi ((k : Int) + 1))], [[.any, .any, .any, .any], [.any, .any], [.any, .any], [vi v.n, .sl 706 2 ((swapV L k).map vV)]]⟩ ?_ ?_
    ·refine DrawK.effs0 0 [] [3, 5, 6] 18 (.front 18 (.one 19 (.front 20 (.one 21 .done)))) (some (4, .front 18 (.alt (.one 4 (.one 19 (.front 20 (.one 21 .done)))) (.one 19 (.one 4 (.front 20 (.one 21 .done))))))) [.any, .any, .any, .any] mixed (by kernel_rfl) (by kernel_rfl) (by simp only [go_sem]) (by simp only [go_sem]) ?_
     simp only [go_sem, hwk, ht, hnn, hq, h2, q1, q2]
     repeat' (first | with_reducible apply andK_mk | exact trivial | simp only [go_sem, hwk, ht, hnn, hq, h2, hs1, hs2, List.length_set, List.length_map])
    ·simp only [go_sem, hwk]
     refine roundK.intro (k, swapV L k) ⟨by omega, by rw [sl]; exact g2, e, hmem'⟩ (by show k < k + 1; omega) ?_
     simp only [go_sem]
   ·have e : L = T := by rw [← g3]; unfold sinkV; rw [if_neg hneg]
    simp only [go_sem, hneg, hw]
    refine roundK.intro (i + 1) ⟨by omega, .inr (by omega)⟩ (by omega) ?_
    rw [hTn, ← e]
    simp only [go_sem]
end Go.AM

/-! ## KW -/
namespace Go.AM
open Go Go.Proofs Go.RowKit
set_option maxRecDepth 100000
set_option maxHeartbeats 8000000
theorem with_slim {s : Int} {l : List CV} (hl : l.length ≤ 1000) (hs : ∀ x ∈ l, x.Slim) : (withC s l).Slim := .mk _ _ (by rw [List.length_cons]; omega) fun x hx => by
 rcases List.mem_cons.1 hx with rfl | hx
 ·exact .leaf _
 ·exact hs x hx
def noV : CV := .mk 0 []
def bigB (l : List CV) : Bool := decide (8 < l.length) || l.any fun x => decide (128 < countV x 128)
def confP (m : MD) (s : Int) (l : List CV) : CV × Int := if checkF m ≠ 0 then (noV, checkF m) else if bigB l = true then (noV, 17) else if validV (typeM m) (withC s l) = true then (withC s l, 0) else (noV, 17)
theorem con_conf1 (v : CV) (hv : v.Ok) : Con Tryz.prog 90 [vV v] [] fun r _ => r = .sc (.bool (decide (128 < countV v 128))) := by
 have e0 := vV_eq v
 have hs := con_size v hv
 rw [e0] at hs ⊢
 refine Con.intro Tryz.func90 rfl Tryz.ntmps90 Tryz.results90 (by kernel_rfl) (by simp) 0 (by simp) ?_
 simp only [go_sem]
 refine CallU.free hs (by simp only [go_sem]) (by simp only [go_sem]) ?_
 rintro r bx rfl
 simp only [go_sem]
theorem con_ConfigP (m : MD) (s : Int) (l : List CV) (h : LenM m) (hl : l.length ≤ 1000) (hs : ∀ x ∈ l, x.Slim) : Con Tryz.prog 34 [vM m, vi s, vrow l] [] fun r _ => r = .tup [ownV 0 (confP m s l).1, vi (confP m s l).2] := by
 have key : Con Tryz.prog 34 [vM m, vi s, vrow l] [] fun r _ => leV (r.freeze fun _ => true) (.tup [ownV 0 (confP m s l).1, vi (confP m s l).2]) := by
  have e1 : vM m = .ag [vi m.kind, vss m.states, vss m.places, vss m.letters, vs 0 m.ranks, vi m.levels, vi m.age, .sl 0 14 (m.rules.map vRule), vi m.start.n, .sl 0 2 (m.start.kids.map vV)] := rfl
  have cc := con_CheckG m h
  have hno : leV (.ag [vi 0, .nil]) (ownV 0 noV) := leV_ag ⟨leV_refl _, leV_nil _ _, trivial⟩
  unfold vrow
  rw [e1]
  refine Con.intro Tryz.func34 rfl Tryz.ntmps34 Tryz.results34 (by kernel_rfl) (by simp) 0 (by simp) ?_
  unfold confP
  simp only [go_sem, vss]
  refine CallU.free cc (by simp only [go_sem]) (by simp only [go_sem, vss]) ?_
  rintro r bx rfl
  by_cases h0 : checkF m = 0
  case neg =>
   have hn : (checkF m != 0) = true := bne_iff_ne.2 h0
   rw [if_pos h0]
   simp only [go_sem, hn]
   exact leV_tup ⟨hno, leV_refl _, trivial⟩
  have hn : (checkF m != 0) = false := by rw [h0]; rfl
  rw [if_neg (fun h => h h0)]
  unfold bigB
  by_cases h8 : 8 < l.length
  ·have h8' : (8 : Int) < (l.length : Int) := by omega
   rw [decide_eq_true h8, Bool.true_or, if_pos rfl]
   simp only [go_sem, hn, h8', List.length_map]
   exact leV_tup ⟨hno, leV_refl _, trivial⟩
  have h8' : ¬ (8 : Int) < (l.length : Int) := by omega
  rw [decide_eq_false h8, Bool.false_or]
  have hcon := con_containsVal l 90 [] (fun x => decide (128 < countV x 128)) rfl (fun x hx => con_conf1 x (hs x hx).ok) (by omega)
  simp only [go_sem, hn, h8', List.length_map]
  refine CallU.free hcon (by simp only [go_sem]) (by simp only [go_sem]) ?_
  rintro r bx rfl
  cases hb : l.any fun x => decide (128 < countV x 128)
  case true =>
   rw [if_pos rfl]
   simp only [go_sem]
   exact leV_tup ⟨hno, leV_refl _, trivial⟩
  rw [if_neg (by decide)]
  have hw := con_mWith s l hl hs
  unfold vrow at hw
  simp only [go_sem]
  refine CallU.free hw (by simp only [go_sem]) (by simp only [go_sem]) ?_
  rintro r bx rfl
  have hz := checkF_zero h0
  have hsz := sized_size h hz.2.1 hz.2.2.1
  have ct := con_typedG m hsz.1
  have cv := con_oValid (typeM m) (withC s l) (type_ok hsz.1 hsz.2) (with_slim hl hs).ok
  have e2 := vT_eq (typeM m)
  rw [e2] at ct cv
  rw [vV_eq] at cv
  simp only [go_sem]
  refine DrawK.freeze (fun _ => true) ?_
  simp only [go_sem]
  refine DrawK.walk 5 mixed (by kernel_rfl) ?_
  simp only [go_sem]
  refine CallY.mk ct (by simp only [go_sem, vss]) (by simp only [go_sem]) (.inl (by simp only [go_sem])) ?_
  simp only [go_sem]
  refine CallY.mk cv (by simp only [go_sem]) (by simp only [go_sem]) (.inl (by simp only [go_sem])) ?_
  cases hv : validV (typeM m) (withC s l)
  ·rw [if_neg (by decide)]
   simp only [go_sem]
   exact leV_tup ⟨hno, leV_refl _, trivial⟩
  ·rw [if_pos rfl]
   simp only [go_sem]
   exact leV_refl _
 exact (Con.freezeR (fun _ => true) key).weak fun r b ⟨r0, h0, h1⟩ => by
  subst h1
  exact ⟨_, rfl, h0⟩
end Go.AM

/-! ## KI -/
namespace Go.AM
open Go Go.Proofs Go.RowKit
def rowsT (t : Nat) (M : List (List Int)) : List AV := M.mapIdx fun i r => .sl (subT t i) 1 (r.map vi)
def vtT (t : Nat) (M : List (List Int)) : AV := .so t (rowsT t M)
attribute [go_sem] vtT
@[go_sem] theorem rowsT_len {t : Nat} {M : List (List Int)} : (rowsT t M).length = M.length := by simp [rowsT]
theorem rowsT_at {t i : Nat} {M : List (List Int)} : (rowsT t M)[i]? = (M[i]?).map fun r => .sl (subT t i) 1 (r.map vi) := by simp [rowsT, List.getElem?_mapIdx]
theorem gettT {t i : Nat} {M : List (List Int)} (h : i < M.length) : (rowsT t M)[i]? = some (.sl (subT t i) 1 (M[i]!.map vi)) := by rw [rowsT_at]; simp [h]
@[go_sem] theorem rowsT_nil {t : Nat} : rowsT t [] = [] := rfl
theorem rowsT_ext {t : Nat} {M : List (List Int)} {l : List AV} (hl : l.length = M.length) (h : ∀ i, i < M.length → l[i]? = some (.sl (subT t i) 1 (M[i]!.map vi))) : l = rowsT t M := by
 apply List.ext_getElem?
 intro i
 by_cases hi : i < M.length
 ·rw [h i hi, gettT hi]
 ·rw [List.getElem?_eq_none (by omega), List.getElem?_eq_none (by rw [rowsT_len]; omega)]
theorem rowsT_map {t t' : Nat} {M : List (List Int)} {f : AV → AV} (h : ∀ i r, f (.sl (subT t i) 1 (List.map vi r)) = .sl (subT t' i) 1 (List.map vi r)) : (rowsT t M).map f = rowsT t' M := by
 refine rowsT_ext (by simp [rowsT_len]) fun j hj => ?_
 rw [List.getElem?_map, gettT hj, Option.map_some, h]
theorem rowsT_frz {t : Nat} {M : List (List Int)} {f : AV → AV} (h : ∀ i r, f (.sl (subT t i) 1 (List.map vi r)) = .sl 0 1 (List.map vi r)) : (rowsT t M).map f = M.map (vs 0) := by
 apply List.ext_getElem?
 intro j
 rw [List.getElem?_map, rowsT_at, List.getElem?_map]
 cases M[j]? with
 | none => rfl
 | some r => simp [h, vs]
@[go_sem] theorem rowsT_ren {t : Nat} {ts : List Nat} {M : List (List Int)} (h : t < 1048576) (h2 : 2 + ts.idxOf t < 1048576) : (rowsT t M).map (renRow ts) = rowsT (2 + ts.idxOf t) M := rowsT_map fun i r => by simp only [renRow, sub_two, if_true, renT_sub h h2]
theorem rowsT_freeze {t : Nat} {p : Nat → Bool} {M : List (List Int)} (h : p (root t) = true) : (rowsT t M).map (freezeRow p) = M.map (vs 0) := rowsT_frz fun i r => by simp only [freezeRow, sub_two, root_sub, h, and_self, if_true]
@[go_sem] theorem rowsT_freezeT {t : Nat} {M : List (List Int)} : (rowsT t M).map (freezeRow fun _ => true) = M.map (vs 0) := rowsT_freeze rfl
theorem rowsT_killset {t i : Nat} {M : List (List Int)} {r : List Int} : ((rowsT t M).map (killRow (subT t i))).set i (.sl (subT t i) 1 (r.map vi)) = rowsT t (M.set i r) := by
 refine rowsT_ext (by simp [rowsT_len]) fun j hj => ?_
 rw [List.length_set] at hj
 rw [List.getElem?_set]
 by_cases h : i = j
 ·subst h
  rw [if_pos rfl, if_pos (by simp [rowsT_len]; exact hj)]
  simp [hj]
 ·rw [if_neg h, List.getElem?_map, gettT hj, Option.map_some]
  simp only [killRow, sub_sub, true_and, if_neg (Ne.symm h)]
  rw [getElem!_pos M j hj, getElem!_pos (M.set i r) j (by simpa using hj), List.getElem_set_ne h]
theorem rowsLe_nilsT {t n : Nat} : rowsLe (root t) (List.replicate n .nil) (rowsT t (List.replicate n [])) := by
 refine ⟨by simp [rowsT_len], fun j x y hx hy => ?_⟩
 have hj : j < n := by have := (List.getElem?_eq_some_iff.1 hx).1; simpa using this
 rw [gettT (by simpa using hj)] at hy
 simp only [Option.some.injEq] at hy
 simp [hj] at hx
 subst hx; subst hy
 have e : (List.replicate n ([] : List Int))[j]! = [] := by rw [getElem!_pos _ _ (by simpa using hj)]; simp
 rw [e]
 exact ⟨rfl, .inr (.inr ⟨rfl, subT t j, 1, by have := sub_big t j; omega, root_sub t j, rfl⟩)⟩
theorem rowsT_killset2 {t i : Nat} {M : List (List Int)} {r : List Int} (h : t < 1048576) : ((rowsT t M).map (killRow t ∘ killRow (subT t i))).set i (.sl (subT t i) 1 (r.map vi)) = rowsT t (M.set i r) := by
 have e : (rowsT t M).map (killRow t ∘ killRow (subT t i)) = (rowsT t M).map (killRow (subT t i)) := by
  apply List.ext_getElem?
  intro j
  simp only [List.getElem?_map, rowsT_at, Option.map_map]
  cases M[j]? with
  | none => rfl
  | some r =>
   simp only [Option.map_some, Function.comp, Option.some.injEq]
   by_cases hji : j = i
   ·subst hji; simp [killRow]
   ·simp [killRow, sub_sub, hji, sub_lit h]
 rw [e, rowsT_killset]
end Go.AM

/-! ## KM -/
namespace Go.AM
open Go Go.Proofs Go.RowKit
set_option maxRecDepth 100000
set_option maxHeartbeats 8000000
def chgOf (rs : List RD) (p : Nat) : List Int := rs.map fun r => r.give[p]! - r.need[p]!
def rowsF (np : Nat) (rs : List RD) (f : Nat → Nat) : List (List Int) := (List.range np).map fun p => chgOf (rs.take (f p)) p
theorem rowsF_len {np : Nat} {rs : List RD} {f : Nat → Nat} : (rowsF np rs f).length = np := by simp [rowsF]
theorem rowsF_at {np : Nat} {rs : List RD} {f : Nat → Nat} {p : Nat} (h : p < np) : (rowsF np rs f)[p]! = chgOf (rs.take (f p)) p := by
 rw [getElem!_pos _ p (by rw [rowsF_len]; exact h)]; simp [rowsF]
theorem rowsF_congr {np : Nat} {rs : List RD} {f g : Nat → Nat} (h : ∀ p, p < np → f p = g p) : rowsF np rs f = rowsF np rs g := by
 unfold rowsF
 refine List.map_congr_left fun p hp => ?_
 rw [h p (List.mem_range.1 hp)]
theorem rowsF_set {np : Nat} {rs : List RD} {f g : Nat → Nat} {p : Nat} (hp : p < np) (h : ∀ q, q < np → g q = if q = p then f p + 1 else f q) : (rowsF np rs f).set p (chgOf (rs.take (f p + 1)) p) = rowsF np rs g := by
 refine List.ext_getElem (by simp [rowsF]) fun q h1 h2 => ?_
 have hq : q < np := by rw [List.length_set, rowsF_len] at h1; exact h1
 have a2 : (rowsF np rs g)[q] = chgOf (rs.take (g q)) q := by rw [← getElem!_pos _ q h2, rowsF_at hq]
 have a1 : (rowsF np rs f)[q]'(by rw [rowsF_len]; exact hq) = chgOf (rs.take (f q)) q := by rw [← getElem!_pos _ q (by rw [rowsF_len]; exact hq), rowsF_at hq]
 rw [List.getElem_set, a2]
 by_cases e : p = q
 ·subst e
  rw [if_pos rfl, h p hp, if_pos rfl]
 ·rw [if_neg e, a1, h q hq, if_neg (fun h => e h.symm)]
theorem chgOf_next {rs : List RD} {k p : Nat} (h : k < rs.length) : chgOf (rs.take (k + 1)) p = chgOf (rs.take k) p ++ [rs[k]!.give[p]! - rs[k]!.need[p]!] := by
 unfold chgOf
 rw [List.take_add_one, List.getElem?_eq_getElem h, List.map_append, getElem!_pos rs k h]; rfl
def matL (m : MD) : List (List Int) := rowsF m.places.length m.rules fun _ => m.rules.length
def matF (m : MD) : List (List Int) × Int := if checkF m ≠ 0 then ([], checkF m) else if (m.kind == 1 && m.rules.all stillB && decide (0 < m.rules.length)) = true then (matL m, 0) else ([], 15)
theorem check_small {m : MD} (h0 : checkF m = 0) (hk : m.kind = 1) : ∀ r ∈ m.rules, SmallR m.places.length r := fun r hr => by
 have hz := (checkF_zero h0).2.2.2.2.1 r hr
 unfold rightR fitsR at hz
 rw [if_pos hk] at hz
 unfold changesB smallB betweenB at hz
 simp only [Bool.and_eq_true, decide_eq_true_eq, List.all_eq_true] at hz
 exact ⟨hz.1.2.1.1.1.1, hz.1.2.1.1.1.2, hz.1.2.1.1.2, hz.1.2.1.2⟩
def vmT (M : List (List Int)) : AV := .sl 0 1 (M.map (vs 0))
def outF (n i k p : Nat) : Nat := if p < i then n else if p = i then k else 0
theorem outF_step {n i k : Nat} : ∀ q, outF n i (k + 1) q = if q = i then outF n i k i + 1 else outF n i k q := fun q => by
 unfold outF
 by_cases e : q = i
 ·subst e; simp
 ·by_cases h : q < i <;> simp [e, h]
theorem outF_next {n i : Nat} : ∀ q, outF n i n q = outF n (i + 1) 0 q := fun q => by
 unfold outF
 by_cases h : q < i
 ·rw [if_pos h, if_pos (by omega)]
 ·rw [if_neg h]
  by_cases e : q = i
  ·rw [if_pos e, if_pos (by omega)]
  ·rw [if_neg e, if_neg (by omega)]; split <;> rfl
theorem rowsF_zero {np : Nat} {rs : List RD} {f : Nat → Nat} (h : ∀ p, f p = 0) : rowsF np rs f = List.replicate np [] := by
 unfold rowsF
 refine List.eq_replicate_iff.2 ⟨by simp, fun x hx => ?_⟩
 obtain ⟨p, _, rfl⟩ := List.mem_map.1 hx
 rw [h p]; rfl
@[go_sem] theorem mapB_putL_Rk {t k c n : Nat} {y : AV} : mapB (putLeaf t k y) (Rk c n) = Rk c n := mapB_Rk rfl c n
theorem con_mplainG (m : MD) (hl : m.rules.length ≤ 9223372036854775806) : Con Tryz.prog 86 [vM m] [] fun x _ => x = vb (m.kind == 1 && m.rules.all stillB) := by
 by_cases hk : m.kind = 1
 ·have hkb : (m.kind == 1) = true := beq_iff_eq.2 hk
  rw [hkb, Bool.true_and]
  exact con_mplain m hk hl
 have hkb : (m.kind == 1) = false := beq_eq_false_iff_ne.2 hk
 rw [hkb, Bool.false_and]
 refine Con.intro Tryz.func86 rfl Tryz.ntmps86 Tryz.results86 (by kernel_rfl) (by simp) 1 (by simp) ?_
 simp only [go_sem, hkb]
theorem con_MatrixP (m : MD) (h : LenM m) : Con Tryz.prog 28 [vM m] [] fun r _ => r = .tup [vmT (matF m).1, vi (matF m).2] := by
 have key : Con Tryz.prog 28 [vM m] [] fun r _ => leV (r.freeze fun _ => true) (.tup [vmT (matF m).1, vi (matF m).2]) := by
  have e1 : vM m = .ag [vi m.kind, vss m.states, vss m.places, vss m.letters, vs 0 m.ranks, vi m.levels, vi m.age, .sl 0 14 (m.rules.map vRule), vi m.start.n, .sl 0 2 (m.start.kids.map vV)] := rfl
  have cc := con_CheckG m h
  have hl := names_lens h
  rw [e1]
  refine Con.intro Tryz.func28 rfl Tryz.ntmps28 Tryz.results28 (by kernel_rfl) (by simp) 0 (by simp) ?_
  unfold matF
  simp only [go_sem, vss]
  refine CallU.free cc (by simp only [go_sem]) (by simp only [go_sem, vss]) ?_
  rintro r bx rfl
  by_cases h0 : checkF m = 0
  case neg =>
   have hn : (checkF m != 0) = true := bne_iff_ne.2 h0
   rw [if_pos h0]
   simp only [go_sem, hn]
   exact leV_tup ⟨leV_nil 0 1, leV_refl _, trivial⟩
  have hn : (checkF m != 0) = false := by rw [h0]; rfl
  rw [if_neg (fun h => h h0)]
  simp only [go_sem, hn]
  refine CallU.free (con_mplainG m (by omega)) (by simp only [go_sem]) (by simp only [go_sem, vss]) ?_
  rintro r bx rfl
  cases hst' : m.kind == 1 && m.rules.all stillB
  ·rw [Bool.false_and, if_neg (by decide)]
   simp only [go_sem]
   exact leV_tup ⟨leV_nil 0 1, leV_refl _, trivial⟩
  obtain ⟨hk, hst⟩ : m.kind = 1 ∧ m.rules.all stillB = true := by
   rw [Bool.and_eq_true, beq_iff_eq] at hst'
   exact hst'
  rw [Bool.true_and]
  by_cases hr0 : 0 < m.rules.length
  case neg =>
   have hz : m.rules.length = 0 := by omega
   rw [decide_eq_false hr0, if_neg (by decide)]
   simp only [go_sem, hz]
   exact leV_tup ⟨leV_nil 0 1, leV_refl _, trivial⟩
  have hrb : ((m.rules.length : Int) == 0) = false := beq_eq_false_iff_ne.2 (by omega)
  rw [decide_eq_true hr0, if_pos rfl]
  have hsm := check_small h0 hk
  have hpl : m.places.length ≤ 6 := by
   have := (sized_lim (checkF_zero h0).2.1)
   have h2 := (checkF_zero h0).2.1
   unfold sizedB betweenB at h2
   simp only [Bool.and_eq_true, decide_eq_true_eq] at h2
   have h3 := h2.1.1.1.2.2
   rw [hk] at h3
   have : lim 1 1 = 6 := by decide
   omega
  simp only [go_sem, hrb, List.length_map]
  refine ⟨by omega, by omega, by omega, ?_⟩
  obtain ⟨rs, ers⟩ : ∃ rs, rs = m.rules := ⟨_, rfl⟩
  obtain ⟨np, enp⟩ : ∃ np, np = m.places.length := ⟨_, rfl⟩
  obtain ⟨n, en⟩ : ∃ n, n = rs.length := ⟨_, rfl⟩
  have hmat : matL m = rowsF np rs (outF n np 0) := by
   unfold matL
   rw [ers, enp, en, ers]
   exact rowsF_congr fun p hp => by unfold outF; rw [if_pos hp]
  rw [hmat]
  rw [← ers, ← enp] at hsm ⊢
  rw [← ers] at hr0 hrb
  rw [← enp] at hpl
  have hn12 : n ≤ 1000000 := by rw [en, ers]; omega
  have hz0 : List.replicate np ([] : List Int) = rowsF np rs (outF n 0 0) := (rowsF_zero fun p => by unfold outF; rw [if_neg (by omega)]; split <;> rfl).symm
  refine LoopK.intro (fun i : Nat => ⟨62, [(1, .pb 0 0), (5, vtT 1728 (rowsF np rs (outF n i 0))), (28, vi np), (29, vi i)], [[vi m.kind, vss m.states, vss m.places, vss m.letters, vs 0 m.ranks, vi m.levels, vi m.age, .sl 0 14 (rs.map vRule), vi m.start.n, .sl 0 2 (m.start.kids.map vV)]] ++ Rk 14 (i * n)⟩)
   (fun i => np - i) (fun i => i ≤ np) 0 (by omega) ?_ ?_
  ·simp only [go_sem, vss, ← hz0, Nat.zero_mul, vtT]
   rw [List.length_replicate]
   exact ⟨⟨leV_slso (by omega) rowsLe_nilsT, leV_refl _⟩, leB_self []⟩
  rintro i hi
  by_cases hin : i < np
  case neg =>
   have ei : i = np := by omega
   rw [ei]
   have hll : ¬ np < np := by omega
   simp only [go_sem, hll]
   show leV (.tup [.sl 0 1 ((rowsT 2 (rowsF np rs (outF n np 0))).map (freezeRow fun _ => true)), vi 0]) _
   rw [rowsT_freezeT]
   exact leV_refl _
  have hw : IntKind.i64.wrap (i + 1) = i + 1 := wrap_in (by omega) (by omega)
  simp only [go_sem, hin, vss]
  refine LoopK.intro (fun k : Nat => ⟨62, [(1, .pb 0 0), (5, vtT 1728 (rowsF np rs (outF n i k))), (6, vi i), (28, vi np), (29, vi i), (33, .sl 0 14 (rs.map vRule)), (34, vi n), (35, vi k)], [[vi m.kind, vss m.states, vss m.places, vss m.letters, vs 0 m.ranks, vi m.levels, vi m.age, .sl 0 14 (rs.map vRule), vi m.start.n, .sl 0 2 (m.start.kids.map vV)]] ++ Rk 14 (i * n + k)⟩)
   (fun k => n - k) (fun k => k ≤ n) 0 (by omega) ?_ ?_
  ·simp only [go_sem, vss, en]
   all_goals exact leB_self _
  rintro k hk
  have hB := Rk_len 14 (i * n + k)
  have n0 := fun L : List (List AV) => app_at0 (L := L) hB
  have s0 := fun (L : List (List AV)) z => app_set0 (L := L) (z := z) hB
  by_cases hkn : k < n
  ·have hkr : k < rs.length := by omega
   have hg := getRule hkr
   have hwk : IntKind.i64.wrap (k + 1) = k + 1 := wrap_in (by omega) (by omega)
   have hsr := hsm _ (mem_bangI hkr)
   have l3 : i < rs[k]!.need.length := by rw [hsr.1]; exact hin
   have l4 : i < rs[k]!.give.length := by rw [hsr.2.1]; exact hin
   have g3 := getv l3
   have g4 := getv l4
   have b3 := hsr.2.2.1 _ (mem_bangI l3)
   have b4 := hsr.2.2.2 _ (mem_bangI l4)
   have hws : IntKind.i64.wrap (rs[k]!.give[i]! - rs[k]!.need[i]!) = rs[k]!.give[i]! - rs[k]!.need[i]! := wrap_in (by omega) (by omega)
   have hrl : i < (rowsF np rs (outF n i k)).length := by rw [rowsF_len]; exact hin
   have hgt := gettT (t := 1728) hrl
   have hoi : outF n i k i = k := by unfold outF; rw [if_neg (by omega), if_pos rfl]
   rw [rowsF_at hin, hoi] at hgt
   have hset := rowsF_set (rs := rs) (f := outF n i k) (g := outF n i (k + 1)) hin (fun q _ => outF_step q)
   rw [hoi] at hset
   have hnx := chgOf_next (p := i) hkr
   simp only [go_sem, vss, hkn, hkr, hg, hB, n0, s0]
   refine DrawK.front [0, 1] 18 mixed (by kernel_rfl) ?_
   simp only [go_sem, n0, hrl, hgt, l3, l4, g3, g4, hws]
   have ec : (List.map vi (chgOf (List.take k rs) i) ++ [AV.sc (Value.int IntKind.i64 (rs[k]!.give[i]! - rs[k]!.need[i]!))]) = (chgOf (List.take (k + 1) rs) i).map vi := by rw [hnx, List.map_append]; rfl
   have hcl : (chgOf (List.take k rs) i).length ≤ 1000000 := by unfold chgOf; rw [List.length_map, List.length_take]; omega
   refine ⟨by simp only [roomFor]; omega, roundK.intro (k + 1) (by omega) (by omega) ?_⟩
   rw [ec, rowsT_killset2 (t := 1728) (by omega), hset]
   simp only [go_sem, hwk, ← Nat.add_assoc, Rk_succ]
   all_goals exact leB_RkA ⟨leC_any _ 14 rfl, trivial⟩
  ·have ek : k = n := by omega
   have eo : rowsF np rs (outF n i n) = rowsF np rs (outF n (i + 1) 0) := rowsF_congr fun p _ => outF_next p
   rw [ek, eo]
   have hll : ¬ n < n := by omega
   simp only [go_sem, vss, hll, hw]
   refine roundK.intro (i + 1) (by omega) (by omega) ?_
   simp only [go_sem, Nat.succ_mul]
 exact (Con.freezeR (fun _ => true) key).weak fun r b ⟨r0, h0, h1⟩ => by
  subst h1
  exact ⟨_, rfl, h0⟩
end Go.AM

/-! ## KS -/
namespace Go.AM
open Go Go.Proofs Go.RowKit
set_option maxRecDepth 100000
set_option maxHeartbeats 8000000
def upR : RD := ⟨⟨#[117, 112]⟩, 0, 1, [1], [3], [], 0, 0, 0, [], [], [], [], 0⟩
def upM : MD := { kind := 1, states := [⟨#[97]⟩, ⟨#[98]⟩], places := [⟨#[120]⟩], rules := [upR], start := cfgC 0 [2] }
theorem up_start : (cfgC 0 [2]).Ok := .mk 0 _ (by decide) fun x hx => by
 have : x = .mk 0 [] ∨ x = .mk 2 [] := by simpa using hx
 rcases this with rfl | rfl
 ·exact .mk 0 [] (by simp) (fun x hx => by cases hx)
 ·exact .mk 2 [] (by simp) (fun x hx => by cases hx)
theorem up_len : LenM upM := ⟨by decide +kernel, by decide +kernel, by decide, fun r hr => by
 have : r = upR := by simpa [upM] using hr
 subst this
 exact ⟨⟨by decide, by decide, by decide, by decide, by decide, by decide, by decide⟩, by decide, by decide⟩, up_start⟩
theorem up_check : checkF upM = 0 := by decide +kernel
theorem up_type : (typeM upM).parts.length = 2 := by decide +kernel
theorem up_state : stateF upM (cfgC 0 [2]) = (0, 0) := by decide +kernel
theorem up_conf : confP upM 1 [.mk 7 []] = (cfgC 1 [7], 0) := by kernel_rfl
theorem up_mat : matF upM = ([[2]], 0) := by decide +kernel
theorem up_valid : confG upM (cfgC 1 [7]) = true := by decide +kernel
theorem up_same : sameMD upM upM = true := by decide +kernel
theorem up_typeF : vT (typeF upM) = .ag [vi (typeM upM).kind, vi (typeM upM).size, vs 0 (typeM upM).ranks, .sl 0 4 (vTs (typeM upM).parts)] := by
 unfold typeF
 rw [up_check, if_pos rfl]
 cases typeM upM; rfl
theorem vTs_len : ∀ l : List TD, (vTs l).length = l.length
 | [] => rfl
 | x :: l => by rw [vTs, List.length_cons, List.length_cons, vTs_len l]
theorem up_thin : leV (.ag [vi 1, vss upM.states, vss upM.places, .nil, .nil, vi 0, vi 0, .sl 0 14 [ruleN upR], vi 0, .sl 0 2 [kidN 0, kidN 2]]) (vM upM) := by
 have hg : leV (.sl 0 14 [ruleN upR]) (.sl 0 14 (upM.rules.map vRule)) := leV_slE (by decide) (fun y hy => by obtain ⟨x, _, rfl⟩ := List.mem_map.1 hy; rfl) (rules_pw [upR] fun r hr => by
   have : r = upR := by simpa using hr
   subst this; rfl)
 have hc := cfg_le 0 [2]
 rw [vV_eq] at hc
 exact leV_ag ⟨leV_refl _, leV_refl _, leV_refl _, leV_nil 0 1, leV_nil 0 1, leV_refl _, leV_refl _, hg, leV_refl _, leV_slE (by decide) (fun y hy => by
  obtain ⟨x, _, rfl⟩ := List.mem_map.1 hy
  rw [vV_eq]; rfl) (kids_pw [0, 2]), trivial⟩
theorem con_sane15 : Con Tryz.prog 13 [] [] fun r _ => r = vb true := by
 refine Con.intro Tryz.func13 rfl Tryz.ntmps13 Tryz.results13 (by kernel_rfl) (by simp) 0 (by simp) ?_
 have hs7 : ∀ x ∈ [CV.mk 7 []], x.Slim := fun x hx => by
  have : x = .mk 7 [] := by simpa using hx
  subst this; exact CV.Slim.leaf 7
 have hok7 : (cfgC 1 [7]).Ok := .mk 0 _ (by decide) fun x hx => by
  have : x = .mk 1 [] ∨ x = .mk 7 [] := by simpa using hx
  rcases this with rfl | rfl
  ·exact .mk 1 [] (by simp) (fun x hx => by cases hx)
  ·exact .mk 7 [] (by simp) (fun x hx => by cases hx)
 have hT := con_TypeG upM up_len
 rw [up_check, up_typeF] at hT
 have hS := con_StateG upM (cfgC 0 [2]) up_len up_start
 rw [up_state] at hS
 have hC := con_ConfigP upM 1 [.mk 7 []] up_len (by decide) hs7
 rw [up_conf] at hC
 have e7 : ownV 0 (cfgC 1 [7]) = .ag [vi 0, .sl 0 2 [.ag [vi 1, .sl 0 2 []], .ag [vi 7, .sl 0 2 []]]] := by
  show AV.ag [vi 0, .sl 0 2 [vV (.mk 1 []), vV (.mk 7 [])]] = _
  rw [vV_eq, vV_eq]; rfl
 rw [e7] at hC
 have hX := con_MatrixP upM up_len
 rw [up_mat] at hX
 have hK := con_CheckG upM up_len
 rw [up_check] at hK
 have hV := con_ValidG upM (cfgC 1 [7]) up_len hok7
 rw [up_valid] at hV
 have hE := con_SameG upM upM up_len up_len
 rw [up_same] at hE
 have hpl := up_type
 have hvl := vTs_len (typeM upM).parts
 rw [hpl] at hvl
 generalize vTs (typeM upM).parts = ps at hT hvl
 generalize (typeM upM).kind = tk at hT
 generalize (typeM upM).size = ts at hT
 generalize (typeM upM).ranks = tr at hT
 generalize eT : AV.ag [vi 1, vss upM.states, vss upM.places, .nil, .nil, vi 0, vi 0, .sl 0 14 [ruleN upR], vi 0, .sl 0 2 [kidN 0, kidN 2]] = thinA
 have hth := up_thin
 rw [eT] at hth
 simp only [go_sem]
 refine CallU.freeze (hT.leA (args' := [thinA]) ⟨hth, trivial⟩) (by simp only [go_sem]) (by rw [← eT]; simp only [go_sem, vss, upM, upR, List.map_cons, List.map_nil]) ?_
 rintro r bx rfl
 simp only [go_sem]
 refine CallU.freeze (hS.leA (args' := [thinA, cfgN 0 0 [2]]) ⟨hth, cfg_le 0 [2], trivial⟩) (by simp only [go_sem]) (by rw [← eT]; simp only [go_sem, vss, upM, upR, List.map_cons, List.map_nil]) ?_
 rintro r bx rfl
 simp only [go_sem]
 have h7 : leV (.sl 0 2 [kidN 7]) (vrow [.mk 7 []]) := leV_slE (by decide) (fun y hy => by
  obtain ⟨x, _, rfl⟩ := List.mem_map.1 hy
  rw [vV_eq]; rfl) (kids_pw [7])
 refine CallU.freeze (hC.leA (args' := [thinA, vi 1, .sl 0 2 [kidN 7]]) ⟨hth, leV_refl _, h7, trivial⟩) (by simp only [go_sem]) (by rw [← eT]; simp only [go_sem, vss, upM, upR, List.map_cons, List.map_nil]) ?_
 rintro r bx rfl
 simp only [go_sem]
 refine CallU.freeze (hX.leA (args' := [thinA]) ⟨hth, trivial⟩) (by simp only [go_sem]) (by rw [← eT]; simp only [go_sem, vss, upM, upR, List.map_cons, List.map_nil]) ?_
 rintro r bx rfl
 simp only [go_sem, vmT, List.map_cons, List.map_nil]
 refine CallU.freeze (hK.leA (args' := [thinA]) ⟨hth, trivial⟩) (by simp only [go_sem]) (by rw [← eT]; simp only [go_sem, vss, upM, upR, List.map_cons, List.map_nil]) ?_
 rintro r bx rfl
 simp only [go_sem, hvl]
 refine CallU.freeze (hV.leA (args' := [thinA, .ag [vi 0, .sl 0 2 [.ag [vi 1, .sl 0 2 []], .ag [vi 7, .sl 0 2 []]]]]) ⟨hth, (by rw [← e7, ownV_zero]; exact leV_refl _), trivial⟩) (by simp only [go_sem]) (by rw [← eT]; simp only [go_sem, vss, upM, upR, List.map_cons, List.map_nil]) ?_
 rintro r bx rfl
 simp only [go_sem]
 refine CallU.freeze (hE.leA (args' := [thinA, thinA]) ⟨hth, hth, trivial⟩) (by simp only [go_sem]) (by rw [← eT]; simp only [go_sem, vss, upM, upR, List.map_cons, List.map_nil]) ?_
 rintro r bx rfl
 simp only [go_sem]
end Go.AM

/-! ## HA -/
namespace Go.AM
open Go Go.Proofs Go.RowKit
set_option maxRecDepth 100000
abbrev DS := Nat × Int
def deckA (l : List Int) (s : DS) : List AV := [.sl 0 1 (l.map vi), .sc (.int .i64 s.1), .sc (.int .u64 s.2)]
attribute [go_sem] deckA
def Dk (l : List Int) (s : DS) : Prop := s.1 ≤ l.length ∧ l.length ≤ 1000
theorem con_dNew (l : List Int) : Con Tryz.prog 17 [vs 0 l] [] fun r b => r = .pb 0 0 ∧ b = [deckA l (0, 11400714819323198485)] := by
 refine Con.intro Tryz.func17 rfl Tryz.ntmps17 Tryz.results17 (by kernel_rfl) (by simp) 1 (by simp) ?_
 simp only [go_sem]
theorem u64_range (x : Int) : 0 ≤ IntKind.u64.wrap x ∧ IntKind.u64.wrap x < 18446744073709551616 := by
 rw [IntKind.wrap_u64]; omega
def longX (l : List Int) (s : DS) : Int := if s.1 < l.length then IntKind.u64.wrap l[s.1]! else 0
def longT (l : List Int) (s : DS) : Int := IntKind.u64.wrap (IntKind.u64.wrap (IntKind.u64.wrap (s.2 + longX l s) * 6364136223846793005) + 1442695040888963407)
def longS (l : List Int) (s : DS) : DS := (if s.1 < l.length then s.1 + 1 else s.1, longT l s)
def mixX (x : Int) (k : Nat) : Int := IntKind.u64.wrap (BitVec.ofInt 64 x ^^^ BitVec.ofInt 64 (x.fdiv (2 ^ min k 64))).toNat
def longV (l : List Int) (s : DS) : Int := mixX (IntKind.u64.wrap (mixX (longT l s) 33 * 18397679294719823053)) 29
theorem longV_range (l : List Int) (s : DS) : 0 ≤ longV l s ∧ longV l s < 18446744073709551616 := u64_range _
theorem con_dLong (l : List Int) (s : DS) (h : Dk l s) : Con Tryz.prog 58 [.pb 0 0] [deckA l s]
  fun r b => r = .sc (.int .u64 (longV l s)) ∧ b = [deckA l (longS l s)] := by
 refine Con.intro Tryz.func58 rfl Tryz.ntmps58 Tryz.results58 (by kernel_rfl) (by simp) 1 (by simp) ?_
 obtain ⟨at_, st⟩ := s
 obtain ⟨ha, hl⟩ := h
 simp only at ha
 by_cases h : at_ < l.length
 ·simp only [go_sem]
  refine DrawK.walk 10 mixed (by kernel_rfl) ?_
  have hg := getv h
  have hw : IntKind.i64.wrap (at_ + 1) = at_ + 1 := wrap_in (by omega) (by omega)
  simp only [go_sem, h]
  refine DrawK.walk 12 mixed (by kernel_rfl) ?_
  simp only [go_sem, h, hg, hw]
  refine DrawK.walk 11 mixed (by kernel_rfl) ?_
  simp only [go_sem, longV, mixX, longS, longT, longX, h]
  rfl
 ·simp only [go_sem]
  refine DrawK.walk 10 mixed (by kernel_rfl) ?_
  simp only [go_sem, h]
  refine DrawK.walk 11 mixed (by kernel_rfl) ?_
  simp only [go_sem, longV, mixX, longS, longT, longX, h]
  rfl
end Go.AM
