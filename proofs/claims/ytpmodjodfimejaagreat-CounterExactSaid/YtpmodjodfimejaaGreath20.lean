/- HV KW KI KM KS VW HW0 HW HX HY HL HZ0 -/
import Derived.Test.YtpmodjodfimejaaGreath8
import Derived.Test.YtpmodjodfimejaaGreath19
import Derived.Test.YtpmodjodfimejaaGreath7
import Derived.Test.YtpmodjodfimejaaGreath13
import Derived.Test.YtpmodjodfimejaaGreath9
namespace Go.AM
open Go Go.Proofs Go.RowKit
set_option maxRecDepth 100000
set_option maxHeartbeats 8000000
def blend (n i : Nat) (f g : Nat -> CV) : List CV := (List.range n).map fun p => if p < i then f p else g p
theorem blend_len (n i : Nat) (f g : Nat -> CV) : (blend n i f g).length = n := by simp [blend]
theorem blend_at {n i p : Nat} {f g : Nat -> CV} (h : p < n) : (blend n i f g)[p]! = if p < i then f p else g p := by
 rw [getElem!_pos _ p (by rw [blend_len]; exact h)]; simp [blend]
theorem ext_bangV {l l' : List CV} (h : l.length = l'.length) (he : ∀ p, p < l.length -> l[p]! = l'[p]!) : l = l' :=
 List.ext_getElem h fun p h1 h2 => by have := he p h1; rwa [getElem!_pos l p h1, getElem!_pos l' p h2] at this
theorem bang_setV {l : List CV} {q j : Nat} {x : CV} (h : q < l.length) : (l.set q x)[j]! = if j = q then x else l[j]! := by
 by_cases hj : j < l.length
 ·rw [getElem!_pos _ j (by rw [List.length_set]; exact hj), getElem!_pos l j hj, List.getElem_set]
  by_cases e : q = j
  ·subst e; simp
  ·rw [if_neg e, if_neg (fun h => e h.symm)]
 ·rw [getElem!_neg _ j (by rw [List.length_set]; exact hj), getElem!_neg l j hj, if_neg (by omega)]
theorem blend_set {n i : Nat} {f g : Nat -> CV} (h : i < n) : (blend n i f g).set i (f i) = blend n (i + 1) f g := by
 refine ext_bangV (by rw [List.length_set, blend_len, blend_len]) fun p hp => ?_
 rw [List.length_set, blend_len] at hp
 rw [bang_setV (by rw [blend_len]; exact h), blend_at hp, blend_at hp]
 by_cases e : p = i
 ·subst e; rw [if_pos rfl, if_pos (by omega)]
 ·rw [if_neg e]
  by_cases h2 : p < i
  ·rw [if_pos h2, if_pos (by omega)]
  ·rw [if_neg h2, if_neg (by omega)]
theorem blend_zero {l : List CV} {f : Nat -> CV} : blend l.length 0 f (fun j => l[j]!) = l := by
 refine ext_bangV (by rw [blend_len]) fun p hp => ?_
 rw [blend_len] at hp
 rw [blend_at hp, if_neg (by omega)]
theorem blend_full {n : Nat} {f g : Nat -> CV} : blend n n f g = (List.range n).map f := by
 unfold blend
 refine List.map_congr_left fun p hp => ?_
 rw [if_pos (List.mem_range.1 hp)]
theorem range_map {l : List CV} {f : CV -> CV} : ((List.range l.length).map fun j => f l[j]!) = l.map f := by
 refine ext_bangV (by simp) fun p hp => ?_
 rw [List.length_map, List.length_range] at hp
 rw [getElem!_pos _ p (by simpa using hp), getElem!_pos _ p (by simpa using hp), List.getElem_map, List.getElem_map, List.getElem_range, getElem!_pos l p hp]
theorem set_bangV {l : List CV} {i : Nat} (h : i < l.length) : l.set i l[i]! = l := by
 refine ext_bangV (by simp) fun p hp => ?_
 rw [bang_setV h]
 split
 ·rename_i e; rw [e]
 ·rfl
def swapV (l : List CV) (k : Nat) : List CV := (l.set (k + 1) l[k]!).set k l[k + 1]!
def sinkV : Nat -> List CV -> List CV
 | 0, l => l
 | k + 1, l => if cmpV l[k + 1]! l[k]! < 0 then sinkV k (swapV l k) else l
theorem swapV_len (l : List CV) (k : Nat) : (swapV l k).length = l.length := by simp [swapV]
theorem sinkV_len : ∀ (k : Nat) (l : List CV), (sinkV k l).length = l.length
 | 0, _ => rfl
 | k + 1, l => by
  unfold sinkV
  split
  ·rw [sinkV_len k, swapV_len]
  ·rfl
def isortN (l : List CV) : Nat -> List CV
 | 0 => l
 | i + 1 => sinkV i (isortN l i)
theorem isortN_len (l : List CV) : ∀ i, (isortN l i).length = l.length
 | 0 => rfl
 | i + 1 => by unfold isortN; rw [sinkV_len, isortN_len l i]
def isortV (l : List CV) : List CV := isortN l l.length
theorem mem_swapV {l : List CV} {k : Nat} {x : CV} (hk : k + 1 < l.length) (h : x ∈ swapV l k) : x ∈ l := by
 unfold swapV at h
 rcases List.mem_or_eq_of_mem_set h with h | rfl
 ·rcases List.mem_or_eq_of_mem_set h with h | rfl
  ·exact h
  ·exact mem_bangI (by omega)
 ·exact mem_bangI hk
theorem mem_sinkV {x : CV} : ∀ {k : Nat} {l : List CV}, k < l.length -> x ∈ sinkV k l -> x ∈ l
 | 0, _, _, h => h
 | k + 1, l, hk, h => by
  unfold sinkV at h
  split at h
  ·exact mem_swapV hk (mem_sinkV (by rw [swapV_len]; omega) h)
  ·exact h
theorem mem_isortN {l : List CV} {x : CV} : ∀ {i : Nat}, i <= l.length -> x ∈ isortN l i -> x ∈ l
 | 0, _, h => h
 | i + 1, hi, h => mem_isortN (by omega) (mem_sinkV (by rw [isortN_len]; omega) h)
mutual
def srtT : CV -> TD -> CV
 | .mk n kids, t => .mk n (if t.kind = 5 then isortV (srtA kids t.parts[0]!) else if t.kind = 4 then srtA kids t.parts[0]! else if t.kind = 3 then srtZ kids t.parts else kids)
def srtZ : List CV -> List TD -> List CV
 | [], _ => []
 | x :: l, [] => x :: l
 | x :: l, t :: ts => srtT x t :: srtZ l ts
def srtA : List CV -> TD -> List CV
 | [], _ => []
 | x :: l, t => srtT x t :: srtA l t
end
theorem srtA_map : ∀ (l : List CV) (t : TD), srtA l t = l.map fun x => srtT x t
 | [], _ => by rw [srtA]; rfl
 | x :: l, t => by rw [srtA, srtA_map l t]; rfl
theorem srtZ_len : ∀ (l : List CV) (ts : List TD), (srtZ l ts).length = l.length
 | [], _ => by rw [srtZ]
 | x :: l, [] => by rw [srtZ]
 | x :: l, t :: ts => by rw [srtZ, List.length_cons, srtZ_len l ts]; rfl
theorem srtZ_at : ∀ {l : List CV} {ts : List TD} {j : Nat}, j < l.length -> (srtZ l ts)[j]! = if j < ts.length then srtT l[j]! ts[j]! else l[j]!
 | x :: l, [], j, h => by rw [srtZ, if_neg (by simp)]
 | x :: l, t :: ts, 0, h => by rw [srtZ, if_pos (by simp)]; rfl
 | x :: l, t :: ts, j + 1, h => by
  have := srtZ_at (l := l) (ts := ts) (j := j) (by simpa using h)
  rw [srtZ]
  simpa using this
def srtF (v : CV) (t : TD) (j : Nat) : CV := if t.kind = 3 /\ j < t.parts.length then srtT v.kids[j]! t.parts[j]! else if t.kind = 4 \/ t.kind = 5 then srtT v.kids[j]! t.parts[0]! else v.kids[j]!
def srtK (v : CV) (t : TD) : List CV := (List.range v.kids.length).map (srtF v t)
theorem srtK_len (v : CV) (t : TD) : (srtK v t).length = v.kids.length := by simp [srtK]
theorem srtK_at {v : CV} {t : TD} {j : Nat} (h : j < v.kids.length) : (srtK v t)[j]! = srtF v t j := by
 rw [getElem!_pos _ j (by rw [srtK_len]; exact h)]; simp [srtK]
theorem srt_eq (v : CV) (t : TD) : srtT v t = .mk v.n (if t.kind = 5 then isortV (srtK v t) else srtK v t) := by
 have e : srtT v t = .mk v.n (if t.kind = 5 then isortV (srtA v.kids t.parts[0]!) else if t.kind = 4 then srtA v.kids t.parts[0]! else if t.kind = 3 then srtZ v.kids t.parts else v.kids) := by cases v; rw [srtT]; rfl
 have e45 : t.kind = 4 \/ t.kind = 5 -> srtA v.kids t.parts[0]! = srtK v t := fun h => by
  rw [srtA_map]
  unfold srtK
  rw [<- range_map]
  refine List.map_congr_left fun j _ => ?_
  unfold srtF
  rw [if_neg (by omega), if_pos h]
 rw [e]
 by_cases h5 : t.kind = 5
 ·rw [if_pos h5, if_pos h5, e45 (.inr h5)]
 rw [if_neg h5, if_neg h5]
 by_cases h4 : t.kind = 4
 ·rw [if_pos h4, e45 (.inl h4)]
 rw [if_neg h4]
 by_cases h3 : t.kind = 3
 ·rw [if_pos h3]
  refine congrArg _ (ext_bangV (by rw [srtZ_len, srtK_len]) fun j hj => ?_)
  rw [srtZ_len] at hj
  rw [srtZ_at hj, srtK_at hj]
  unfold srtF
  by_cases hp : j < t.parts.length
  ·rw [if_pos hp, if_pos ⟨h3, hp⟩]
  ·rw [if_neg hp, if_neg (fun h => hp h.2), if_neg (by omega)]
 ·rw [if_neg h3]
  refine congrArg _ (ext_bangV (by rw [srtK_len]) fun j hj => ?_)
  rw [srtK_at hj]
  unfold srtF
  rw [if_neg (fun h => h3 h.1), if_neg (by omega)]
theorem CV.Slim.ok {a : CV} (h : a.Slim) : a.Ok := by
 have key : ∀ (N : Nat) (a : CV), SizeOf.sizeOf a <= N -> a.Slim -> a.Ok := by
  intro N
  induction N with
  | zero => intro a hs; cases a; rw [CV.mk.sizeOf_spec] at hs; omega
  | succ N ih =>
   intro a hs ha
   obtain ⟨n, k⟩ := a
   have hl := ha.len
   exact .mk n k (by show k.length <= _; have : k.length <= 1000000 := hl; omega) fun x hx => ih x (by have := kid_size (a := .mk n k) hx; omega) (ha.kid hx)
 exact key _ a (Nat.le_refl _) h
theorem srt_slim : ∀ (N : Nat) (v : CV) (t : TD), SizeOf.sizeOf v <= N -> v.Slim -> (srtT v t).Slim := by
 intro N
 induction N with
 | zero => intro v t hs; cases v; rw [CV.mk.sizeOf_spec] at hs; omega
 | succ N ih =>
  intro v t hs hv
  have hk : ∀ x ∈ srtK v t, x.Slim := fun x hx => by
   unfold srtK at hx
   obtain ⟨j, hj, rfl⟩ := List.mem_map.1 hx
   have hj := List.mem_range.1 hj
   have hm : v.kids[j]! ∈ v.kids := mem_bangI hj
   have hsz := kid_size hm
   unfold srtF
   split
   ·exact ih _ _ (by omega) (hv.kid hm)
   ·split
    ·exact ih _ _ (by omega) (hv.kid hm)
    ·exact hv.kid hm
  have hl := hv.len
  rw [srt_eq]
  split
  ·exact .mk _ _ (by unfold isortV; rw [isortN_len, srtK_len]; exact hl) fun x hx => hk x (mem_isortN (Nat.le_refl _) hx)
  ·exact .mk _ _ (by rw [srtK_len]; exact hl) hk
theorem modKV {L : List CV} {i : Nat} {x : CV} (h : i < L.length) : (L.map vV).modify i (updElem 0 [.sc (.int .i64 x.n), .sl 0 2 (x.kids.map vV)]) = (L.set i x).map vV := by
 have h2 : (L.map vV)[i]? = some (.ag [vi L[i]!.n, .sl 0 2 (L[i]!.kids.map vV)]) := by rw [List.getElem?_map, List.getElem?_eq_getElem h, getElem!_pos L i h, <- vV_eq]; rfl
 rw [mod_set h2, List.map_set, vV_eq x]; rfl
theorem con_rsortedG : ∀ (N d : Nat) (v : CV) (t : TD), SizeOf.sizeOf v <= N -> v.Slim -> t.Ok -> rightT d t = true -> Con Tryz.prog 152 [vT t, vV v] [] fun r _ => r = ownV 2 (srtT v t) := by
 intro N
 induction N with
 | zero => intro d v t hs; cases v; rw [CV.mk.sizeOf_spec] at hs; omega
 | succ N ih =>
  intro d v t hs hv ht hr
  have hlen := hv.len
  have hpl := ht.plen
  have hf := right_fit d t hr
  have hcp := con_rcopyV v hv
  have hrec : ∀ x ∈ v.kids, ∀ p ∈ t.parts, Con Tryz.prog 152 [vT p, vV x] [] fun r _ => r = ownV 0 (srtT x p) := fun x hx p hp => Con.froz (ih (d - 1) x p (by have := kid_size hx; omega) (hv.kid hx) (ht.part hp) (right_parts hr p hp))
  have e0 := vV_eq v
  have e1 := vT_eq t
  rw [e0] at hcp
  rw [e0, e1, srt_eq]
  refine Con.intro Tryz.func152 rfl Tryz.ntmps152 Tryz.results152 (by kernel_rfl) (by simp) 0 (by simp) ?_
  simp only [go_sem]
  refine CallU.free hcp (by simp only [go_sem]) (by simp only [go_sem]) ?_
  rintro r bx rfl
  obtain ⟨n, hn⟩ : ∃ n, n = v.kids.length := ⟨_, rfl⟩
  obtain ⟨g, hg⟩ : ∃ g : Nat -> CV, g = fun j => v.kids[j]! := ⟨_, rfl⟩
  have b0 : v.kids = blend n 0 (srtF v t) g := by rw [hn, hg, blend_zero]
  simp only [go_sem]
  refine LoopK.intro (fun i : Nat => ⟨117, [(2, .pb 0 0), (4, .pb 2 0), (5, .pb 3 0), (6, vi i)], [[vi t.kind, vi t.size, vs 0 t.ranks, .sl 0 4 (t.parts.map vT)], [.any, .any], [.any, .any], [vi v.n, .sl 706 2 ((blend n i (srtF v t) g).map vV)]]⟩)
   (fun i => n - i) (fun i => i <= n) 0 (by omega) ?_ ?_
  ·rw [<- b0]
   simp only [go_sem]
  rintro i hi
  have hbl := blend_len n i (srtF v t) g
  by_cases h : i < n
  ·have hw : IntKind.i64.wrap (i + 1) = i + 1 := wrap_in (by omega) (by omega)
   have hbi : i < (blend n i (srtF v t) g).length := by omega
   have hgb := getvV hbi
   have hat : (blend n i (srtF v t) g)[i]! = v.kids[i]! := by rw [blend_at h, if_neg (by omega), hg]
   have hmem : v.kids[i]! ∈ v.kids := mem_bangI (by omega)
   have hset := blend_set (f := srtF v t) (g := g) h
   rw [hat] at hgb
   by_cases k3 : t.kind = 3
   ·have b3 : (t.kind == 3) = true := beq_iff_eq.2 k3
    have b4 : (t.kind == 4) = false := by rw [k3]; rfl
    have b5 : (t.kind == 5) = false := by rw [k3]; rfl
    by_cases hp : i < t.parts.length
    ·have hg2 := getvT hp
     have hcall := hrec _ hmem _ (mem_bangI hp)
     rw [vT_eq, vV_eq] at hcall
     have hfi : srtF v t i = srtT v.kids[i]! t.parts[i]! := by unfold srtF; rw [if_pos ⟨k3, hp⟩]
     simp only [go_sem, hbl, h, b3, hp, List.length_map]
     refine DrawK.walk 14 mixed (by kernel_rfl) ?_
     simp only [go_sem, hbi, hp, hgb, hg2]
     refine CallY.mk hcall (by simp only [go_sem]) (by simp only [go_sem]) (.inl (by simp only [go_sem])) ?_
     have hm := modKV (x := srtF v t i) hbi
     rw [hset, hfi] at hm
     simp only [go_sem, hbi, hm, b4, b5, hw]
     refine roundK.intro (i + 1) (by omega) (by omega) ?_
     simp only [go_sem]
    ·have hfi : srtF v t i = v.kids[i]! := by unfold srtF; rw [if_neg (fun h => hp h.2), if_neg (by omega)]
     have hnx : blend n i (srtF v t) g = blend n (i + 1) (srtF v t) g := by
      rw [<- hset, hfi, <- hat]
      exact (set_bangV hbi).symm
     simp only [go_sem, hbl, h, b3, b4, b5, hp, List.length_map, hw]
     rw [hnx]
     refine roundK.intro (i + 1) (by omega) (by omega) ?_
     simp only [go_sem]
   have b3 : (t.kind == 3) = false := beq_eq_false_iff_ne.2 k3
   by_cases k45 : t.kind = 4 \/ t.kind = 5
   ·have hp1 := hf.one k45
    have hp : 0 < t.parts.length := by omega
    have hg2 := getvT hp
    have hcall := hrec _ hmem _ (mem_bangI hp)
    rw [vT_eq, vV_eq] at hcall
    have hfi : srtF v t i = srtT v.kids[i]! t.parts[0]! := by unfold srtF; rw [if_neg (fun h => k3 h.1), if_pos k45]
    have hm := modKV (x := srtF v t i) hbi
    rw [hset, hfi] at hm
    have b45 : (t.kind == 4) = true \/ ((t.kind == 4) = false /\ (t.kind == 5) = true) := by
     rcases k45 with h | h
     ·exact .inl (beq_iff_eq.2 h)
     ·exact .inr ⟨beq_eq_false_iff_ne.2 (by omega), beq_iff_eq.2 h⟩
    rcases b45 with b4 | ⟨b4, b5⟩
    ·simp only [go_sem, hbl, h, b3, b4, List.length_map]
     refine DrawK.walk 13 mixed (by kernel_rfl) ?_
     simp only [go_sem, hbi, hp, hgb, hg2]
     refine CallY.mk hcall (by simp only [go_sem]) (by simp only [go_sem]) (.inl (by simp only [go_sem])) ?_
     simp only [go_sem, hbi, hm, hw]
     refine roundK.intro (i + 1) (by omega) (by omega) ?_
     simp only [go_sem]
    ·simp only [go_sem, hbl, h, b3, b4, b5, List.length_map]
     refine DrawK.walk 13 mixed (by kernel_rfl) ?_
     simp only [go_sem, hbi, hp, hgb, hg2]
     refine CallY.mk hcall (by simp only [go_sem]) (by simp only [go_sem]) (.inl (by simp only [go_sem])) ?_
     simp only [go_sem, hbi, hm, hw]
     refine roundK.intro (i + 1) (by omega) (by omega) ?_
     simp only [go_sem]
   ·have b4 : (t.kind == 4) = false := beq_eq_false_iff_ne.2 (by omega)
    have b5 : (t.kind == 5) = false := beq_eq_false_iff_ne.2 (by omega)
    have hfi : srtF v t i = v.kids[i]! := by unfold srtF; rw [if_neg (fun h => k3 h.1), if_neg k45]
    have hnx : blend n i (srtF v t) g = blend n (i + 1) (srtF v t) g := by
     rw [<- hset, hfi, <- hat]
     exact (set_bangV hbi).symm
    simp only [go_sem, hbl, h, b3, b4, b5, hw]
    rw [hnx]
    refine roundK.intro (i + 1) (by omega) (by omega) ?_
    simp only [go_sem]
  have ei : i = n := by omega
  have hfull : blend n n (srtF v t) g = srtK v t := by rw [blend_full, hn]; rfl
  rw [ei, hfull]
  have hll : ¬ n < n := by omega
  have hKl : (srtK v t).length = n := by rw [srtK_len, hn]
  have hKs : ∀ x ∈ srtK v t, x.Ok := fun x hx => by
   unfold srtK at hx
   obtain ⟨j, hj, rfl⟩ := List.mem_map.1 hx
   have hj := List.mem_range.1 hj
   have hm : v.kids[j]! ∈ v.kids := mem_bangI hj
   unfold srtF
   split
   ·exact (srt_slim _ _ _ (Nat.le_refl _) (hv.kid hm)).ok
   ·split
    ·exact (srt_slim _ _ _ (Nat.le_refl _) (hv.kid hm)).ok
    ·exact (hv.kid hm).ok
  generalize srtK v t = K at hKl hKs
  by_cases k5 : t.kind = 5
  case neg =>
   have b5 : (t.kind != 5) = true := bne_iff_ne.2 k5
   rw [if_neg k5]
   simp only [go_sem, hKl, hll, b5]
   rfl
  have b5 : (t.kind != 5) = false := by rw [k5]; rfl
  rw [if_pos k5]
  simp only [go_sem, hKl, hll, b5]
  refine LoopK.intro (fun i : Nat => ⟨117, [(4, .pb 2 0), (5, .pb 3 0), (7, vi i)], [[.any, .any, .any, .any], [.any, .any], [.any, .any], [vi v.n, .sl 706 2 ((isortN K i).map vV)]]⟩)
   (fun i => n - i) (fun i => 1 <= i /\ (n = 0 \/ i <= n)) 1 ⟨by omega, by omega⟩ ?_ ?_
  ·have : isortN K 1 = K := rfl
   rw [this]
   simp only [go_sem]
  rintro i ⟨hi1, hi⟩
  have hIl := isortN_len K i
  by_cases h : i < n
  case neg =>
   have ei : isortN K i = isortV K := by
    unfold isortV
    rw [hKl]
    by_cases h0 : n = 0
    ·have hk0 : K = [] := List.length_eq_zero_iff.1 (by omega)
     rw [hk0]
     have key : ∀ i, isortN [] i = [] := fun i => List.length_eq_zero_iff.1 (by rw [isortN_len]; rfl)
     rw [key, key]
    ·rw [show i = n by omega]
   have hIv : (isortV K).length = n := by rw [<- ei, hIl, hKl]
   rw [ei]
   simp only [go_sem, hIv, h]
   rfl
  have hn2 : n <= 1000000 := by omega
  have hw : IntKind.i64.wrap (i + 1) = i + 1 := wrap_in (by omega) (by omega)
  obtain ⟨T, hT⟩ : ∃ T, T = sinkV i (isortN K i) := ⟨_, rfl⟩
  have hTn : isortN K (i + 1) = T := by rw [hT]; rfl
  have hmemK : ∀ x ∈ isortN K i, x.Ok := fun x hx => hKs x (mem_isortN (by omega) hx)
  simp only [go_sem, hIl, hKl, h]
  refine LoopK.intro (fun p : Nat × List CV => ⟨117, [(4, .pb 2 0), (5, .pb 3 0), (7, vi i), (8, vi p.1)], [[.any, .any, .any, .any], [.any, .any], [.any, .any], [vi v.n, .sl 706 2 (p.2.map vV)]]⟩)
   (fun p => p.1) (fun p => p.1 < n /\ p.2.length = n /\ sinkV p.1 p.2 = T /\ ∀ x ∈ p.2, x.Ok) (i, isortN K i) ⟨h, by rw [hIl, hKl], hT.symm, hmemK⟩ ?_ ?_
  ·simp only [go_sem]
  rintro ⟨k, L⟩ ⟨g1, g2, g3, g4⟩
  simp only at g1 g2 g3 g4
  cases k with
  | zero =>
   have e : L = T := g3
   simp only [go_sem]
   refine DrawK.walk 17 mixed (by kernel_rfl) ?_
   have hz : ¬ (0 : Int) < ((0 : Nat) : Int) := by omega
   simp only [go_sem, hw]
   refine roundK.intro (i + 1) ⟨by omega, .inr (by omega)⟩ (by omega) ?_
   rw [hTn, <- e]
   simp only [go_sem]
  | succ k =>
   have h1 : k + 1 < L.length := by omega
   have h2 : k < L.length := by omega
   have hz : (0 : Int) < (k : Int) + 1 := by omega
   have hwk : IntKind.i64.wrap ((k : Int) + 1 - 1) = (k : Int) := by rw [wrap_in (by omega) (by omega)]; omega
   have ht : ((k : Int) + 1).toNat = k + 1 := by omega
   have hnn : (0 : Int) <= (k : Int) + 1 := by omega
   have hq : (k : Int) + 1 < (L.length : Int) := by omega
   have q1 := getvV h1
   have q2 := getvV h2
   have hc := con_rcompare _ L[k + 1]! L[k]! (Nat.le_refl _) (g4 _ (mem_bangI h1)) (g4 _ (mem_bangI h2))
   rw [vV_eq L[k + 1]!, vV_eq L[k]!] at hc
   simp only [go_sem]
   refine DrawK.walk 17 mixed (by kernel_rfl) ?_
   simp only [go_sem, hz, hwk, ht, hnn, hq, h2, q1, q2]
   refine CallY.mk hc (by simp only [go_sem]) (by simp only [go_sem]) (.inl (by simp only [go_sem])) ?_
   by_cases hneg : cmpV L[k + 1]! L[k]! < 0
   ·have e : sinkV k (swapV L k) = T := by rw [<- g3]; conv => rhs; unfold sinkV; rw [if_pos hneg]
    have sl := swapV_len L k
    have hs1 := modKV (x := L[k]!) h1
    have hs2 := modKV (L := L.set (k + 1) L[k]!) (x := L[k + 1]!) (i := k) (by rw [List.length_set]; exact h2)
    have hsw : (L.set (k + 1) L[k]!).set k L[k + 1]! = swapV L k := rfl
    rw [hsw] at hs2
    have hmem' : ∀ x ∈ swapV L k, x.Ok := fun x hx => g4 x (mem_swapV h1 hx)
    simp only [go_sem, hneg]
    refine DrawK.meet ⟨117, [(4, .pb 2 0), (5, .pb 3 0), (7, vi i), (8, vi ((k : Int) + 1))], [[.any, .any, .any, .any], [.any, .any], [.any, .any], [vi v.n, .sl 706 2 ((swapV L k).map vV)]]⟩ ?_ ?_
    ·refine DrawK.effs0 0 [] [3, 5, 6] 18 (.front 18 (.one 19 (.front 20 (.one 21 .done)))) (some (4, .front 18 (.alt (.one 4 (.one 19 (.front 20 (.one 21 .done)))) (.one 19 (.one 4 (.front 20 (.one 21 .done))))))) [.any, .any, .any, .any] mixed (by kernel_rfl) (by kernel_rfl) (by simp only [go_sem]) (by simp only [go_sem]) ?_
     simp only [go_sem, hwk, ht, hnn, hq, h2, q1, q2]
     repeat' (first | with_reducible apply andK_mk | exact trivial | simp only [go_sem, hwk, ht, hnn, hq, h2, hs1, hs2, List.length_set, List.length_map])
    ·simp only [go_sem, hwk]
     refine roundK.intro (k, swapV L k) ⟨by omega, by rw [sl]; exact g2, e, hmem'⟩ (by show k < k + 1; omega) ?_
     simp only [go_sem]
   ·have e : L = T := by rw [<- g3]; unfold sinkV; rw [if_neg hneg]
    simp only [go_sem, hneg, hw]
    refine roundK.intro (i + 1) ⟨by omega, .inr (by omega)⟩ (by omega) ?_
    rw [hTn, <- e]
    simp only [go_sem]
def noV : CV := .mk 0 []
def rowsT (t : Nat) (M : List (List Int)) : List AV := M.mapIdx fun i r => .sl (subT t i) 1 (r.map vi)
def vtT (t : Nat) (M : List (List Int)) : AV := .so t (rowsT t M)
attribute [go_sem] vtT
theorem rowsT_at {t i : Nat} {M : List (List Int)} : (rowsT t M)[i]? = (M[i]?).map fun r => .sl (subT t i) 1 (r.map vi) := by simp [rowsT, List.getElem?_mapIdx]
@[go_sem] theorem rowsT_nil {t : Nat} : rowsT t [] = [] := rfl
theorem rowsT_frz {t : Nat} {M : List (List Int)} {f : AV -> AV} (h : ∀ i r, f (.sl (subT t i) 1 (List.map vi r)) = .sl 0 1 (List.map vi r)) : (rowsT t M).map f = M.map (vs 0) := by
 apply List.ext_getElem?
 intro j
 rw [List.getElem?_map, rowsT_at, List.getElem?_map]
 cases M[j]? with
 | none => rfl
 | some r => simp [h, vs]
theorem rowsT_freeze {t : Nat} {p : Nat -> Bool} {M : List (List Int)} (h : p (root t) = true) : (rowsT t M).map (freezeRow p) = M.map (vs 0) := rowsT_frz fun i r => by simp only [freezeRow, sub_two, root_sub, h, and_self, if_true]
@[go_sem] theorem rowsT_freezeT {t : Nat} {M : List (List Int)} : (rowsT t M).map (freezeRow fun _ => true) = M.map (vs 0) := rowsT_freeze rfl
theorem con_rWord (v : List Int) (hv : v.length <= 100) : Con Tryz.prog 55 [vs 0 v] [] fun r _ => r = .ag [vi 0, .sl 2 2 (v.map kidN)] := by
 refine Con.intro Tryz.func55 rfl Tryz.ntmps55 Tryz.results55 (by kernel_rfl) (by simp) 0 (by simp) ?_
 simp only [go_sem]
 refine LoopK.intro (fun i : Nat => ⟨22, [(0, vs 0 v), (2, .pb 0 0), (3, .pb 1 0), (4, vi i)], [[.any, .any], [vi 0, .sl 1280 2 ((v.take i).map kidN)]]⟩)
  (fun i => v.length - i) (fun i => i <= v.length) 0 (by omega) ?_ ?_
 ·simp only [go_sem, List.take_zero, List.map_nil]
 rintro i hi
 by_cases h : i < v.length
 ·have hw : IntKind.i64.wrap (i + 1) = i + 1 := wrap_in (by omega) (by omega)
  have hg := getv h
  have e : v.take (i + 1) = v.take i ++ [v[i]!] := by rw [List.take_add_one, List.getElem?_eq_getElem h, getElem!_pos v i h]; rfl
  simp only [go_sem, h]
  refine DrawK.walk 8 mixed (by kernel_rfl) ?_
  simp only [go_sem, h, hw, hg]
  refine ⟨by simp only [roomFor, List.length_take]; omega, roundK.intro (i + 1) (by omega) (by omega) ?_⟩
  simp only [go_sem, e, List.map_append, List.map_cons, List.map_nil]
 ·have e : i = v.length := by omega
  subst e
  simp only [go_sem, h, List.take_length]
theorem con_mvalue (c : CV) (hc : c.Slim) : Con Tryz.prog 159 [vV c] [] fun r _ => r = ownV 2 c := by
 have key : ∀ (N : Nat) (c : CV), SizeOf.sizeOf c <= N -> c.Slim -> Con Tryz.prog 159 [vV c] [] fun r _ => r = ownV 2 c := by
  intro N
  induction N with
  | zero => intro v hs; cases v; rw [CV.mk.sizeOf_spec] at hs; omega
  | succ N ih =>
   intro v hs hv
   have hlen := hv.len
   rw [vV_eq]
   refine Con.intro Tryz.func159 rfl Tryz.ntmps159 Tryz.results159 (by kernel_rfl) (by simp) 0 (by simp) ?_
   simp only [go_sem]
   refine LoopK.intro (fun i : Nat => ⟨27, [(1, .pb 0 0), (2, .pb 1 0), (3, .pb 2 0), (4, vi i)], [[vi v.n, .sl 0 2 (v.kids.map vV)], [vi 0, .nil], [vi v.n, .sl 1600 2 ((v.kids.take i).map vV)]]⟩)
    (fun i => v.kids.length - i) (fun i => i <= v.kids.length) 0 (by omega) ?_ ?_
   ·simp only [go_sem, List.take_zero, List.map_nil]
    all_goals exact ⟨leV_refl _, leV_nil _ _, trivial⟩
   rintro i hi
   by_cases h : i < v.kids.length
   ·have hg := getvV h
    have hw : IntKind.i64.wrap (i + 1) = i + 1 := wrap_in (by omega) (by omega)
    have hmem : v.kids[i]! ∈ v.kids := mem_bangI h
    have hsz := kid_size hmem
    have e : (v.kids.take (i + 1)).map vV = (v.kids.take i).map vV ++ [.ag [vi v.kids[i]!.n, .sl 0 2 (v.kids[i]!.kids.map vV)]] := by
     rw [<- vV_eq, List.take_add_one, List.getElem?_eq_getElem h, getElem!_pos v.kids i h, List.map_append]; rfl
    simp only [go_sem, h]
    refine DrawK.walk 9 mixed (by kernel_rfl) ?_
    simp only [go_sem, h, hg]
    refine CallY.mk (Con.froz (ih v.kids[i]! (by omega) (hv.kid hmem))) (by simp only [go_sem, vV_eq]) (by simp only [go_sem]) (.inl (by simp only [go_sem])) ?_
    simp only [go_sem, hw]
    refine ⟨by simp only [roomFor, List.length_take]; omega, ?_⟩
    refine roundK.intro (i + 1) (by omega) (by omega) ?_
    simp only [go_sem, e]
   ·have e : v.kids.take i = v.kids := List.take_of_length_le (by omega)
    simp only [go_sem, h, e]
 exact key _ c (Nat.le_refl _) hc
def treeK (l : List Int) (f : DS -> Int -> CV × DS) : Nat -> DS -> Int -> List CV × DS
 | 0, s, _ => ([], s)
 | n + 1, s, left =>
  if left <= 0 then ([], s) else if oneV l s 3 = true then ([], nextS l s 3)
  else ((f (nextS l (nextS l s 3) left) (1 + nextV l (nextS l s 3) left)).1 :: (treeK l f n (f (nextS l (nextS l s 3) left) (1 + nextV l (nextS l s 3) left)).2 (left - (1 + nextV l (nextS l s 3) left))).1,
   (treeK l f n (f (nextS l (nextS l s 3) left) (1 + nextV l (nextS l s 3) left)).2 (left - (1 + nextV l (nextS l s 3) left))).2)
def treeP (l : List Int) : Nat -> DS -> Int -> Int -> CV × DS
 | 0, s, labels, _ => (.mk (nextV l s labels) [], nextS l s labels)
 | d + 1, s, labels, most => (.mk (nextV l s labels) (treeK l (fun s k => treeP l d s labels k) (most - 1).toNat (nextS l s labels) (most - 1)).1, (treeK l (fun s k => treeP l d s labels k) (most - 1).toNat (nextS l s labels) (most - 1)).2)
theorem treeK_zero {l : List Int} {f : DS -> Int -> CV × DS} {n : Nat} {s : DS} {left : Int} (h : left <= 0) : treeK l f n s left = ([], s) := by
 cases n with
 | zero => rfl
 | succ n => unfold treeK; rw [if_pos h]
theorem treeK_dk {l : List Int} {f : DS -> Int -> CV × DS} (hf : ∀ s k, Dk l s -> Dk l (f s k).2) : ∀ (n : Nat) (s : DS) (left : Int), Dk l s -> Dk l (treeK l f n s left).2
 | 0, s, left, h => h
 | n + 1, s, left, h => by
  unfold treeK
  split
  ·exact h
  ·split
   ·exact nextS_dk h
   ·exact treeK_dk hf n _ _ (hf _ _ (nextS_dk (nextS_dk h)))
theorem treeP_dk {l : List Int} : ∀ (d : Nat) (s : DS) (labels most : Int), Dk l s -> Dk l (treeP l d s labels most).2
 | 0, _, _, _, h => nextS_dk h
 | d + 1, _, labels, _, h => treeK_dk (fun s k h => treeP_dk d s labels k h) _ _ _ (nextS_dk h)
theorem treeP_slim {l : List Int} : ∀ (d : Nat) (s : DS) (labels most : Int), most <= 100000 -> (treeP l d s labels most).1.Slim
 | 0, s, labels, most, _ => .leaf _
 | d + 1, s, labels, most, h => by
  have hf : ∀ (s : DS) (k : Int), k <= 100000 -> (treeP l d s labels k).1.Slim := fun s k hk => treeP_slim d s labels k hk
  have key : ∀ (n : Nat) (s : DS) (left : Int), left <= 100000 -> (treeK l (fun s k => treeP l d s labels k) n s left).1.length <= n /\ ∀ x ∈ (treeK l (fun s k => treeP l d s labels k) n s left).1, x.Slim := by
   intro n
   induction n with
   | zero => exact fun s left _ => ⟨Nat.le_refl _, fun x hx => by cases hx⟩
   | succ n ih =>
    intro s left hl
    unfold treeK
    split
    ·exact ⟨by simp, fun x hx => by cases hx⟩
    ·split
     ·exact ⟨by simp, fun x hx => by cases hx⟩
     ·have hn := nextV_lt (l := l) (s := nextS l s 3) (n := left) (by omega)
      have h2 := ih (treeP l d (nextS l (nextS l s 3) left) labels (1 + nextV l (nextS l s 3) left)).2 (left - (1 + nextV l (nextS l s 3) left)) (by omega)
      refine ⟨by rw [List.length_cons]; omega, fun x hx => ?_⟩
      rcases List.mem_cons.1 hx with rfl | hx
      ·exact hf _ _ (by omega)
      ·exact h2.2 x hx
  have := key (most - 1).toNat (nextS l s labels) (most - 1) (by omega)
  exact .mk _ _ (by omega) this.2
theorem treeP_len {l : List Int} {d : Nat} {s : DS} {labels most : Int} (h : most <= 900) : (treeP l d s labels most).1.kids.length <= 1000 := by
 cases d with
 | zero => exact Nat.zero_le _
 | succ d =>
  have key : ∀ (f : DS -> Int -> CV × DS) (n : Nat) (s : DS) (left : Int), (treeK l f n s left).1.length <= n := by
   intro f n
   induction n with
   | zero => exact fun s left => Nat.le_refl _
   | succ n ih =>
    intro s left
    unfold treeK
    split
    ·exact Nat.zero_le _
    ·split
     ·exact Nat.zero_le _
     ·have h2 := ih (f (nextS l (nextS l s 3) left) (1 + nextV l (nextS l s 3) left)).2 (left - (1 + nextV l (nextS l s 3) left))
      rw [List.length_cons]; omega
  have := key (fun s k => treeP l d s labels k) (most - 1).toNat (nextS l s labels) (most - 1)
  show (treeK _ _ _ _ _).1.length <= 1000
  omega
theorem con_dTree (l : List Int) : ∀ (d : Nat) (s : DS) (labels most : Int), most <= d -> d <= 900 -> Dk l s -> -1000 <= most ->
  Con Tryz.prog 160 [.pb 0 0, vi labels, vi most] [deckA l s] fun r b => r = ownV 2 (treeP l d s labels most).1 /\ b = [deckA l (treeP l d s labels most).2] := by
 intro d
 induction d with
 | zero =>
  intro s labels most hm hl hd hlow
  have e : treeP l 0 s labels most = (.mk (nextV l s labels) [], nextS l s labels) := rfl
  rw [e]
  have key : Con Tryz.prog 160 [.pb 0 0, vi labels, vi most] [deckA l s] fun r b => leV r (ownV 2 (.mk (nextV l s labels) [])) /\ b = [deckA l (nextS l s labels)] := by
   refine Con.intro Tryz.func160 rfl Tryz.ntmps160 Tryz.results160 (by kernel_rfl) (by simp) 1 (by simp) ?_
   simp only [go_sem]
   refine CallU.boxes (i := 0) (is := []) (bx0 := [deckA l s]) (con_dNext l s labels hd) (by simp only [go_sem]) (by simp only [go_sem]) (by simp only [go_sem]) (by simp only [go_sem]) (by simp only [go_sem]) ?_
   rintro r b ⟨rfl, rfl⟩
   generalize nextV l s labels = n
   generalize nextS l s labels = s1
   have hw : IntKind.i64.wrap (most - 1) = most - 1 := wrap_in (by omega) (by omega)
   have hp : ¬ 0 < most - 1 := by omega
   simp only [go_sem, hw]
   refine LoopK.intro (fun _ : Unit => ⟨40, [(0, .pb 0 0), (1, vi labels), (6, .pb 1 0), (7, .pb 2 0), (8, vi (most - 1))], [deckA l s1, [.any, .any], [vi n, .nil]]⟩)
    (fun _ => 0) (fun _ => True) () trivial ?_ ?_
   ·simp only [go_sem]
   rintro _ _
   simp only [go_sem, hp]
   exact leV_ag ⟨leV_refl _, leV_nil _ _, trivial⟩
  exact key.weak fun r b ⟨h1, h2⟩ => ⟨_, ⟨rfl, h2⟩, h1⟩
 | succ d ih =>
  intro s labels most hm hl hd hlow
  have hrec : ∀ (s : DS) (k : Int), k <= d -> Dk l s -> 1 <= k -> Con Tryz.prog 160 [.pb 0 0, vi labels, vi k] [deckA l s] fun r b => r = ownV 0 (treeP l d s labels k).1 /\ b = [deckA l (treeP l d s labels k).2] := fun s k h1 h2 h3 =>
   ((ih s labels k h1 (by omega) h2 (by omega)).freezeB fun _ => true).mono fun r b ⟨r1, b1, ⟨h1, h2⟩, h3, h4⟩ => by
    subst h1; subst h2; subst h3; subst h4
    exact ⟨rfl, rfl⟩
  have hn1 : Dk l (nextS l s labels) := nextS_dk hd
  have hdk : ∀ (s : DS) (k : Int), Dk l s -> Dk l (treeP l d s labels k).2 := fun s k h => treeP_dk (l := l) d s labels k h
  have e : treeP l (d + 1) s labels most = (.mk (nextV l s labels) (treeK l (fun s k => treeP l d s labels k) (most - 1).toNat (nextS l s labels) (most - 1)).1, (treeK l (fun s k => treeP l d s labels k) (most - 1).toNat (nextS l s labels) (most - 1)).2) := rfl
  rw [e]
  obtain ⟨f, hf⟩ : ∃ f : DS -> Int -> CV × DS, f = fun s k => treeP l d s labels k := ⟨_, rfl⟩
  have hrec' : ∀ (s : DS) (k : Int), k <= d -> Dk l s -> 1 <= k -> Con Tryz.prog 160 [.pb 0 0, vi labels, vi k] [deckA l s] fun r b => r = ownV 0 (f s k).1 /\ b = [deckA l (f s k).2] := by rw [hf]; exact hrec
  have hfd : ∀ s k, Dk l s -> Dk l (f s k).2 := by rw [hf]; exact hdk
  rw [<- hf]
  clear hf hrec hdk e
  have key : Con Tryz.prog 160 [.pb 0 0, vi labels, vi most] [deckA l s] fun r b => leV r (ownV 2 (.mk (nextV l s labels) (treeK l f (most - 1).toNat (nextS l s labels) (most - 1)).1)) /\ b = [deckA l (treeK l f (most - 1).toNat (nextS l s labels) (most - 1)).2] := by
   refine Con.intro Tryz.func160 rfl Tryz.ntmps160 Tryz.results160 (by kernel_rfl) (by simp) 1 (by simp) ?_
   simp only [go_sem]
   refine CallU.boxes (i := 0) (is := []) (bx0 := [deckA l s]) (con_dNext l s labels hd) (by simp only [go_sem]) (by simp only [go_sem]) (by simp only [go_sem]) (by simp only [go_sem]) (by simp only [go_sem]) ?_
   rintro r b ⟨rfl, rfl⟩
   generalize nextV l s labels = n
   generalize nextS l s labels = s1 at hn1 ⊢
   have hw : IntKind.i64.wrap (most - 1) = most - 1 := wrap_in (by omega) (by omega)
   simp only [go_sem, hw]
   obtain ⟨Q, hQ⟩ : ∃ Q, Q = treeK l f (most - 1).toNat s1 (most - 1) := ⟨_, rfl⟩
   rw [<- hQ]
   refine LoopK.intro (fun p : List CV × DS × Int => ⟨40, [(0, .pb 0 0), (1, vi labels), (6, .pb 1 0), (7, .pb 2 0), (8, vi p.2.2)], [deckA l p.2.1, [.any, .any], [vi n, .sl 2240 2 (p.1.map vV)]]⟩)
    (fun p => p.2.2.toNat) (fun p => Dk l p.2.1 /\ (p.1.length : Int) + max 0 p.2.2 <= max 0 (most - 1) /\ p.2.2 <= most - 1 /\ -2000 <= p.2.2 /\ ∃ N : Nat, p.2.2 <= N /\ Q = (p.1 ++ (treeK l f N p.2.1 p.2.2).1, (treeK l f N p.2.1 p.2.2).2)) ([], s1, most - 1) ⟨hn1, by show ((0 : Nat) : Int) + max 0 (most - 1) <= _; omega, by show most - 1 <= most - 1; omega, by show -2000 <= most - 1; omega, (most - 1).toNat, by show most - 1 <= _; omega, by rw [List.nil_append]; exact hQ⟩ ?_ ?_
   ·simp only [go_sem, List.map_nil]
   rintro ⟨kids, s2, left⟩ ⟨h1, h2, h3, h4, N, h5, h6⟩
   simp only at h1 h2 h3 h4 h5 h6
   by_cases hp : 0 < left
   case neg =>
    rw [treeK_zero (by omega), List.append_nil] at h6
    simp only [go_sem, hp, h6]
    exact leV_refl _
   simp only [go_sem, hp]
   refine CallU.boxes (i := 0) (is := []) (bx0 := [deckA l s2]) (con_dOne l s2 3 h1) (by simp only [go_sem]) (by simp only [go_sem]) (by simp only [go_sem]) (by simp only [go_sem]) (by simp only [go_sem]) ?_
   rintro r b ⟨rfl, rfl⟩
   have hd2 : Dk l (nextS l s2 3) := nextS_dk h1
   obtain ⟨M, rfl⟩ : ∃ M, N = M + 1 := ⟨N - 1, by omega⟩
   have e : treeK l f (M + 1) s2 left = if oneV l s2 3 = true then ([], nextS l s2 3)
    else ((f (nextS l (nextS l s2 3) left) (1 + nextV l (nextS l s2 3) left)).1 :: (treeK l f M (f (nextS l (nextS l s2 3) left) (1 + nextV l (nextS l s2 3) left)).2 (left - (1 + nextV l (nextS l s2 3) left))).1,
     (treeK l f M (f (nextS l (nextS l s2 3) left) (1 + nextV l (nextS l s2 3) left)).2 (left - (1 + nextV l (nextS l s2 3) left))).2) := by
    conv => lhs; unfold treeK
    rw [if_neg (by omega)]
   rw [e] at h6
   clear e
   generalize nextS l s2 3 = s3 at hd2 h6 ⊢
   cases ho : oneV l s2 3
   case true =>
    rw [ho, if_pos rfl, List.append_nil] at h6
    simp only [go_sem, h6]
    exact leV_refl _
   rw [ho, if_neg (by decide)] at h6
   simp only [go_sem]
   have hn := nextV_lt (l := l) (s := s3) (n := left) (by omega)
   have hd3 : Dk l (nextS l s3 left) := nextS_dk hd2
   refine CallU.boxes (i := 0) (is := []) (bx0 := [deckA l s3]) (con_dNext l s3 left hd2) (by simp only [go_sem]) (by simp only [go_sem]) (by simp only [go_sem]) (by simp only [go_sem]) (by simp only [go_sem]) ?_
   rintro r b ⟨rfl, rfl⟩
   obtain ⟨k, ek, hk⟩ : ∃ k : Int, 1 + nextV l s3 left = k /\ (1 <= k /\ k <= left) := ⟨_, rfl, by omega⟩
   have hw_k : IntKind.i64.wrap (1 + nextV l s3 left) = k := by rw [wrap_in (by omega) (by omega), ek]
   rw [ek] at h6
   generalize nextS l s3 left = s4 at hd3 h6 ⊢
   simp only [go_sem, hw_k]
   have hih := hrec' s4 k (by omega) hd3 hk.1
   have hd4 := hfd s4 k hd3
   generalize f s4 k = q at hih hd4 h6
   have hw2 : IntKind.i64.wrap (left - k) = left - k := wrap_in (by omega) (by omega)
   have hrm : roomFor (kids.length + 1) 32 := by simp only [roomFor]; omega
   refine DrawK.effs0 0 [5] [] 7 (.one 7 (.front 8 (.one 9 .done))) none (deckA l s4) mixed (by kernel_rfl) (by kernel_rfl) (by simp only [go_sem]) (by simp only [go_sem]) ?_
   simp only [go_sem]
   refine EffK.mk hih (by simp only [go_sem]) (by simp only [go_sem]) (by simp only [go_sem]) (by simp only [go_sem]) ?_
   simp only [go_sem, hw2, List.length_map]
   refine ⟨⟨hrm, roundK.intro (kids ++ [q.1], q.2, left - k) ⟨hd4, by show ((kids ++ [q.1]).length : Int) + max 0 (left - k) <= _; rw [List.length_append, List.length_singleton]; omega, by show left - k <= _; omega, by show -2000 <= left - k; omega, M, by show left - k <= _; omega, by rw [h6, List.append_assoc]; rfl⟩ (by show (left - k).toNat < left.toNat; omega) ?_⟩, trivial⟩
   simp only [go_sem, List.map_append, List.map_cons, List.map_nil]
   rw [vV_eq q.1]
   exact leV_refl _
  exact key.weak fun r b ⟨h1, h2⟩ => ⟨_, ⟨rfl, h2⟩, h1⟩
def wordC (l : List Int) : CV := .mk 0 (l.map fun n => .mk n [])
def dealN (f : DS -> Nat -> CV × DS) (s : DS) : Nat -> List CV × DS
 | 0 => ([], s)
 | i + 1 => ((dealN f s i).1 ++ [(f (dealN f s i).2 i).1], (f (dealN f s i).2 i).2)
theorem dealN_len {f : DS -> Nat -> CV × DS} {s : DS} : ∀ n, (dealN f s n).1.length = n
 | 0 => rfl
 | n + 1 => by rw [dealN, List.length_append, dealN_len n]; rfl
def looseP (l : List Int) : Nat -> DS -> TD -> Int -> CV × DS
 | 0, s, _, _ => (.mk 0 [], s)
 | d + 1, s, t, most =>
  if t.kind = 1 then (.mk (nextV l s 4) [], nextS l s 4)
  else if t.kind = 2 then (.mk (nextV l s t.size) [], nextS l s t.size)
  else if t.kind = 7 then (wordC (wdV l s t.size most), wdS l s t.size most)
  else if t.kind = 3 then (.mk 0 (dealN (fun s j => looseP l d s t.parts[j]! most) s t.parts.length).1, (dealN (fun s j => looseP l d s t.parts[j]! most) s t.parts.length).2)
  else if t.kind = 6 then treeP l 4 (nextS l s 4) t.size (1 + nextV l s 4)
  else (.mk 0 (dealN (fun s _ => looseP l d s t.parts[0]! (max 0 (most - 1))) (nextS l s (most + 1)) (nextV l s (most + 1)).toNat).1, (dealN (fun s _ => looseP l d s t.parts[0]! (max 0 (most - 1))) (nextS l s (most + 1)) (nextV l s (most + 1)).toNat).2)
theorem dealN_dk {l : List Int} {f : DS -> Nat -> CV × DS} (hf : ∀ s j, Dk l s -> Dk l (f s j).2) {s : DS} (h : Dk l s) : ∀ n, Dk l (dealN f s n).2
 | 0 => h
 | n + 1 => hf _ _ (dealN_dk hf h n)
theorem looseP_dk {l : List Int} : ∀ (d : Nat) (s : DS) (t : TD) (most : Int), Dk l s -> Dk l (looseP l d s t most).2
 | 0, s, _, _, h => h
 | d + 1, s, t, most, h => by
  unfold looseP
  split
  ·exact nextS_dk h
  ·split
   ·exact nextS_dk h
   ·split
    ·exact wdS_dk h
    ·split
     ·exact dealN_dk (fun s j h => looseP_dk d s _ _ h) h _
     ·split
      ·exact treeP_dk _ _ _ _ (nextS_dk h)
      ·exact dealN_dk (fun s j h => looseP_dk d s _ _ h) (nextS_dk h) _
theorem word_slim {l : List Int} (h : l.length <= 100000) : (wordC l).Slim := .mk _ _ (by rw [List.length_map]; omega) fun x hx => by
 obtain ⟨n, _, rfl⟩ := List.mem_map.1 hx
 exact .leaf _
theorem dealN_slim {f : DS -> Nat -> CV × DS} (hf : ∀ s j, (f s j).1.Slim) {s : DS} : ∀ n, ∀ x ∈ (dealN f s n).1, x.Slim
 | 0 => fun x hx => by cases hx
 | n + 1 => fun x hx => by
  rcases List.mem_append.1 hx with hx | hx
  ·exact dealN_slim hf n x hx
  ·rw [List.mem_singleton] at hx
   subst hx
   exact hf _ _
theorem looseP_slim {l : List Int} : ∀ (d : Nat) (s : DS) (t : TD) (most : Int), t.Ok -> 0 <= most /\ most <= 100 -> (looseP l d s t most).1.Slim
 | 0, s, _, _, _, _ => .leaf 0
 | d + 1, s, t, most, ht, hm => by
  unfold looseP
  split
  ·exact .leaf _
  ·split
   ·exact .leaf _
   ·split
    ·refine word_slim ?_
     have := (wdN_le (l := l) (s := s) hm.1).2
     unfold wdV
     rw [smV_len]; omega
    ·have hpl := ht.plen
     split
     ·refine .mk _ _ (by rw [dealN_len]; exact hpl) ?_
      by_cases h0 : 0 < t.parts.length
      ·have key : ∀ n, n <= t.parts.length -> ∀ x ∈ (dealN (fun s j => looseP l d s t.parts[j]! most) s n).1, x.Slim := by
        intro n
        induction n with
        | zero => intro _ x hx; cases hx
        | succ n ih =>
         intro hn x hx
         rcases List.mem_append.1 hx with hx | hx
         ·exact ih (by omega) x hx
         ·rw [List.mem_singleton] at hx
          subst hx
          exact looseP_slim d _ _ _ (ht.part (mem_bangI (by omega))) hm
       exact key _ (Nat.le_refl _)
      ·rw [show t.parts.length = 0 by omega]
       intro x hx; cases hx
     ·split
      ·have := nextV_lt (l := l) (s := s) (n := 4) (by omega)
       exact treeP_slim _ _ _ _ (by omega)
      ·have hn := nextV_lt (l := l) (s := s) (n := most + 1) (by omega)
       refine .mk _ _ (by rw [dealN_len]; omega) ?_
       by_cases h0 : 0 < t.parts.length
       ·exact dealN_slim (fun s j => looseP_slim d s _ _ (ht.part (mem_bangI h0)) (by omega)) _
       ·have e : t.parts[0]! = default := by rw [getElem!_neg _ 0 h0]
        rw [e]
        exact dealN_slim (fun s j => looseP_slim d s _ _ (show (TD.mk 0 0 [] []).Ok from .leaf (by simp)) (by omega)) _
theorem leaf_le (t : Nat) (n : Int) : leV (.ag [vi n, .nil]) (ownV t (.mk n [])) := leV_ag ⟨leV_refl _, leV_nil _ _, trivial⟩
theorem con_dlooseG (l : List Int) : ∀ (d : Nat) (s : DS) (t : TD) (most : Int), Dk l s -> rightT d t = true -> t.Ok -> 0 <= most /\ most <= 100 ->
  Con Tryz.prog 111 [.pb 0 0, vT t, vi most] [deckA l s] fun r b => r = ownV 2 (looseP l d s t most).1 /\ b = [deckA l (looseP l d s t most).2] := by
 intro d
 induction d with
 | zero => intro s t most _ hr; simp [rightT] at hr
 | succ d ih =>
  intro s t most hd hr ht hm
  have hf := right_fit (d + 1) t hr
  have hkind := right_kind hr
  have hpl := ht.plen
  have hrec : ∀ p ∈ t.parts, ∀ (s : DS) (most : Int), Dk l s -> 0 <= most /\ most <= 100 -> Con Tryz.prog 111 [.pb 0 0, vT p, vi most] [deckA l s] fun r b => r = ownV 0 (looseP l d s p most).1 /\ b = [deckA l (looseP l d s p most).2] := fun p hp s most h1 h2 =>
   ((ih s p most h1 (right_parts hr p hp) (ht.part hp) h2).freezeB fun _ => true).mono fun r b ⟨r1, b1, ⟨h1, h2⟩, h3, h4⟩ => by
    subst h1; subst h2; subst h3; subst h4
    exact ⟨rfl, rfl⟩
  have e1 := vT_eq t
  have key : Con Tryz.prog 111 [.pb 0 0, vT t, vi most] [deckA l s] fun r b => leV r (ownV 2 (looseP l (d + 1) s t most).1) /\ b = [deckA l (looseP l (d + 1) s t most).2] := by
   rw [e1]
   refine Con.intro Tryz.func111 rfl Tryz.ntmps111 Tryz.results111 (by kernel_rfl) (by simp) 1 (by simp) ?_
   by_cases k1 : t.kind = 1
   ·have b1 : (t.kind == 1) = true := beq_iff_eq.2 k1
    have e : looseP l (d + 1) s t most = (.mk (nextV l s 4) [], nextS l s 4) := by unfold looseP; rw [if_pos k1]
    rw [e]
    simp only [go_sem, b1]
    refine CallU.boxes (i := 0) (is := []) (bx0 := [deckA l s]) (con_dNext l s 4 hd) (by simp only [go_sem]) (by simp only [go_sem]) (by simp only [go_sem]) (by simp only [go_sem]) (by simp only [go_sem]) ?_
    rintro r b ⟨rfl, rfl⟩
    simp only [go_sem]
    exact leaf_le 2 _
   have b1 : (t.kind == 1) = false := beq_eq_false_iff_ne.2 k1
   by_cases k2 : t.kind = 2
   ·have b2 : (t.kind == 2) = true := beq_iff_eq.2 k2
    have e : looseP l (d + 1) s t most = (.mk (nextV l s t.size) [], nextS l s t.size) := by unfold looseP; rw [if_neg k1, if_pos k2]
    rw [e]
    simp only [go_sem, b1, b2]
    refine CallU.boxes (i := 0) (is := []) (bx0 := [deckA l s]) (con_dNext l s t.size hd) (by simp only [go_sem]) (by simp only [go_sem]) (by simp only [go_sem]) (by simp only [go_sem]) (by simp only [go_sem]) ?_
    rintro r b ⟨rfl, rfl⟩
    simp only [go_sem]
    exact leaf_le 2 _
   have b2 : (t.kind == 2) = false := beq_eq_false_iff_ne.2 k2
   by_cases k6 : t.kind = 6
   ·have b6 : (t.kind == 6) = true := beq_iff_eq.2 k6
    have hn := nextV_lt (l := l) (s := s) (n := 4) (by omega)
    have e : looseP l (d + 1) s t most = treeP l 4 (nextS l s 4) t.size (1 + nextV l s 4) := by
     unfold looseP
     rw [if_neg k1, if_neg k2, if_neg (by omega), if_neg (by omega), if_pos k6]
    rw [e]
    have hw : IntKind.i64.wrap (1 + nextV l s 4) = 1 + nextV l s 4 := wrap_in (by omega) (by omega)
    have htr : Con Tryz.prog 160 [.pb 0 0, vi t.size, vi (1 + nextV l s 4)] [deckA l (nextS l s 4)] fun r b => r = ownV 0 (treeP l 4 (nextS l s 4) t.size (1 + nextV l s 4)).1 /\ b = [deckA l (treeP l 4 (nextS l s 4) t.size (1 + nextV l s 4)).2] :=
     ((con_dTree l 4 (nextS l s 4) t.size (1 + nextV l s 4) (by omega) (by omega) (nextS_dk hd) (by omega)).freezeB fun _ => true).mono fun r b ⟨r1, b1, ⟨h1, h2⟩, h3, h4⟩ => by
      subst h1; subst h2; subst h3; subst h4
      exact ⟨rfl, rfl⟩
    have hsl := treeP_slim (l := l) 4 (nextS l s 4) t.size (1 + nextV l s 4) (by omega)
    generalize treeP l 4 (nextS l s 4) t.size (1 + nextV l s 4) = q at htr hsl ⊢
    have hva := con_mvalue q.1 hsl
    rw [vV_eq] at hva
    simp only [go_sem, b1, b2, b6]
    refine DrawK.effs0 0 [4, 6] [] 8 (.one 8 .done) none (deckA l s) mixed (by kernel_rfl) (by kernel_rfl) (by simp only [go_sem]) (by simp only [go_sem]) ?_
    simp only [go_sem]
    refine EffK.mk (con_dNext l s 4 hd) (by simp only [go_sem]) (by simp only [go_sem]) (by simp only [go_sem]) (by simp only [go_sem]) ?_
    simp only [go_sem, hw]
    refine EffK.mk htr (by simp only [go_sem]) (by simp only [go_sem]) (by simp only [go_sem]) (by simp only [go_sem]) ?_
    simp only [go_sem]
    refine CallY.mk hva (by simp only [go_sem]) (by simp only [go_sem]) (.inl (by simp only [go_sem])) ?_
    simp only [go_sem]
   have b6 : (t.kind == 6) = false := beq_eq_false_iff_ne.2 k6
   by_cases k7 : t.kind = 7
   ·have b7 : (t.kind == 7) = true := beq_iff_eq.2 k7
    have e : looseP l (d + 1) s t most = (wordC (wdV l s t.size most), wdS l s t.size most) := by unfold looseP; rw [if_neg k1, if_neg k2, if_pos k7]
    have hsz : 1 <= t.size /\ t.size <= 1000000 := by
     unfold rightT at hr
     split at hr
     ·cases hr
     ·rw [if_neg (show ¬ (t.kind = 2 \/ t.kind = 6) by omega)] at hr
      simp only [Bool.and_eq_true, beq_iff_eq] at hr
      have h1 := hr.2
      unfold rankedL at h1
      simp only [Bool.and_eq_true, decide_eq_true_eq] at h1
      omega
    rw [e]
    simp only [go_sem, b1, b2, b6, b7]
    refine CallU.boxes (i := 0) (is := []) (bx0 := [deckA l s]) (con_dWordF l s t.size most hd (by omega) (by omega)) (by simp only [go_sem]) (by simp only [go_sem]) (by simp only [go_sem]) (by simp only [go_sem]) (by simp only [go_sem]) ?_
    rintro r b ⟨rfl, rfl⟩
    have hwl := wdV_len (l := l) (s := s) (letters := t.size) (most := most) hm.1
    simp only [go_sem]
    refine CallU.free (con_rWord (wdV l s t.size most) (by omega)) (by simp only [go_sem]) (by simp only [go_sem]) ?_
    rintro r bx rfl
    simp only [go_sem]
    exact leV_ag ⟨leV_refl _, leV_slE (by simp [wordC, CV.kids]) (fun y hy => by
     obtain ⟨x, _, rfl⟩ := List.mem_map.1 hy
     rw [vV_eq]; rfl) (kids_pw _), trivial⟩
   have b7 : (t.kind == 7) = false := beq_eq_false_iff_ne.2 k7
   by_cases k3 : t.kind = 3
   ·have b3 : (t.kind == 3) = true := beq_iff_eq.2 k3
    obtain ⟨f, hff⟩ : ∃ f : DS -> Nat -> CV × DS, f = fun s j => looseP l d s t.parts[j]! most := ⟨_, rfl⟩
    have e : looseP l (d + 1) s t most = (.mk 0 (dealN f s t.parts.length).1, (dealN f s t.parts.length).2) := by
     rw [hff]
     conv => lhs; unfold looseP
     rw [if_neg k1, if_neg k2, if_neg k7, if_pos k3]
    have hfd : ∀ i, Dk l (dealN f s i).2 := fun i => dealN_dk (fun s j h => by rw [hff]; exact looseP_dk d s _ _ h) hd i
    rw [e]
    simp only [go_sem, b1, b2, b6, b7, b3]
    refine LoopK.intro (fun i : Nat => ⟨89, [(0, .pb 0 0), (2, vi most), (4, .pb 1 0), (6, .pb 2 0), (7, .pb 3 0), (8, vi i)], [deckA l (dealN f s i).2, [vi t.kind, vi t.size, vs 0 t.ranks, .sl 0 4 (t.parts.map vT)], [.any, .any], [vi 0, .sl 4096 2 ((dealN f s i).1.map vV)]]⟩)
     (fun i => t.parts.length - i) (fun i => i <= t.parts.length) 0 (by omega) ?_ ?_
    ·simp only [go_sem, dealN, List.map_nil]
    rintro i hi
    have hdl := dealN_len (f := f) (s := s) i
    by_cases hlt : i < t.parts.length
    ·have hg2 := getvT hlt
     have hw : IntKind.i64.wrap (i + 1) = i + 1 := wrap_in (by omega) (by omega)
     have hcall := hrec _ (mem_bangI hlt) (dealN f s i).2 most (hfd i) hm
     rw [vT_eq] at hcall
     have hfi : looseP l d (dealN f s i).2 t.parts[i]! most = f (dealN f s i).2 i := by rw [hff]
     rw [hfi] at hcall
     simp only [go_sem, hlt, List.length_map]
     refine DrawK.effs0 0 [9] [] 11 (.one 11 (.front 12 (.one 13 .done))) none (deckA l (dealN f s i).2) mixed (by kernel_rfl) (by kernel_rfl) (by simp only [go_sem]) (by simp only [go_sem]) ?_
     simp only [go_sem, hlt, hg2]
     refine EffK.mk hcall (by simp only [go_sem]) (by simp only [go_sem]) (by simp only [go_sem]) (by simp only [go_sem]) ?_
     have hr2 : roomFor ((dealN f s i).1.length + 1) 32 := by rw [hdl]; simp only [roomFor]; omega
     simp only [go_sem, hw, List.length_map]
     refine ⟨⟨hr2, roundK.intro (i + 1) (by omega) (by omega) ?_⟩, trivial⟩
     simp only [go_sem, dealN, List.map_append, List.map_cons, List.map_nil]
     rw [vV_eq (f _ _).1]
     exact leV_refl _
    ·have ei : i = t.parts.length := by omega
     rw [ei]
     have hll : ¬ t.parts.length < t.parts.length := by omega
     simp only [go_sem, hll, List.length_map]
     exact leV_refl _
   have b3 : (t.kind == 3) = false := beq_eq_false_iff_ne.2 k3
   have hp1 := hf.one (show t.kind = 4 \/ t.kind = 5 by omega)
   have hp0 : 0 < t.parts.length := by omega
   have hg2 := getvT hp0
   obtain ⟨f, hff⟩ : ∃ f : DS -> Nat -> CV × DS, f = fun s _ => looseP l d s t.parts[0]! (max 0 (most - 1)) := ⟨_, rfl⟩
   obtain ⟨s1, hs1⟩ : ∃ s1, s1 = nextS l s (most + 1) := ⟨_, rfl⟩
   have hn := nextV_lt (l := l) (s := s) (n := most + 1) (by omega)
   obtain ⟨K, hK⟩ : ∃ K : Nat, nextV l s (most + 1) = (K : Int) := ⟨(nextV l s (most + 1)).toNat, by omega⟩
   have e : looseP l (d + 1) s t most = (.mk 0 (dealN f s1 K).1, (dealN f s1 K).2) := by
    rw [hff, hs1, show K = (nextV l s (most + 1)).toNat by omega]
    conv => lhs; unfold looseP
    rw [if_neg k1, if_neg k2, if_neg k7, if_neg k3, if_neg k6]
   have hd1 : Dk l s1 := by rw [hs1]; exact nextS_dk hd
   have hfd : ∀ i, Dk l (dealN f s1 i).2 := fun i => dealN_dk (fun s j h => by rw [hff]; exact looseP_dk d s _ _ h) hd1 i
   have hw0 : IntKind.i64.wrap (most + 1) = most + 1 := wrap_in (by omega) (by omega)
   have hwm : IntKind.i64.wrap (most - 1) = most - 1 := wrap_in (by omega) (by omega)
   rw [e]
   simp only [go_sem, b1, b2, b6, b7, b3, hw0]
   refine CallU.boxes (i := 0) (is := []) (bx0 := [deckA l s]) (con_dNext l s (most + 1) hd) (by simp only [go_sem]) (by simp only [go_sem]) (by simp only [go_sem]) (by simp only [go_sem]) (by simp only [go_sem]) ?_
   rintro r b ⟨rfl, rfl⟩
   rw [hK, <- hs1]
   simp only [go_sem]
   refine LoopK.intro (fun i : Nat => ⟨89, [(0, .pb 0 0), (2, vi most), (4, .pb 1 0), (6, .pb 2 0), (7, .pb 3 0), (9, vi ((K - i : Nat) : Int))], [deckA l (dealN f s1 i).2, [vi t.kind, vi t.size, vs 0 t.ranks, .sl 0 4 (t.parts.map vT)], [.any, .any], [vi 0, .sl 5568 2 ((dealN f s1 i).1.map vV)]]⟩)
    (fun i => K - i) (fun i => i <= K) 0 (by omega) ?_ ?_
   ·simp only [go_sem, dealN, List.map_nil, Nat.sub_zero]
   rintro i hi
   have hdl := dealN_len (f := f) (s := s1) i
   by_cases hlt : i < K
   ·have hgt : (0 : Int) < ((K - i : Nat) : Int) := by omega
    have hw : IntKind.i64.wrap (((K - i : Nat) : Int) - 1) = ((K - (i + 1) : Nat) : Int) := by rw [wrap_in (by omega) (by omega)]; omega
    have hcall := hrec _ (mem_bangI hp0) (dealN f s1 i).2 (max 0 (most - 1)) (hfd i) (by omega)
    rw [vT_eq] at hcall
    have hfi : looseP l d (dealN f s1 i).2 t.parts[0]! (max 0 (most - 1)) = f (dealN f s1 i).2 i := by rw [hff]
    rw [hfi] at hcall
    simp only [go_sem, hgt]
    refine DrawK.effs0 0 [10] [] 12 (.one 12 (.front 13 (.one 14 .done))) none (deckA l (dealN f s1 i).2) mixed (by kernel_rfl) (by kernel_rfl) (by simp only [go_sem]) (by simp only [go_sem]) ?_
    simp only [go_sem, hp0, hg2, hwm]
    refine EffK.mk hcall (by simp only [go_sem]) (by simp only [go_sem]) (by simp only [go_sem]) (by simp only [go_sem]) ?_
    have hr2 : roomFor ((dealN f s1 i).1.length + 1) 32 := by rw [hdl]; simp only [roomFor]; omega
    simp only [go_sem, hw, List.length_map]
    refine ⟨⟨hr2, roundK.intro (i + 1) (by omega) (by omega) ?_⟩, trivial⟩
    simp only [go_sem, dealN, List.map_append, List.map_cons, List.map_nil]
    rw [vV_eq (f _ _).1]
    exact leV_refl _
   ·have ei : i = K := by omega
    rw [ei]
    have hgt : ¬ (0 : Int) < ((K - K : Nat) : Int) := by omega
    simp only [go_sem, hgt]
    exact leV_refl _
  exact key.weak fun r b ⟨h1, h2⟩ => ⟨_, ⟨rfl, h2⟩, h1⟩
def noC : CV := .mk 0 []
def sortF (t : TD) (v : CV) : CV × Int := if 128 < countV v 128 then (noC, 5) else if validV t (srtT v t) = true then (srtT v t, 0) else (noC, 5)
theorem sortF_slim {t : TD} {v : CV} (h : v.Slim) : (sortF t v).1.Slim := by
 unfold sortF
 split
 ·exact .leaf 0
 ·split
  ·exact srt_slim _ _ _ (Nat.le_refl _) h
  ·exact .leaf 0
theorem con_rSortedG (t : TD) (v : CV) (ht : t.Ok) (hr : rightT 8 t = true) (hv : v.Slim) : Con Tryz.prog 108 [vT t, vV v] [] fun r _ => r = .tup [ownV 0 (sortF t v).1, vi (sortF t v).2] := by
 have key : Con Tryz.prog 108 [vT t, vV v] [] fun r _ => leV (r.freeze fun _ => true) (.tup [ownV 0 (sortF t v).1, vi (sortF t v).2]) := by
  have e0 := vV_eq v
  have e1 := vT_eq t
  have hc := con_rtCheckG t ht
  have hck : checkT t = 0 := by unfold checkT; rw [if_pos hr]
  rw [hck] at hc
  rw [e0, e1]
  refine Con.intro Tryz.func108 rfl Tryz.ntmps108 Tryz.results108 (by kernel_rfl) (by simp) 0 (by simp) ?_
  simp only [go_sem]
  refine CallU.free hc (by simp only [go_sem]) (by simp only [go_sem, e1]) ?_
  rintro r bx rfl
  simp only [go_sem]
  refine CallU.free (con_rcount v 128 (by omega) (by omega) hv.ok) (by simp only [go_sem]) (by simp only [go_sem, e0]) ?_
  rintro r bx rfl
  unfold sortF
  by_cases h : 128 < countV v 128
  ·rw [if_pos h]
   simp only [go_sem, h]
   exact leV_tup ⟨leV_ag ⟨leV_refl _, leV_nil _ _, trivial⟩, leV_refl _, trivial⟩
  rw [if_neg h]
  have hs := con_rsortedG _ 8 v t (Nat.le_refl _) hv ht hr
  have hva := con_rtValid t (srtT v t) ht (srt_slim _ _ _ (Nat.le_refl _) hv).ok
  have e2 := vV_eq (srtT v t)
  rw [e2] at hva
  simp only [go_sem, h]
  refine CallU.free hs (by simp only [go_sem]) (by simp only [go_sem, e0, e1]) ?_
  rintro r bx rfl
  simp only [go_sem]
  refine CallU.freeze hva (by simp only [go_sem]) (by simp only [go_sem, e1]) ?_
  rintro r bx rfl
  cases hq : validV t (srtT v t)
  ·rw [if_neg (by decide)]
   simp only [go_sem]
   exact leV_tup ⟨leV_ag ⟨leV_refl _, leV_nil _ _, trivial⟩, leV_refl _, trivial⟩
  ·rw [if_pos rfl]
   simp only [go_sem]
   exact leV_refl _
 exact (Con.freezeR (fun _ => true) key).weak fun r b ⟨r0, h0, h1⟩ => by
  subst h1
  exact ⟨_, rfl, h0⟩
def valF (l : List Int) (s : DS) (t : TD) : CV × DS :=
 if validV t (sortF t (looseP l 8 s t 3).1).1 = true then ((sortF t (looseP l 8 s t 3).1).1, (looseP l 8 s t 3).2)
 else ((sortF t (looseP l 8 (looseP l 8 s t 3).2 t 0).1).1, (looseP l 8 (looseP l 8 s t 3).2 t 0).2)
theorem valF_dk {l : List Int} {s : DS} {t : TD} (h : Dk l s) : Dk l (valF l s t).2 := by
 unfold valF
 split
 ·exact looseP_dk _ _ _ _ h
 ·exact looseP_dk _ _ _ _ (looseP_dk _ _ _ _ h)
theorem valF_slim {l : List Int} {s : DS} {t : TD} (ht : t.Ok) : (valF l s t).1.Slim := by
 unfold valF
 split
 ·exact sortF_slim (looseP_slim _ _ _ _ ht (by omega))
 ·exact sortF_slim (looseP_slim _ _ _ _ ht (by omega))
theorem con_dValueG (l : List Int) (s : DS) (t : TD) (h : Dk l s) (ht : t.Ok) (hr : rightT 8 t = true) :
  Con Tryz.prog 62 [.pb 0 0, vT t] [deckA l s] fun r b => r = ownV 0 (valF l s t).1 /\ b = [deckA l (valF l s t).2] := by
 have hloose : ∀ (s : DS) (most : Int), Dk l s -> 0 <= most /\ most <= 100 -> Con Tryz.prog 111 [.pb 0 0, vT t, vi most] [deckA l s] fun r b => r = ownV 0 (looseP l 8 s t most).1 /\ b = [deckA l (looseP l 8 s t most).2] := fun s most h1 h2 =>
  ((con_dlooseG l 8 s t most h1 hr ht h2).freezeB fun _ => true).mono fun r b ⟨r1, b1, ⟨h1, h2⟩, h3, h4⟩ => by
   subst h1; subst h2; subst h3; subst h4
   exact ⟨rfl, rfl⟩
 have e1 := vT_eq t
 have key : Con Tryz.prog 62 [.pb 0 0, vT t] [deckA l s] fun r b => r = ownV 0 (valF l s t).1 /\ b = [deckA l (valF l s t).2] := by
  have hl1 := hloose s 3 h (by omega)
  have hd1 := looseP_dk (l := l) 8 s t 3 h
  have hsl := looseP_slim (l := l) 8 s t 3 ht (by omega)
  have hl2 := hloose (looseP l 8 s t 3).2 0 hd1 (by omega)
  have hsl2 := looseP_slim (l := l) 8 (looseP l 8 s t 3).2 t 0 ht (by omega)
  have hs1 := con_rSortedG t (looseP l 8 s t 3).1 ht hr hsl
  have hs2 := con_rSortedG t (looseP l 8 (looseP l 8 s t 3).2 t 0).1 ht hr hsl2
  have hva := con_rtValid t (sortF t (looseP l 8 s t 3).1).1 ht (sortF_slim hsl).ok
  unfold valF
  generalize looseP l 8 (looseP l 8 s t 3).2 t 0 = q2 at hl2 hs2 ⊢
  generalize looseP l 8 s t 3 = q1 at hl1 hl2 hs1 hva ⊢
  obtain ⟨v1, s1⟩ := q1
  obtain ⟨v2, s2⟩ := q2
  simp only at hl1 hl2 hs1 hs2 hva ⊢
  have e3 := vV_eq v1
  have e4 := vV_eq v2
  have e5 := vV_eq (sortF t v1).1
  rw [e1] at hl1 hl2 ⊢
  rw [e1, e3] at hs1
  rw [e1, e4] at hs2
  rw [e1, e5] at hva
  refine Con.intro Tryz.func62 rfl Tryz.ntmps62 Tryz.results62 (by kernel_rfl) (by simp) 1 (by simp) ?_
  simp only [go_sem]
  refine DrawK.meet ⟨28, [(0, .pb 0 0), (3, .pb 1 0), (4, .pb 2 0), (5, .pb 3 0)], [deckA l s1, [vi t.kind, vi t.size, vs 0 t.ranks, .sl 0 4 (t.parts.map vT)], [.any, .any], [vi (sortF t v1).1.n, .sl 0 2 ((sortF t v1).1.kids.map vV)]]⟩ ?_ ?_
  ·refine DrawK.news0 [(8, 3)] [2] [] 0 [3] [] 9 (.one 9 (.one 10 .done)) (some (7, .alt (.one 7 (.one 9 (.one 10 .done))) (.one 9 (.one 7 (.one 10 .done))))) (deckA l s) mixed (by kernel_rfl) (by kernel_rfl) (by kernel_rfl) (by simp only [go_sem]) (by simp only [go_sem]) ⟨by simp only [go_sem], by simp only [go_sem]⟩ ⟨by simp only [go_sem], by simp only [go_sem]⟩ ?_
   simp only [go_sem]
   refine EffK.mk hl1 (by simp only [go_sem]) (by simp only [go_sem]) (by simp only [go_sem]) (by simp only [go_sem]) ?_
   have hrep : List.replicate 2 AV.any = [.any, .any] := rfl
   simp only [go_sem]
   refine CallY.mk hs1 (by simp only [go_sem]) (by simp only [go_sem]) (.inl (by simp only [go_sem])) ?_
   simp only [go_sem, hrep]
   repeat' (first | with_reducible apply andK_mk | exact trivial | simp only [go_sem])
  simp only [go_sem]
  refine CallU.free hva (by simp only [go_sem]) (by simp only [go_sem]) ?_
  rintro r bx rfl
  cases hq : validV t (sortF t v1).1
  case true =>
   rw [if_pos rfl]
   simp only [go_sem]
  rw [if_neg (by decide)]
  simp only [go_sem]
  refine DrawK.meet ⟨28, [(3, .pb 1 0), (4, .pb 2 0), (5, .pb 3 0)], [deckA l s2, [vi t.kind, vi t.size, vs 0 t.ranks, .sl 0 4 (t.parts.map vT)], [.any, .any], [vi (sortF t v2).1.n, .sl 0 2 ((sortF t v2).1.kids.map vV)]]⟩ ?_ ?_
  ·refine DrawK.effs0 0 [3] [] 8 (.one 8 .done) (some (7, .alt (.one 7 (.one 8 .done)) (.one 8 (.one 7 .done)))) (deckA l s1) mixed (by kernel_rfl) (by kernel_rfl) (by simp only [go_sem]) (by simp only [go_sem]) ?_
   simp only [go_sem]
   refine EffK.mk hl2 (by simp only [go_sem]) (by simp only [go_sem]) (by simp only [go_sem]) (by simp only [go_sem]) ?_
   simp only [go_sem]
   refine CallY.mk hs2 (by simp only [go_sem]) (by simp only [go_sem]) (.inl (by simp only [go_sem])) ?_
   simp only [go_sem]
  simp only [go_sem]
 exact key
structure LeafV (ts : List TD) (xs : List CV) : Prop where
 len : xs.length = ts.length
 few : ts.length <= 100
 leaf : ∀ j, j < ts.length -> xs[j]!.kids = []
 one : ∀ j, j < ts.length -> oneT xs[j]! ts[j]! = true
theorem leaf_srt {x : CV} (h : x.kids = []) (t : TD) : srtT x t = x := by
 obtain ⟨n, k⟩ := x
 have h : k = [] := h
 subst h
 rw [srt_eq]
 have e : srtK (.mk n []) t = [] := rfl
 rw [e]
 split
 ·rfl
 ·rfl
theorem leaf_prod {ts : List TD} {xs : List CV} (h : LeafV ts xs) (hr : rightT 8 (prodT ts) = true) : countV (.mk 0 xs) 128 <= 128 /\ srtT (.mk 0 xs) (prodT ts) = .mk 0 xs /\ validV (prodT ts) (.mk 0 xs) = true := by
 have hlf : ∀ k ∈ xs, k.kids.length = 0 := fun k hk => by
  obtain ⟨j, hj, rfl⟩ := List.getElem_of_mem hk
  have := h.leaf j (by rw [<- h.len]; exact hj)
  rw [getElem!_pos xs j hj] at this
  rw [this]; rfl
 have hf := h.few
 have hl := h.len
 have hc : countV (.mk 0 xs) 128 <= 128 := by
  rw [countV, count_leafs xs 128 1 hlf (by omega)]
  omega
 refine ⟨hc, ?_, ?_⟩
 ·rw [srt_eq, if_neg (by show ¬ (3 : Int) = 5; omega)]
  refine congrArg _ (ext_bangV (by rw [srtK_len]; rfl) fun j hj => ?_)
  rw [srtK_len] at hj
  have hj' : j < xs.length := hj
  rw [srtK_at hj]
  unfold srtF
  rw [if_pos ⟨rfl, by show j < ts.length; omega⟩]
  exact leaf_srt (h.leaf j (by omega)) _
 ·unfold validV
  rw [hr, decide_eq_true hc]
  show oneT (.mk 0 xs) (.mk 3 0 [] ts) = true
  rw [oneT]
  have hz : zipT xs ts = true := zipT_good hl fun j hj => h.one j (by omega)
  show ((0 : Int) == 0 && decide (xs.length = ts.length) && zipT xs ts) = true
  rw [decide_eq_true hl, hz]; rfl
def emptyT (t : TD) : Prop := t.kind = 1 \/ t.kind = 4 \/ t.kind = 5 \/ t.kind = 7
theorem one_empty {t : TD} (h : emptyT t) : oneT noC t = true := by
 have e : oneT noC t = if t.kind = 1 then decide ((0 : Int) <= 0) && decide ((0 : Int) <= 1048576) && true
   else if t.kind = 2 then decide ((0 : Int) <= 0) && decide ((0 : Int) < t.size) && true
   else if t.kind = 3 then true && decide (0 = t.parts.length) && zipT [] t.parts
   else if t.kind = 4 then true && decide (0 <= 12) && allT [] t.parts[0]!
   else if t.kind = 5 then true && decide (0 <= 12) && allT [] t.parts[0]! && sortedB []
   else if t.kind = 6 then decide (countV noC 12 <= 12) && taggedV noC t.size
   else true && decide (0 <= 12) && true := by unfold noC; rw [oneT]; rfl
 rw [e]
 rcases h with h | h | h | h <;> rw [h] <;> first | rfl | (simp [allT, sortedB])
theorem loose_empty {l : List Int} {d : Nat} {s : DS} {t : TD} (h : emptyT t) : (looseP l (d + 1) s t 0).1.kids = [] /\ oneT (looseP l (d + 1) s t 0).1 t = true := by
 have h0 := nextV_lt (l := l) (s := s) (n := 0 + 1) (by omega)
 unfold looseP
 by_cases h1 : t.kind = 1
 ·have h4 := nextV_lt (l := l) (s := s) (n := 4) (by omega)
  rw [if_pos h1]
  refine ⟨rfl, ?_⟩
  rw [oneT, if_pos h1]
  simp
  omega
 rw [if_neg h1, if_neg (by unfold emptyT at h; omega)]
 by_cases h7 : t.kind = 7
 ·rw [if_pos h7]
  have e : wdV l s t.size 0 = [] := by
   have := (wdN_le (l := l) (s := s) (most := 0) (by omega)).2
   have e2 : wdN l s 0 = 0 := by omega
   unfold wdV
   rw [e2]; rfl
  have e2 : wordC (wdV l s t.size 0) = noC := by rw [e]; rfl
  show (wordC (wdV l s t.size 0)).kids = [] /\ oneT (wordC (wdV l s t.size 0)) t = true
  rw [e2]
  exact ⟨rfl, one_empty h⟩
 ·rw [if_neg h7, if_neg (by unfold emptyT at h; omega), if_neg (by unfold emptyT at h; omega)]
  have e : (nextV l s (0 + 1)).toNat = 0 := by omega
  rw [e]
  exact ⟨rfl, one_empty h⟩
theorem loose_label {l : List Int} {d : Nat} {s : DS} {n most : Int} (hn : 1 <= n) : (looseP l (d + 1) s (labelT n) most).1.kids = [] /\ oneT (looseP l (d + 1) s (labelT n) most).1 (labelT n) = true := by
 have h := nextV_lt (l := l) (s := s) (n := n) hn
 have e : looseP l (d + 1) s (labelT n) most = (.mk (nextV l s n) [], nextS l s n) := by
  unfold looseP
  rw [if_neg (by show ¬ (2 : Int) = 1; omega), if_pos (by rfl)]; rfl
 rw [e]
 refine ⟨rfl, ?_⟩
 have e2 : oneT (.mk (nextV l s n) []) (.mk 2 n [] []) = (decide (0 <= nextV l s n) && decide (nextV l s n < n) && true) := by rw [oneT]; rfl
 show oneT (.mk (nextV l s n) []) (.mk 2 n [] []) = true
 rw [e2, decide_eq_true h.1, decide_eq_true h.2]; rfl
theorem dealN_at {f : DS -> Nat -> CV × DS} {s : DS} : ∀ {n j : Nat}, j < n -> (dealN f s n).1[j]! = (f (dealN f s j).2 j).1
 | n + 1, j, h => by
  have hl := dealN_len (f := f) (s := s) n
  rw [dealN]
  by_cases e : j = n
  ·subst e
   rw [getElem!_pos _ j (by rw [List.length_append, hl]; simp), List.getElem_append_right (by omega)]
   simp [hl]
  ·rw [getElem!_pos _ j (by rw [List.length_append, hl]; simp; omega), List.getElem_append_left (by omega), <- getElem!_pos _ j (by omega)]
   exact dealN_at (by omega)
theorem loose_valid {l : List Int} {s : DS} {n : Int} {ts : List TD} (hn : 1 <= n) (ht : ∀ t ∈ ts, emptyT t) (_ : rightT 8 (prodT (labelT n :: ts)) = true) (hl : ts.length <= 90) :
  ∃ xs, LeafV (labelT n :: ts) xs /\ (looseP l 8 s (prodT (labelT n :: ts)) 0).1 = .mk 0 xs := by
 refine ⟨(dealN (fun s j => looseP l 7 s (labelT n :: ts)[j]! 0) s (ts.length + 1)).1, ⟨by rw [dealN_len]; rfl, by rw [List.length_cons]; omega, fun j hj => ?_, fun j hj => ?_⟩, ?_⟩
 ·rw [List.length_cons] at hj
  rw [dealN_at hj]
  cases j with
  | zero => exact (loose_label hn).1
  | succ j =>
   have hm : ts[j]! ∈ ts := mem_bangI (by omega)
   have e : (labelT n :: ts)[j + 1]! = ts[j]! := by rw [getElem!_pos _ (j + 1) (by rw [List.length_cons]; omega), getElem!_pos ts j (by omega)]; rfl
   rw [e]
   exact (loose_empty (ht _ hm)).1
 ·rw [List.length_cons] at hj
  rw [dealN_at hj]
  cases j with
  | zero => exact (loose_label hn).2
  | succ j =>
   have hm : ts[j]! ∈ ts := mem_bangI (by omega)
   have e : (labelT n :: ts)[j + 1]! = ts[j]! := by rw [getElem!_pos _ (j + 1) (by rw [List.length_cons]; omega), getElem!_pos ts j (by omega)]; rfl
   rw [e]
   exact (loose_empty (ht _ hm)).2
 ·conv => lhs; unfold looseP
  rw [if_neg (by show ¬ (3 : Int) = 1; omega), if_neg (by show ¬ (3 : Int) = 2; omega), if_neg (by show ¬ (3 : Int) = 7; omega), if_pos (by rfl)]
  rfl
theorem valF_valid {l : List Int} {s : DS} {n : Int} {ts : List TD} (hn : 1 <= n) (ht : ∀ t ∈ ts, emptyT t) (hr : rightT 8 (prodT (labelT n :: ts)) = true) (hl : ts.length <= 90) :
  validV (prodT (labelT n :: ts)) (valF l s (prodT (labelT n :: ts))).1 = true := by
 unfold valF
 split
 ·rename_i h
  exact h
 ·obtain ⟨xs, h1, h2⟩ := loose_valid (l := l) (s := (looseP l 8 s (prodT (labelT n :: ts)) 3).2) hn ht hr hl
  obtain ⟨c1, c2, c3⟩ := leaf_prod h1 hr
  show validV _ (sortF _ (looseP l 8 (looseP l 8 s (prodT (labelT n :: ts)) 3).2 (prodT (labelT n :: ts)) 0).1).1 = true
  rw [h2]
  unfold sortF
  rw [if_neg (by omega), c2, if_pos c3]
  exact c3
structure OwnX (m : MD) : Prop where
 kind : betweenB m.kind 1 6 = true
 sized : sizedB (noR m zeroV) = true
 ranked : rankedB m = true
 names : namesB (m.states ++ m.places ++ m.letters) = true
 sizes : ∀ s ∈ m.states ++ m.places ++ m.letters, s.size <= 9223372036854775806
theorem sized_nums {m : MD} (h : sizedB m = true) : (1 <= m.states.length /\ m.states.length <= 8) /\ m.places.length <= 6 /\ m.letters.length <= 6 /\ m.rules.length <= 12 /\ (lim m.kind 0 <= m.places.length /\ (m.places.length : Int) <= lim m.kind 1) /\ (lim m.kind 2 <= m.letters.length /\ (m.letters.length : Int) <= lim m.kind 3) /\ (lim m.kind 4 <= m.levels /\ m.levels <= lim m.kind 5) /\ (lim m.kind 6 <= m.age /\ m.age <= lim m.kind 7) := by
 unfold sizedB betweenB at h
 simp only [Bool.and_eq_true, decide_eq_true_eq] at h
 obtain ⟨⟨⟨⟨⟨h1, h2⟩, h3⟩, h4⟩, h5⟩, h6⟩ := h
 have hlim : ∀ k : Int, lim k 1 <= 6 /\ lim k 3 <= 6 := fun k => by
  unfold lim limF
  split
  ·decide
  ·split
   ·decide
   ·split <;> decide
 have := hlim m.kind
 exact ⟨by omega, by omega, by omega, h2, h3, h4, h5, h6⟩
theorem OwnX.len {m : MD} (h : OwnX m) {st : CV} (hs : st.Ok) : LenM (noR m st) := by
 have hn := sized_nums h.sized
 have e1 : (noR m zeroV).states = m.states := rfl
 have e2 : (noR m zeroV).places = m.places := rfl
 have e3 : (noR m zeroV).letters = m.letters := rfl
 rw [e1, e2, e3] at hn
 have hnames : namesOf (noR m st) = m.states ++ m.places ++ m.letters := by
  show m.states ++ m.places ++ m.letters ++ [] = _
  rw [List.append_nil]
 refine ⟨?_, ?_, ?_, fun r hr => (by cases hr), hs⟩
 ·rw [hnames, List.length_append, List.length_append]; omega
 ·rw [hnames]; exact h.sizes
 ·have := h.ranked
  show m.ranks.length <= _
  unfold rankedB at this
  split at this
  ·rw [Bool.and_eq_true, decide_eq_true_eq] at this
   omega
  ·rw [beq_iff_eq] at this
   omega
theorem OwnX.check {m : MD} (h : OwnX m) (st : CV) : checkF (noR m st) = if beginsF (noR m st) = false then 17 else 0 := by
 have hnames : namesOf (noR m st) = m.states ++ m.places ++ m.letters := by
  show m.states ++ m.places ++ m.letters ++ [] = _
  rw [List.append_nil]
 have h1 : betweenB (noR m st).kind 1 6 = true := h.kind
 have h2 : sizedB (noR m st) = true := h.sized
 have h3 : rankedB (noR m st) = true := h.ranked
 have h4 : namesB (namesOf (noR m st)) = true := by rw [hnames]; exact h.names
 have h5 : ((noR m st).rules.any fun r => !rightR (noR m st) r) = false := rfl
 unfold checkF
 rw [h1, h2, h3, h4, h5]
 simp only [Bool.true_eq_false, Bool.false_eq_true, if_false]
theorem OwnX.size {m : MD} (h : OwnX m) : SizeM m /\ m.places.length <= 999999 := by
 have := sized_size (m := noR m zeroV) (h.len (.mk 0 [] (by simp) (fun x hx => by cases hx))) h.sized h.ranked
 exact ⟨⟨this.1.states, this.1.places, this.1.letters, this.1.ranks, this.1.levels, this.1.age, this.1.prio⟩, this.2⟩
theorem OwnX.kinds {m : MD} (h : OwnX m) : 1 <= m.kind /\ m.kind <= 6 := by
 have := h.kind
 unfold betweenB at this
 simpa using this
theorem parts_empty {m : MD} : ∀ t ∈ (partsM m).tail, emptyT t := fun t ht => by
 unfold partsM at ht
 rw [List.tail_cons] at ht
 split at ht
 ·rw [List.mem_singleton] at ht; subst ht
  have : ∀ n, (nodesT m.letters.length n).kind = 5 := fun n => by
   unfold nodesT; split <;> rfl
  exact .inr (.inr (.inl (this _)))
 ·split at ht
  ·rw [List.mem_singleton] at ht; subst ht; exact .inr (.inr (.inl rfl))
  ·rw [List.eq_of_mem_replicate ht]
   unfold placeT
   split
   ·exact .inr (.inl rfl)
   ·split
    ·exact .inr (.inr (.inr rfl))
    ·exact .inl rfl
theorem partsM_cons (m : MD) : partsM m = labelT m.states.length :: (partsM m).tail := by unfold partsM; rfl
theorem partsM_len {m : MD} (h : OwnX m) : (partsM m).length <= 7 := by
 have hn := (sized_nums h.sized).2.1
 have e2 : (noR m zeroV).places = m.places := rfl
 rw [e2] at hn
 unfold partsM
 rw [List.length_cons]
 split
 ·simp
 ·split
  ·simp
  ·rw [List.length_replicate]; omega
theorem right_label (d : Nat) {n : Int} (h : 1 <= n /\ n <= 16) : rightT (d + 1) (labelT n) = true := by
 unfold rightT labelT
 simp [TD.kind, TD.size, TD.parts, TD.ranks, h.1, h.2]
theorem right_bag (d : Nat) {k : Int} {t : TD} (hk : k = 4 \/ k = 5) (h : rightT d t = true) : rightT (d + 1) (listT k t) = true := by
 unfold rightT listT
 rcases hk with rfl | rfl <;> simp [TD.kind, TD.size, TD.parts, TD.ranks, h]
theorem right_prod (d : Nat) {l : List TD} (h1 : 1 <= l.length /\ l.length <= 8) (h : ∀ t ∈ l, rightT d t = true) : rightT (d + 1) (prodT l) = true := by
 have hne : l ≠ [] := fun e => by rw [e] at h1; simp at h1
 unfold rightT prodT
 simp [TD.kind, TD.size, TD.parts, TD.ranks, h1.2, hne]
 exact h
theorem type_right {m : MD} (h : OwnX m) : rightT 8 (typeM m) = true := by
 have hn := sized_nums h.sized
 have hk := h.kinds
 have e0 : (noR m zeroV).kind = m.kind := rfl
 have e1 : (noR m zeroV).states = m.states := rfl
 have e2 : (noR m zeroV).places = m.places := rfl
 have e3 : (noR m zeroV).letters = m.letters := rfl
 have e4 : (noR m zeroV).levels = m.levels := rfl
 have e5 : (noR m zeroV).age = m.age := rfl
 rw [e0, e1, e2, e3, e4, e5] at hn
 have hpl := partsM_len h
 refine right_prod 7 ⟨by rw [partsM_cons, List.length_cons]; omega, by omega⟩ fun t ht => ?_
 rw [partsM_cons] at ht
 rcases List.mem_cons.1 ht with rfl | ht
 ·exact right_label 6 (by omega)
 ·unfold partsM at ht
  rw [List.tail_cons] at ht
  split at ht
  ·rename_i h4
   rw [List.mem_singleton] at ht; subst ht
   have l4 : lim 4 2 = 1 /\ lim 4 4 = 1 /\ lim 4 5 = 2 := by decide
   rw [h4] at hn
   have hl : 1 <= (m.letters.length : Int) /\ (m.letters.length : Int) <= 16 := by omega
   have hlv : m.levels.toNat = 1 \/ m.levels.toNat = 2 := by omega
   rcases hlv with e | e
   ·rw [e]; exact right_bag 6 (.inr rfl) (right_label 5 hl)
   ·rw [e]
    refine right_bag 6 (.inr rfl) (right_prod 5 (by simp) fun t ht => ?_)
    simp only [List.mem_cons, List.not_mem_nil, or_false] at ht
    rcases ht with rfl | rfl
    ·exact right_label 4 hl
    ·exact right_bag 4 (.inr rfl) (right_label 3 hl)
  ·split at ht
   ·rename_i h5
    rw [List.mem_singleton] at ht; subst ht
    have l5 : lim 5 0 = 1 /\ lim 5 6 = 0 /\ lim 5 7 = 3 := by decide
    rw [h5] at hn
    refine right_bag 6 (.inr rfl) (right_prod 5 (by simp) fun t ht => ?_)
    simp only [List.mem_cons, List.not_mem_nil, or_false] at ht
    rcases ht with rfl | rfl
    ·exact right_label 4 (by omega)
    ·exact right_label 4 (by omega)
   ·rw [List.eq_of_mem_replicate ht]
    unfold placeT
    split
    ·rename_i h2
     have l2 : lim 2 2 = 1 := by decide
     rw [h2] at hn
     exact right_bag 6 (.inl rfl) (right_label 5 (by omega))
    ·split
     ·rename_i h3
      have l3 : lim 3 2 = 1 := by decide
      rw [h3] at hn
      have hr := h.ranked
      unfold rankedB at hr
      rw [if_pos h3, Bool.and_eq_true, decide_eq_true_eq] at hr
      have hrl : rankedL m.ranks = true := by
       unfold rankedL
       have hany : m.ranks.any badRank = false := by
        rw [List.any_eq_false]
        intro x hx
        have := List.all_eq_true.1 hr.2 x hx
        unfold betweenB at this
        rw [Bool.and_eq_true, decide_eq_true_eq, decide_eq_true_eq] at this
        unfold badRank
        simp
        omega
       rw [hany, decide_eq_true (show 1 <= m.ranks.length by omega), decide_eq_true (show m.ranks.length <= 6 by omega)]; rfl
      unfold rightT
      simp [TD.kind, TD.size, TD.parts, TD.ranks, hr.1, hrl]
     ·unfold rightT
      simp [TD.kind, TD.size, TD.parts, TD.ranks]
def lowN (m : MD) : Nat := if m.kind = 4 \/ m.kind = 5 then 1 else m.places.length
def leastC (m : MD) : CV := .mk 0 ((0 :: List.replicate (lowN m) (0 : Int)).map fun n => .mk n [])
theorem parts_low (m : MD) : (partsM m).length = lowN m + 1 := by
 unfold partsM lowN
 rw [List.length_cons]
 by_cases h4 : m.kind = 4
 ·rw [if_pos h4, if_pos (.inl h4)]; rfl
 ·rw [if_neg h4]
  by_cases h5 : m.kind = 5
  ·rw [if_pos h5, if_pos (.inr h5)]; rfl
  ·rw [if_neg h5, if_neg (by omega), List.length_replicate]
theorem least_leaf {m : MD} (h : OwnX m) : LeafV (partsM m) ((0 :: List.replicate (lowN m) (0 : Int)).map fun n => CV.mk n []) := by
 have hpl := partsM_len h
 have hlow := parts_low m
 have hat : ∀ j, j < lowN m + 1 -> ((0 :: List.replicate (lowN m) (0 : Int)).map fun n => CV.mk n [])[j]! = noC := fun j hj => by
  rw [getElem!_pos _ j (by simp; omega), List.getElem_map]
  have e : (0 :: List.replicate (lowN m) (0 : Int)) = List.replicate (lowN m + 1) 0 := rfl
  simp only [e, List.getElem_replicate]; rfl
 refine ⟨by rw [List.length_map, List.length_cons, List.length_replicate, hlow], by omega, fun j hj => ?_, fun j hj => ?_⟩
 ·rw [hat j (by omega)]; rfl
 ·rw [hat j (by omega)]
  cases j with
  | zero =>
   have e : (partsM m)[0]! = labelT m.states.length := by rw [partsM_cons]; rfl
   have hn := (sized_nums h.sized).1
   have e1 : (noR m zeroV).states = m.states := rfl
   rw [e1] at hn
   rw [e]
   have e2 : oneT noC (labelT m.states.length) = (decide ((0 : Int) <= 0) && decide ((0 : Int) < m.states.length) && true) := by unfold noC labelT; rw [oneT]; rfl
   rw [e2, decide_eq_true (show (0 : Int) < m.states.length by omega)]; rfl
  | succ j =>
   refine one_empty (parts_empty (m := m) _ ?_)
   have hj2 : j < (partsM m).tail.length := by rw [List.length_tail]; omega
   have e : (partsM m)[j + 1]! = (partsM m).tail[j]! := by
    rw [getElem!_pos _ (j + 1) hj, getElem!_pos _ j hj2, List.getElem_tail]
   rw [e]
   exact mem_bangI hj2
theorem least_valid {m : MD} (h : OwnX m) : validV (typeM m) (leastC m) = true := (leaf_prod (least_leaf h) (type_right h)).2.2
theorem zero_invalid {m : MD} : validV (typeM m) zeroV = false := by
 have e : oneT zeroV (typeM m) = false := by
  unfold zeroV typeM prodT
  rw [oneT]
  show ((0 : Int) == 0 && decide (0 = (partsM m).length) && zipT [] (partsM m)) = false
  rw [parts_low, decide_eq_false (by omega)]; rfl
 unfold validV
 rw [e, Bool.and_false]
theorem con_leastX (m : MD) (hp : m.places.length <= 100) : Con Tryz.prog 141 [vM m] [] fun r _ => r = ownV 0 (leastC m) := by
 have key : Con Tryz.prog 141 [vM m] [] fun r _ => r = cfgN 2 0 (List.replicate (lowN m) 0) := by
  refine Con.intro Tryz.func141 rfl Tryz.ntmps141 Tryz.results141 (by kernel_rfl) (by simp) 0 (by simp) ?_
  have hlw : lowN m <= 100 := by unfold lowN; split <;> omega
  obtain ⟨n, hn⟩ : ∃ n, n = lowN m := ⟨_, rfl⟩
  rw [<- hn] at hlw ⊢
  simp only [go_sem, vM, cM, vss]
  by_cases h4 : m.kind = 4
  ·have b4 : (m.kind == 4) = true := beq_iff_eq.2 h4
   have hl : (1 : Int) = (n : Int) := by rw [hn]; unfold lowN; rw [if_pos (.inl h4)]; rfl
   simp only [go_sem, b4, hl]
   refine LoopK.intro (fun i : Nat => ⟨32, [(2, .pb 1 0), (3, .pb 2 0), (4, vi n), (5, vi i)], [[.any, .any, .any, .any, .any, .any, .any, .any, .any, .any], [.any, .any], [vi 0, .sl 512 2 ((0 :: List.replicate i 0).map kidN)]]⟩)
    (fun i => n - i) (fun i => i <= n) 0 (by omega) ?_ ?_
   ·simp only [go_sem, List.replicate_zero, List.map_cons, List.map_nil]
   rintro i hi
   by_cases h : i < n
   ·have hw : IntKind.i64.wrap (i + 1) = i + 1 := wrap_in (by omega) (by omega)
    have hlt : (i : Int) < ((n : Nat) : Int) := by omega
    have e : List.replicate (i + 1) (0 : Int) = List.replicate i 0 ++ [0] := List.replicate_succ'
    have hr : roomFor ((List.replicate i (0 : Int)).length + 1 + 1) 32 := by rw [List.length_replicate]; simp only [roomFor]; omega
    simp only [go_sem, h, hw, hr, List.map_cons, List.length_cons, List.length_map]
    refine roundK.intro (i + 1) (by omega) (by omega) ?_
    simp only [go_sem, e, List.map_append, List.map_cons, List.map_nil]
   ·have e : i = n := by omega
    subst e
    have hnn : ¬ i < i := by omega
    simp only [go_sem, hnn, List.map_cons]
  have b4 : (m.kind == 4) = false := beq_eq_false_iff_ne.2 h4
  by_cases h5 : m.kind = 5
  ·have b5 : (m.kind == 5) = true := beq_iff_eq.2 h5
   have hl : (1 : Int) = (n : Int) := by rw [hn]; unfold lowN; rw [if_pos (.inr h5)]; rfl
   simp only [go_sem, b4, b5, hl]
   refine LoopK.intro (fun i : Nat => ⟨32, [(2, .pb 1 0), (3, .pb 2 0), (4, vi n), (5, vi i)], [[.any, .any, .any, .any, .any, .any, .any, .any, .any, .any], [.any, .any], [vi 0, .sl 512 2 ((0 :: List.replicate i 0).map kidN)]]⟩)
    (fun i => n - i) (fun i => i <= n) 0 (by omega) ?_ ?_
   ·simp only [go_sem, List.replicate_zero, List.map_cons, List.map_nil]
   rintro i hi
   by_cases h : i < n
   ·have hw : IntKind.i64.wrap (i + 1) = i + 1 := wrap_in (by omega) (by omega)
    have hlt : (i : Int) < ((n : Nat) : Int) := by omega
    have e : List.replicate (i + 1) (0 : Int) = List.replicate i 0 ++ [0] := List.replicate_succ'
    have hr : roomFor ((List.replicate i (0 : Int)).length + 1 + 1) 32 := by rw [List.length_replicate]; simp only [roomFor]; omega
    simp only [go_sem, h, hw, hr, List.map_cons, List.length_cons, List.length_map]
    refine roundK.intro (i + 1) (by omega) (by omega) ?_
    simp only [go_sem, e, List.map_append, List.map_cons, List.map_nil]
   ·have e : i = n := by omega
    subst e
    have hnn : ¬ i < i := by omega
    simp only [go_sem, hnn, List.map_cons]
  have b5 : (m.kind == 5) = false := beq_eq_false_iff_ne.2 h5
  have hl : m.places.length = n := by rw [hn]; unfold lowN; rw [if_neg (by omega)]
  simp only [go_sem, b4, b5, hl]
  refine LoopK.intro (fun i : Nat => ⟨32, [(2, .pb 1 0), (3, .pb 2 0), (4, vi n), (5, vi i)], [[.any, .any, .any, .any, .any, .any, .any, .any, .any, .any], [.any, .any], [vi 0, .sl 512 2 ((0 :: List.replicate i 0).map kidN)]]⟩)
   (fun i => n - i) (fun i => i <= n) 0 (by omega) ?_ ?_
  ·simp only [go_sem, List.replicate_zero, List.map_cons, List.map_nil]
  rintro i hi
  by_cases h : i < n
  ·have hw : IntKind.i64.wrap (i + 1) = i + 1 := wrap_in (by omega) (by omega)
   have hlt : (i : Int) < ((n : Nat) : Int) := by omega
   have e : List.replicate (i + 1) (0 : Int) = List.replicate i 0 ++ [0] := List.replicate_succ'
   have hr : roomFor ((List.replicate i (0 : Int)).length + 1 + 1) 32 := by rw [List.length_replicate]; simp only [roomFor]; omega
   simp only [go_sem, h, hw, hr, List.map_cons, List.length_cons, List.length_map]
   refine roundK.intro (i + 1) (by omega) (by omega) ?_
   simp only [go_sem, e, List.map_append, List.map_cons, List.map_nil]
  ·have e : i = n := by omega
   subst e
   have hnn : ¬ i < i := by omega
   simp only [go_sem, hnn, List.map_cons]
 refine (Con.freezeR (fun _ => true) key).weak fun r b ⟨r0, h0, h1⟩ => ?_
 subst h0; subst h1
 exact ⟨_, rfl, leV_ag ⟨leV_refl _, leV_slE (by simp [leastC, CV.kids]) (fun y hy => by
  obtain ⟨x, _, rfl⟩ := List.mem_map.1 hy
  rw [vV_eq]; rfl) (kids_pw (0 :: List.replicate (lowN m) 0)), trivial⟩⟩
def stX (m : MD) (k : Nat) : CV := if k = 0 then zeroV else leastC m
theorem con_mTypeX (m : MD) (h : OwnX m) : Con Tryz.prog 87 [noSA m] [] fun r _ => r = vT (typeM m) := by
 have hz : zeroV.Ok := .mk 0 [] (by simp) (fun x hx => by cases hx)
 have hlo : (leastC m).Ok := by
  have hl := least_leaf h
  refine .mk _ _ ?_ fun x hx => ?_
  ·have := hl.len; have := hl.few; omega
  ·obtain ⟨n, _, rfl⟩ := List.mem_map.1 hx
   exact .mk _ _ (by simp) (fun x hx => by cases hx)
 have hp : m.places.length <= 100 := by
  have := (sized_nums h.sized).2.1
  have e2 : (noR m zeroV).places = m.places := rfl
  rw [e2] at this; omega
 have ht0 := con_rTypeG (noR m zeroV) (h.len hz)
 have ht1 := con_rTypeG (noR m (leastC m)) (h.len hlo)
 have hl := con_leastX (noR m zeroV) hp
 have e1 : ∀ st, typeM (noR m st) = typeM m := fun _ => rfl
 have el : leastC (noR m zeroV) = leastC m := rfl
 have hk6 : m.kind = 6 -> checkF (noR m zeroV) = 0 := fun h6 => by
  rw [h.check]
  have : beginsF (noR m zeroV) = true := by
   unfold beginsF
   rw [if_pos (show (noR m zeroV).kind = 6 from h6)]; rfl
  rw [this]; rfl
 have hn6 : m.kind ≠ 6 -> checkF (noR m zeroV) = 17 /\ checkF (noR m (leastC m)) = 0 := fun h6 => by
  have a1 : beginsF (noR m zeroV) = false := by
   unfold beginsF
   rw [if_neg (show ¬ (noR m zeroV).kind = 6 from h6)]
   exact zero_invalid
  have a2 : beginsF (noR m (leastC m)) = true := by
   unfold beginsF
   rw [if_neg (show ¬ (noR m (leastC m)).kind = 6 from h6)]
   show validV (typeM m) (leastC m) = true
   exact least_valid h
  rw [h.check, h.check, a1, a2]
  exact ⟨rfl, rfl⟩
 have eT := vT_eq (typeM m)
 refine Con.intro Tryz.func87 rfl Tryz.ntmps87 Tryz.results87 (by kernel_rfl) (by simp) 0 (by simp) ?_
 simp only [go_sem, vss]
 refine LoopK.intro (fun k : Nat => ⟨25, [(2, .pb 1 0), (3, .pb 2 0), (4, vi k)], [[.any, .any, .any, .any, .any, .any, .any, .any, .any, .any], [.any, .any, .any, .any],
   [vi m.kind, vss m.states, vss m.places, vss m.letters, vs 0 m.ranks, vi m.levels, vi m.age, .nil, vi (stX m k).n, .sl 0 2 ((stX m k).kids.map vV)]] ++ Rk 4 k⟩)
  (fun k => 2 - k) (fun k => k <= 1 /\ (k = 1 -> m.kind ≠ 6)) 0 ⟨by omega, fun h => by omega⟩ ?_ ?_
 ·have z1 : zeroV.n = 0 := rfl
  have z2 : zeroV.kids = [] := rfl
  simp only [go_sem, vss, stX, if_true, z1, z2, List.map_nil]
  all_goals exact leB_self _
 rintro k ⟨hk, hk2⟩
 have z1 : zeroV.n = 0 := rfl
 have z2 : zeroV.kids = [] := rfl
 obtain rfl | rfl : k = 0 \/ k = 1 := by omega
 ·have s0 : stX m 0 = zeroV := rfl
  have s1 : stX m 1 = leastC m := rfl
  have hr0 : Rk 4 0 = [] := rfl
  by_cases h6 : m.kind = 6
  ·have hck := hk6 h6
   have htF : typeF (noR m zeroV) = typeM m := by unfold typeF; rw [if_pos hck]; rfl
   rw [hck, htF, eT] at ht0
   simp only [go_sem, s0, z1, z2, vss, List.map_nil, hr0]
   refine CallU.free (ht0.leA (args' := [noRA m zeroV]) ⟨noR_le m zeroV, trivial⟩) (by simp only [go_sem]) (by simp only [go_sem, vss, z1, z2, List.map_nil]) ?_
   rintro r bx rfl
   simp only [go_sem, eT]
  ·obtain ⟨hc0, hc1⟩ := hn6 h6
   have htF : typeF (noR m zeroV) = zeroT := by unfold typeF; rw [hc0]; rfl
   have eZ := vT_eq zeroT
   rw [hc0, htF, eZ] at ht0
   rw [el] at hl
   simp only [go_sem, s0, z1, z2, vss, List.map_nil, hr0]
   refine CallU.free (ht0.leA (args' := [noRA m zeroV]) ⟨noR_le m zeroV, trivial⟩) (by simp only [go_sem]) (by simp only [go_sem, vss, z1, z2, List.map_nil]) ?_
   rintro r bx rfl
   simp only [go_sem]
   refine CallU.free (hl.leA (args' := [noRA m zeroV]) ⟨noR_le m zeroV, trivial⟩) (by simp only [go_sem]) (by simp only [go_sem, vss, z1, z2, List.map_nil]) ?_
   rintro r bx rfl
   have hw : IntKind.i64.wrap 1 = 1 := by decide
   simp only [go_sem, hw]
   refine roundK.intro 1 ⟨by omega, fun _ => h6⟩ (by omega) ?_
   simp only [go_sem, s1]
   exact ⟨leC_any _ 4 rfl, trivial⟩
 ·have s1 : stX m 1 = leastC m := rfl
  have hr1 : Rk 4 1 = [[.any, .any, .any, .any]] := rfl
  obtain ⟨hc0, hc1⟩ := hn6 (hk2 rfl)
  have htF : typeF (noR m (leastC m)) = typeM m := by unfold typeF; rw [if_pos hc1]; rfl
  rw [hc1, htF, eT] at ht1
  simp only [go_sem, s1, vss, hr1]
  refine CallU.free (ht1.leA (args' := [noRA m (leastC m)]) ⟨noR_le m _, trivial⟩) (by simp only [go_sem]) (by simp only [go_sem, vss]) ?_
  rintro r bx rfl
  simp only [go_sem, eT]
theorem con_dConfigX (l : List Int) (s : DS) (m : MD) (h : OwnX m) (hd : Dk l s) :
  Con Tryz.prog 31 [.pb 0 0, hidA m] [deckA l s] fun r b => r = ownV 0 (valF l s (typeM m)).1 /\ b = [deckA l (valF l s (typeM m)).2] := by
 have hsz := h.size
 have hv := con_dValueG l s (typeM m) hd (type_ok hsz.1 hsz.2) (type_right h)
 have ht := con_mTypeX m h
 have e1 := vT_eq (typeM m)
 rw [e1] at hv ht
 refine Con.intro Tryz.func31 rfl Tryz.ntmps31 Tryz.results31 (by kernel_rfl) (by simp) 1 (by simp) ?_
 simp only [go_sem, vss]
 refine CallU.free ht (by simp only [go_sem]) (by simp only [go_sem, vss]) ?_
 rintro r bx rfl
 simp only [go_sem]
 refine CallU.boxes (i := 0) (is := []) (bx0 := [deckA l s]) hv (by simp only [go_sem]) (by simp only [go_sem]) (by simp only [go_sem]) (by simp only [go_sem]) (by simp only [go_sem]) ?_
 rintro r b ⟨rfl, rfl⟩
 simp only [go_sem]
theorem config_valid {l : List Int} {s : DS} {m : MD} (h : OwnX m) : validV (typeM m) (valF l s (typeM m)).1 = true := by
 have hn := sized_nums h.sized
 have e1 : (noR m zeroV).states = m.states := rfl
 rw [e1] at hn
 have hpl := partsM_len h
 have hr := type_right h
 unfold typeM at hr ⊢
 rw [partsM_cons] at hr hpl ⊢
 rw [List.length_cons] at hpl
 exact valF_valid (by omega) parts_empty hr (by omega)
def qB : ByteArray := ⟨#[113]⟩
def pB : ByteArray := ⟨#[112]⟩
def rB : ByteArray := ⟨#[114]⟩
def rkL (k j : Nat) : List ByteArray := (List.range j).map fun t => nm1 rB (k - t)
theorem rk_succ (k j : Nat) : rkL k (j + 1) = rkL k j ++ [nm1 rB (k - j)] := by unfold rkL; rw [List.range_succ, List.map_append]; rfl
theorem dealt_ruleB {ns np : Nat} {r : RD} (h : DealtR ns np r) : ruleB ns np r = true := by
 unfold ruleB changesB movesB smallB indexB betweenB
 have h1 := h.src; have h2 := h.dst; have h3 := h.need; have h4 := h.give
 simp only [Bool.and_eq_true, Bool.or_eq_true, decide_eq_true_eq, List.all_eq_true, beq_iff_eq]
 exact ⟨⟨⟨⟨h2.1, h2.2⟩, h1.1, h1.2⟩, ⟨⟨h3.1, h4.1⟩, fun x hx => by have := h3.2 x hx; omega⟩, fun x hx => by have := h4.2 x hx; omega⟩, h.move⟩
theorem con_namesF (a : ByteArray) (n : Nat) (ha : a.size <= 10) (hn : n <= 9) : Con Tryz.prog 59 [vStr a, vi n] [] fun r _ => r = vss (nmL a n) :=
 (Con.freezeR (fun _ => true) (con_names a n ha hn)).weak fun r b ⟨r0, h0, h1⟩ => by
  subst h0; subst h1
  exact ⟨_, rfl, leV_refl _⟩
def cB : ByteArray := ⟨#[99]⟩
def lB : ByteArray := ⟨#[108]⟩
def plB (k : Int) : ByteArray := if k = 2 \/ k = 3 then cB else pB
def dealtG (k : Int) (ns np nl : Nat) (ra : List Int) (lv ag : Int) (rules : List RD) (st : CV) : MD := { kind := k, states := nmL qB ns, places := nmL (plB k) np, letters := nmL lB nl, ranks := ra, levels := lv, age := ag, rules := rules, start := st }
structure NumOk (k : Int) (ns np nl : Nat) (ra : List Int) (lv ag : Int) : Prop where
 kind : 1 <= k /\ k <= 6
 states : 1 <= ns /\ ns <= 3
 places : (k = 4 -> np = 0) /\ (k = 2 \/ k = 3 -> 1 <= np /\ np <= 2) /\ (k = 1 \/ k = 5 \/ k = 6 -> 1 <= np /\ np <= 3)
 letters : (k = 2 \/ k = 3 \/ k = 4 -> 1 <= nl /\ nl <= 3) /\ (k = 1 \/ k = 5 \/ k = 6 -> nl = 0)
 ranks : (k = 3 -> ra.length = nl /\ ∀ x ∈ ra, 0 <= x /\ x <= 2) /\ (k ≠ 3 -> ra = [])
 levels : (k = 4 -> 1 <= lv /\ lv <= 2) /\ (k ≠ 4 -> lv = 0)
 age : (k = 5 -> 0 <= ag /\ ag <= 2) /\ (k ≠ 5 -> ag = 0)
theorem names_g {k : Int} {ns np nl c : Nat} (h1 : 1 <= ns /\ ns <= 3) (h2 : np <= 3) (h3 : nl <= 3) (h4 : c <= 4) : namesB (nmL qB ns ++ nmL (plB k) np ++ nmL lB nl ++ rkL c c) = true := by
 have key : ∀ p ∈ [cB, pB], ∀ a ∈ [1, 2, 3], ∀ b ∈ [0, 1, 2, 3], ∀ d ∈ [0, 1, 2, 3], ∀ c ∈ [0, 1, 2, 3, 4], namesB (nmL qB a ++ nmL p b ++ nmL lB d ++ rkL c c) = true := by
  have : ([cB, pB].all fun p => [1, 2, 3].all fun a => [0, 1, 2, 3].all fun b => [0, 1, 2, 3].all fun d => [0, 1, 2, 3, 4].all fun c => namesB (nmL qB a ++ nmL p b ++ nmL lB d ++ rkL c c)) = true := by kernel_rfl
  intro p hp a ha b hb d hd c hc
  exact List.all_eq_true.1 (List.all_eq_true.1 (List.all_eq_true.1 (List.all_eq_true.1 (List.all_eq_true.1 this p hp) a ha) b hb) d hd) c hc
 refine key (plB k) ?_ ns (by simp; omega) np (by simp; omega) nl (by simp; omega) c (by simp; omega)
 unfold plB
 split <;> simp
theorem nm_size {a : ByteArray} {n : Nat} (ha : a.size <= 10) : ∀ s ∈ nmL a n, s.size <= 9223372036854775806 := fun s hs => by
 obtain ⟨i, _, rfl⟩ := List.mem_map.1 hs
 have e : (nm1 a i).size = a.size + 1 := by unfold nm1; rw [ByteArray.size_append]; rfl
 omega
section
variable {k : Int} {ns np nl : Nat} {ra : List Int} {lv ag : Int} {rules : List RD} {st : CV}
theorem NumOk.few (h : NumOk k ns np nl ra lv ag) : np <= 3 /\ nl <= 3 := by
 have := h.kind; have := h.places; have := h.letters
 omega
theorem NumOk.sized (h : NumOk k ns np nl ra lv ag) (hr : rules.length <= 12) : sizedB (dealtG k ns np nl ra lv ag rules st) = true := by
 have h1 := h.kind; have h2 := h.states; have h3 := h.places; have h4 := h.letters; have h5 := h.levels; have h6 := h.age
 have l1 : (dealtG k ns np nl ra lv ag rules st).states.length = ns := nmL_len _ _
 have l2 : (dealtG k ns np nl ra lv ag rules st).places.length = np := nmL_len _ _
 have l3 : (dealtG k ns np nl ra lv ag rules st).letters.length = nl := nmL_len _ _
 unfold sizedB betweenB
 rw [l1, l2, l3]
 show (decide ((1 : Int) <= ns) && decide ((ns : Int) <= 8) && decide (rules.length <= 12) && (decide (lim k 0 <= np) && decide ((np : Int) <= lim k 1)) && (decide (lim k 2 <= nl) && decide ((nl : Int) <= lim k 3)) && (decide (lim k 4 <= lv) && decide (lv <= lim k 5)) && (decide (lim k 6 <= ag) && decide (ag <= lim k 7))) = true
 obtain rfl | rfl | rfl | rfl | rfl | rfl : k = 1 \/ k = 2 \/ k = 3 \/ k = 4 \/ k = 5 \/ k = 6 := by omega
 all_goals simp only [Bool.and_eq_true, decide_eq_true_eq]
 ·have e : lim 1 0 = 1 /\ lim 1 1 = 6 /\ lim 1 2 = 0 /\ lim 1 3 = 0 /\ lim 1 4 = 0 /\ lim 1 5 = 0 /\ lim 1 6 = 0 /\ lim 1 7 = 0 := by decide
  omega
 ·have e : lim 2 0 = 1 /\ lim 2 1 = 2 /\ lim 2 2 = 1 /\ lim 2 3 = 6 /\ lim 2 4 = 0 /\ lim 2 5 = 0 /\ lim 2 6 = 0 /\ lim 2 7 = 0 := by decide
  omega
 ·have e : lim 3 0 = 1 /\ lim 3 1 = 2 /\ lim 3 2 = 1 /\ lim 3 3 = 6 /\ lim 3 4 = 0 /\ lim 3 5 = 0 /\ lim 3 6 = 0 /\ lim 3 7 = 0 := by decide
  omega
 ·have e : lim 4 0 = 0 /\ lim 4 1 = 0 /\ lim 4 2 = 1 /\ lim 4 3 = 6 /\ lim 4 4 = 1 /\ lim 4 5 = 2 /\ lim 4 6 = 0 /\ lim 4 7 = 0 := by decide
  omega
 ·have e : lim 5 0 = 1 /\ lim 5 1 = 6 /\ lim 5 2 = 0 /\ lim 5 3 = 0 /\ lim 5 4 = 0 /\ lim 5 5 = 0 /\ lim 5 6 = 0 /\ lim 5 7 = 3 := by decide
  omega
 ·have e : lim 6 0 = 1 /\ lim 6 1 = 6 /\ lim 6 2 = 0 /\ lim 6 3 = 0 /\ lim 6 4 = 0 /\ lim 6 5 = 0 /\ lim 6 6 = 0 /\ lim 6 7 = 0 := by decide
  omega
theorem NumOk.ranked (h : NumOk k ns np nl ra lv ag) : rankedB (dealtG k ns np nl ra lv ag rules st) = true := by
 have l3 : (dealtG k ns np nl ra lv ag rules st).letters.length = nl := nmL_len _ _
 unfold rankedB
 rw [l3]
 show (if k = 3 then decide (ra.length = nl) && ra.all fun r => betweenB r 0 5 else ra.length == 0) = true
 by_cases h3 : k = 3
 ·obtain ⟨a, b⟩ := h.ranks.1 h3
  rw [if_pos h3, decide_eq_true a, Bool.true_and, List.all_eq_true]
  intro x hx
  have := b x hx
  unfold betweenB
  rw [decide_eq_true this.1, decide_eq_true (by omega)]; rfl
 ·rw [if_neg h3, h.ranks.2 h3]; rfl
theorem NumOk.between (h : NumOk k ns np nl ra lv ag) : betweenB k 1 6 = true := by
 unfold betweenB
 rw [decide_eq_true h.kind.1, decide_eq_true h.kind.2]; rfl
theorem NumOk.own (h : NumOk k ns np nl ra lv ag) : OwnX (dealtG k ns np nl ra lv ag rules st) := by
 have hf := h.few
 refine ⟨h.between, h.sized (rules := []) (st := zeroV) (by simp), h.ranked, ?_, fun s hs => ?_⟩
 ·have := names_g (k := k) (c := 0) h.states hf.1 hf.2 (by omega)
  rw [show rkL 0 0 = [] from rfl, List.append_nil] at this
  exact this
 ·rcases List.mem_append.1 hs with hs | hs
  ·rcases List.mem_append.1 hs with hs | hs
   ·exact nm_size (a := qB) (by decide) s hs
   ·refine nm_size (a := plB k) ?_ s hs
    unfold plB; split <;> decide
  ·exact nm_size (a := lB) (by decide) s hs
end
structure DealtG (k : Int) (ns np nl : Nat) (ra : List Int) (lv ag : Int) (rules : List RD) (st : CV) : Prop where
 num : NumOk k ns np nl ra lv ag
 few : rules.length <= 4
 names : rules.map RD.name = rkL rules.length rules.length
 rules : ∀ r ∈ rules, rightR (dealtG k ns np nl ra lv ag [] zeroV) r = true /\ LenR r
 start : if k = 6 then st = zeroV else validV (typeM (dealtG k ns np nl ra lv ag [] zeroV)) st = true
 slim : st.Slim
section
variable {k : Int} {ns np nl : Nat} {ra : List Int} {lv ag : Int} {rules : List RD} {st : CV}
theorem DealtG.len (h : DealtG k ns np nl ra lv ag rules st) : LenM (dealtG k ns np nl ra lv ag rules st) := by
 have hn := h.num
 have hf := hn.few
 have h4 := h.few
 have e : namesOf (dealtG k ns np nl ra lv ag rules st) = nmL qB ns ++ nmL (plB k) np ++ nmL lB nl ++ rules.map RD.name := rfl
 have hs := hn.states
 refine ⟨?_, ?_, ?_, fun r hr => (h.rules r hr).2, h.slim.ok⟩
 ·rw [e]
  simp only [List.length_append, List.length_map, nmL_len]
  omega
 ·rw [e]
  intro s hs
  rcases List.mem_append.1 hs with hs | hs
  ·exact hn.own (rules := []) (st := zeroV) |>.sizes s hs
  ·rw [h.names] at hs
   obtain ⟨i, _, rfl⟩ := List.mem_map.1 hs
   have e : (nm1 rB (rules.length - i)).size = rB.size + 1 := by unfold nm1; rw [ByteArray.size_append]; rfl
   have : rB.size = 1 := rfl
   omega
 ·show ra.length <= _
  by_cases h3 : k = 3
  ·have := (hn.ranks.1 h3).1; omega
  ·rw [hn.ranks.2 h3]; simp
end
theorem DealtX.of1 {m : MD} {x : RD} (hk : m.kind = 1) (hp : m.places.length <= 6) (h : DealtR m.states.length m.places.length x) (hn : x.name = emptyB) : DealtX m x := by
 have hb := dealt_ruleB h
 unfold ruleB at hb
 simp only [Bool.and_eq_true] at hb
 have h3 := h.need.1; have h4 := h.give.1
 refine ⟨right_mk (ends_mk h.dst h.src) ?_ ?_, hn, ?_⟩
 ·unfold fitsR
  rw [if_pos hk, hb.1.2, hb.2]; rfl
 ·rw [hk]
  exact (bare_of h.bare).symm
 ·have hm : x.move.length <= 6 := by rcases h.move with h | h <;> omega
  have e := bare_of h.bare
  rw [e]
  exact ⟨⟨by show x.need.length <= _; omega, by show x.give.length <= _; omega, by show x.move.length <= _; omega, by simp, by simp, by simp, by simp⟩, by simp, by simp⟩
theorem con_dRuleX (l : List Int) (s : DS) {k : Int} {ns np nl : Nat} {ra : List Int} {lv ag : Int} (hd : Dk l s) (h : NumOk k ns np nl ra lv ag) : RuleCon l s (dealtG k ns np nl ra lv ag [] zeroV) := by
 have h1 := h.kind; have h2 := h.states; have h3 := h.places; have h4 := h.letters; have h5 := h.levels; have h6 := h.age
 have l1 : (dealtG k ns np nl ra lv ag [] zeroV).states.length = ns := nmL_len _ _
 have l2 : (dealtG k ns np nl ra lv ag [] zeroV).places.length = np := nmL_len _ _
 have l3 : (dealtG k ns np nl ra lv ag [] zeroV).letters.length = nl := nmL_len _ _
 have hs : 1 <= (dealtG k ns np nl ra lv ag [] zeroV).states.length /\ (dealtG k ns np nl ra lv ag [] zeroV).states.length <= 8 := by rw [l1]; omega
 have hc : k = 1 \/ k = 2 \/ k = 3 \/ k = 4 \/ k = 5 \/ k = 6 := by omega
 rcases hc with hk | hk | hk | hk | hk | hk
 ·refine (con_dRule1 l s (dealtG k ns np nl ra lv ag [] zeroV) hd hk hs (by rw [l2]; omega)).mono fun r b ⟨x, s', g1, g2, g3, g4, g5⟩ => ?_
  exact ⟨x, s', .of1 hk (by rw [l2]; omega) g1 g2, g3, g4, g5⟩
 ·exact con_dRule2 l s _ hd hk (by rw [l2]; omega) (by rw [l3]; omega) hs
 ·exact con_dRule3 l s _ hd hk (by rw [l2]; omega) (by rw [l3]; omega) hs
 ·exact con_dRule4 l s _ hd hk (by rw [l3]; omega) (show 1 <= lv /\ lv <= 2 by omega) hs
 ·exact con_dRule5 l s _ hd hk (by rw [l2]; omega) (show 0 <= ag /\ ag <= 3 by omega) hs
 ·exact con_dRule6 l s _ hd hk (by rw [l2]; omega) hs
theorem con_dRanksF (l : List Int) (s : DS) (n : Nat) (h : Dk l s) (hn : n <= 1000000) : Con Tryz.prog 60 [.pb 0 0, vi n] [deckA l s]
  fun r b => r = vs 0 (smV l s 2 n) /\ b = [deckA l (smS l s 2 n)] := by
 refine Con.intro Tryz.func60 rfl Tryz.ntmps60 Tryz.results60 (by kernel_rfl) (by simp) 1 (by simp) ?_
 simp only [go_sem]
 refine CallU.boxes (i := 0) (is := []) (bx0 := [deckA l s]) (con_dSmallF l s n 2 h hn (by omega)) (by simp only [go_sem]) (by simp only [go_sem]) (by simp only [go_sem]) (by simp only [go_sem]) (by simp only [go_sem]) ?_
 rintro r b ⟨rfl, rfl⟩
 simp only [go_sem]
theorem plB_1 : plB 1 = pB := by unfold plB; rw [if_neg (by omega)]
theorem plB_2 : plB 2 = cB := by unfold plB; rw [if_pos (by omega)]
theorem plB_3 : plB 3 = cB := by unfold plB; rw [if_pos (by omega)]
theorem plB_5 : plB 5 = pB := by unfold plB; rw [if_neg (by omega)]
theorem plB_6 : plB 6 = pB := by unfold plB; rw [if_neg (by omega)]
theorem nmL_zero (a : ByteArray) : nmL a 0 = [] := rfl
theorem num1 {ns np : Nat} (a : 1 <= ns /\ ns <= 3) (b : 1 <= np /\ np <= 3) : NumOk 1 ns np 0 [] 0 0 := ⟨by omega, a, by omega, by omega, ⟨fun h => by omega, fun _ => rfl⟩, by omega, by omega⟩
theorem num2 {ns np nl : Nat} (a : 1 <= ns /\ ns <= 3) (b : 1 <= np /\ np <= 2) (c : 1 <= nl /\ nl <= 3) : NumOk 2 ns np nl [] 0 0 := ⟨by omega, a, by omega, by omega, ⟨fun h => by omega, fun _ => rfl⟩, by omega, by omega⟩
theorem num3 {ns np nl : Nat} {ra : List Int} (a : 1 <= ns /\ ns <= 3) (b : 1 <= np /\ np <= 2) (c : 1 <= nl /\ nl <= 3) (d : ra.length = nl) (e : ∀ x ∈ ra, 0 <= x /\ x <= 2) : NumOk 3 ns np nl ra 0 0 := ⟨by omega, a, by omega, by omega, ⟨fun _ => ⟨d, e⟩, fun h => by omega⟩, by omega, by omega⟩
theorem num4 {ns nl : Nat} {lv : Int} (a : 1 <= ns /\ ns <= 3) (c : 1 <= nl /\ nl <= 3) (d : 1 <= lv /\ lv <= 2) : NumOk 4 ns 0 nl [] lv 0 := ⟨by omega, a, by omega, by omega, ⟨fun h => by omega, fun _ => rfl⟩, by omega, by omega⟩
theorem num5 {ns np : Nat} {ag : Int} (a : 1 <= ns /\ ns <= 3) (b : 1 <= np /\ np <= 3) (d : 0 <= ag /\ ag <= 2) : NumOk 5 ns np 0 [] 0 ag := ⟨by omega, a, by omega, by omega, ⟨fun h => by omega, fun _ => rfl⟩, by omega, by omega⟩
theorem num6 {ns np : Nat} (a : 1 <= ns /\ ns <= 3) (b : 1 <= np /\ np <= 3) : NumOk 6 ns np 0 [] 0 0 := ⟨by omega, a, by omega, by omega, ⟨fun h => by omega, fun _ => rfl⟩, by omega, by omega⟩
theorem right_name (m : MD) (x : RD) (a : ByteArray) : rightR m { x with name := a } = rightR m x := by
 have e : sameB { x with name := a } (onlyR m.kind { x with name := a }) = sameB x (onlyR m.kind x) := by
  unfold onlyR
  split
  ·unfold sameB; simp
  ·split
   ·unfold sameB; simp
   ·split
    ·unfold sameB; simp
    ·split
     ·unfold sameB; simp
     ·unfold sameB; simp
 unfold rightR
 rw [e]; rfl
end Go.AM
