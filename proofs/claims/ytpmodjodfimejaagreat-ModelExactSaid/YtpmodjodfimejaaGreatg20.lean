/- HV KW HA HB HE HH HI HJ HK HU VW HW0 -/
import Derived.Test.YtpmodjodfimejaaGreatg19
import Derived.Test.YtpmodjodfimejaaGreatg7
import Derived.Test.YtpmodjodfimejaaGreatg11
namespace Go.AM
open Go Go.Proofs Go.RowKit
set_option maxRecDepth 100000
set_option maxHeartbeats 8000000
def blend (n i : Nat) (f g : Nat -> CV) : List CV := (List.range n).map fun p => if p < i then f p else g p
theorem blend_len (n i : Nat) (f g : Nat -> CV) : (blend n i f g).length = n := by simp [blend]
theorem blend_at {n i p : Nat} {f g : Nat -> CV} (h : p < n) : (blend n i f g)[p]! = if p < i then f p else g p := by
 rw [getElem!_pos _ p (by rw [blend_len]; exact h)]; simp [blend]
theorem ext_bangV {l l' : List CV} (h : l.length = l'.length) (he : ∀ p, p < l.length -> l[p]! = l'[p]!) : l = l' :=
 List.ext_getElem h fun p h1 h2 => by have := he p h1; rwa [getElem!_pos l p h1, getElem!_pos l' p h2] at this
theorem bang_setV {l : List CV} {q j : Nat} {x : CV} (h : q < l.length) : (l.set q x)[j]! = if j = q then x else l[j]! := by
 by_cases hj : j < l.length
 ·rw [getElem!_pos _ j (by rw [List.length_set]; exact hj), getElem!_pos l j hj, List.getElem_set]
  by_cases e : q = j
  ·subst e; simp
  ·rw [if_neg e, if_neg (fun h => e h.symm)]
 ·rw [getElem!_neg _ j (by rw [List.length_set]; exact hj), getElem!_neg l j hj, if_neg (by omega)]
theorem blend_set {n i : Nat} {f g : Nat -> CV} (h : i < n) : (blend n i f g).set i (f i) = blend n (i + 1) f g := by
 refine ext_bangV (by rw [List.length_set, blend_len, blend_len]) fun p hp => ?_
 rw [List.length_set, blend_len] at hp
 rw [bang_setV (by rw [blend_len]; exact h), blend_at hp, blend_at hp]
 by_cases e : p = i
 ·subst e; rw [if_pos rfl, if_pos (by omega)]
 ·rw [if_neg e]
  by_cases h2 : p < i
  ·rw [if_pos h2, if_pos (by omega)]
  ·rw [if_neg h2, if_neg (by omega)]
theorem blend_zero {l : List CV} {f : Nat -> CV} : blend l.length 0 f (fun j => l[j]!) = l := by
 refine ext_bangV (by rw [blend_len]) fun p hp => ?_
 rw [blend_len] at hp
 rw [blend_at hp, if_neg (by omega)]
theorem blend_full {n : Nat} {f g : Nat -> CV} : blend n n f g = (List.range n).map f := by
 unfold blend
 refine List.map_congr_left fun p hp => ?_
 rw [if_pos (List.mem_range.1 hp)]
theorem range_map {l : List CV} {f : CV -> CV} : ((List.range l.length).map fun j => f l[j]!) = l.map f := by
 refine ext_bangV (by simp) fun p hp => ?_
 rw [List.length_map, List.length_range] at hp
 rw [getElem!_pos _ p (by simpa using hp), getElem!_pos _ p (by simpa using hp), List.getElem_map, List.getElem_map, List.getElem_range, getElem!_pos l p hp]
theorem set_bangV {l : List CV} {i : Nat} (h : i < l.length) : l.set i l[i]! = l := by
 refine ext_bangV (by simp) fun p hp => ?_
 rw [bang_setV h]
 split
 ·rename_i e; rw [e]
 ·rfl
def swapV (l : List CV) (k : Nat) : List CV := (l.set (k + 1) l[k]!).set k l[k + 1]!
def sinkV : Nat -> List CV -> List CV
 | 0, l => l
 | k + 1, l => if cmpV l[k + 1]! l[k]! < 0 then sinkV k (swapV l k) else l
theorem swapV_len (l : List CV) (k : Nat) : (swapV l k).length = l.length := by simp [swapV]
theorem sinkV_len : ∀ (k : Nat) (l : List CV), (sinkV k l).length = l.length
 | 0, _ => rfl
 | k + 1, l => by
  unfold sinkV
  split
  ·rw [sinkV_len k, swapV_len]
  ·rfl
def isortN (l : List CV) : Nat -> List CV
 | 0 => l
 | i + 1 => sinkV i (isortN l i)
theorem isortN_len (l : List CV) : ∀ i, (isortN l i).length = l.length
 | 0 => rfl
 | i + 1 => by unfold isortN; rw [sinkV_len, isortN_len l i]
def isortV (l : List CV) : List CV := isortN l l.length
theorem mem_swapV {l : List CV} {k : Nat} {x : CV} (hk : k + 1 < l.length) (h : x ∈ swapV l k) : x ∈ l := by
 unfold swapV at h
 rcases List.mem_or_eq_of_mem_set h with h | rfl
 ·rcases List.mem_or_eq_of_mem_set h with h | rfl
  ·exact h
  ·exact mem_bangI (by omega)
 ·exact mem_bangI hk
theorem mem_sinkV {x : CV} : ∀ {k : Nat} {l : List CV}, k < l.length -> x ∈ sinkV k l -> x ∈ l
 | 0, _, _, h => h
 | k + 1, l, hk, h => by
  unfold sinkV at h
  split at h
  ·exact mem_swapV hk (mem_sinkV (by rw [swapV_len]; omega) h)
  ·exact h
theorem mem_isortN {l : List CV} {x : CV} : ∀ {i : Nat}, i <= l.length -> x ∈ isortN l i -> x ∈ l
 | 0, _, h => h
 | i + 1, hi, h => mem_isortN (by omega) (mem_sinkV (by rw [isortN_len]; omega) h)
mutual
def srtT : CV -> TD -> CV
 | .mk n kids, t => .mk n (if t.kind = 5 then isortV (srtA kids t.parts[0]!) else if t.kind = 4 then srtA kids t.parts[0]! else if t.kind = 3 then srtZ kids t.parts else kids)
def srtZ : List CV -> List TD -> List CV
 | [], _ => []
 | x :: l, [] => x :: l
 | x :: l, t :: ts => srtT x t :: srtZ l ts
def srtA : List CV -> TD -> List CV
 | [], _ => []
 | x :: l, t => srtT x t :: srtA l t
end
theorem srtA_map : ∀ (l : List CV) (t : TD), srtA l t = l.map fun x => srtT x t
 | [], _ => by rw [srtA]; rfl
 | x :: l, t => by rw [srtA, srtA_map l t]; rfl
theorem srtZ_len : ∀ (l : List CV) (ts : List TD), (srtZ l ts).length = l.length
 | [], _ => by rw [srtZ]
 | x :: l, [] => by rw [srtZ]
 | x :: l, t :: ts => by rw [srtZ, List.length_cons, srtZ_len l ts]; rfl
theorem srtZ_at : ∀ {l : List CV} {ts : List TD} {j : Nat}, j < l.length -> (srtZ l ts)[j]! = if j < ts.length then srtT l[j]! ts[j]! else l[j]!
 | x :: l, [], j, h => by rw [srtZ, if_neg (by simp)]
 | x :: l, t :: ts, 0, h => by rw [srtZ, if_pos (by simp)]; rfl
 | x :: l, t :: ts, j + 1, h => by
  have := srtZ_at (l := l) (ts := ts) (j := j) (by simpa using h)
  rw [srtZ]
  simpa using this
def srtF (v : CV) (t : TD) (j : Nat) : CV := if t.kind = 3 /\ j < t.parts.length then srtT v.kids[j]! t.parts[j]! else if t.kind = 4 \/ t.kind = 5 then srtT v.kids[j]! t.parts[0]! else v.kids[j]!
def srtK (v : CV) (t : TD) : List CV := (List.range v.kids.length).map (srtF v t)
theorem srtK_len (v : CV) (t : TD) : (srtK v t).length = v.kids.length := by simp [srtK]
theorem srtK_at {v : CV} {t : TD} {j : Nat} (h : j < v.kids.length) : (srtK v t)[j]! = srtF v t j := by
 rw [getElem!_pos _ j (by rw [srtK_len]; exact h)]; simp [srtK]
theorem srt_eq (v : CV) (t : TD) : srtT v t = .mk v.n (if t.kind = 5 then isortV (srtK v t) else srtK v t) := by
 have e : srtT v t = .mk v.n (if t.kind = 5 then isortV (srtA v.kids t.parts[0]!) else if t.kind = 4 then srtA v.kids t.parts[0]! else if t.kind = 3 then srtZ v.kids t.parts else v.kids) := by cases v; rw [srtT]; rfl
 have e45 : t.kind = 4 \/ t.kind = 5 -> srtA v.kids t.parts[0]! = srtK v t := fun h => by
  rw [srtA_map]
  unfold srtK
  rw [<- range_map]
  refine List.map_congr_left fun j _ => ?_
  unfold srtF
  rw [if_neg (by omega), if_pos h]
 rw [e]
 by_cases h5 : t.kind = 5
 ·rw [if_pos h5, if_pos h5, e45 (.inr h5)]
 rw [if_neg h5, if_neg h5]
 by_cases h4 : t.kind = 4
 ·rw [if_pos h4, e45 (.inl h4)]
 rw [if_neg h4]
 by_cases h3 : t.kind = 3
 ·rw [if_pos h3]
  refine congrArg _ (ext_bangV (by rw [srtZ_len, srtK_len]) fun j hj => ?_)
  rw [srtZ_len] at hj
  rw [srtZ_at hj, srtK_at hj]
  unfold srtF
  by_cases hp : j < t.parts.length
  ·rw [if_pos hp, if_pos ⟨h3, hp⟩]
  ·rw [if_neg hp, if_neg (fun h => hp h.2), if_neg (by omega)]
 ·rw [if_neg h3]
  refine congrArg _ (ext_bangV (by rw [srtK_len]) fun j hj => ?_)
  rw [srtK_at hj]
  unfold srtF
  rw [if_neg (fun h => h3 h.1), if_neg (by omega)]
theorem CV.Slim.ok {a : CV} (h : a.Slim) : a.Ok := by
 have key : ∀ (N : Nat) (a : CV), SizeOf.sizeOf a <= N -> a.Slim -> a.Ok := by
  intro N
  induction N with
  | zero => intro a hs; cases a; rw [CV.mk.sizeOf_spec] at hs; omega
  | succ N ih =>
   intro a hs ha
   obtain ⟨n, k⟩ := a
   have hl := ha.len
   exact .mk n k (by show k.length <= _; have : k.length <= 1000000 := hl; omega) fun x hx => ih x (by have := kid_size (a := .mk n k) hx; omega) (ha.kid hx)
 exact key _ a (Nat.le_refl _) h
theorem srt_slim : ∀ (N : Nat) (v : CV) (t : TD), SizeOf.sizeOf v <= N -> v.Slim -> (srtT v t).Slim := by
 intro N
 induction N with
 | zero => intro v t hs; cases v; rw [CV.mk.sizeOf_spec] at hs; omega
 | succ N ih =>
  intro v t hs hv
  have hk : ∀ x ∈ srtK v t, x.Slim := fun x hx => by
   unfold srtK at hx
   obtain ⟨j, hj, rfl⟩ := List.mem_map.1 hx
   have hj := List.mem_range.1 hj
   have hm : v.kids[j]! ∈ v.kids := mem_bangI hj
   have hsz := kid_size hm
   unfold srtF
   split
   ·exact ih _ _ (by omega) (hv.kid hm)
   ·split
    ·exact ih _ _ (by omega) (hv.kid hm)
    ·exact hv.kid hm
  have hl := hv.len
  rw [srt_eq]
  split
  ·exact .mk _ _ (by unfold isortV; rw [isortN_len, srtK_len]; exact hl) fun x hx => hk x (mem_isortN (Nat.le_refl _) hx)
  ·exact .mk _ _ (by rw [srtK_len]; exact hl) hk
theorem modKV {L : List CV} {i : Nat} {x : CV} (h : i < L.length) : (L.map vV).modify i (updElem 0 [.sc (.int .i64 x.n), .sl 0 2 (x.kids.map vV)]) = (L.set i x).map vV := by
 have h2 : (L.map vV)[i]? = some (.ag [vi L[i]!.n, .sl 0 2 (L[i]!.kids.map vV)]) := by rw [List.getElem?_map, List.getElem?_eq_getElem h, getElem!_pos L i h, <- vV_eq]; rfl
 rw [mod_set h2, List.map_set, vV_eq x]; rfl
theorem con_rsortedG : ∀ (N d : Nat) (v : CV) (t : TD), SizeOf.sizeOf v <= N -> v.Slim -> t.Ok -> rightT d t = true -> Con Tryz.prog 152 [vT t, vV v] [] fun r _ => r = ownV 2 (srtT v t) := by
 intro N
 induction N with
 | zero => intro d v t hs; cases v; rw [CV.mk.sizeOf_spec] at hs; omega
 | succ N ih =>
  intro d v t hs hv ht hr
  have hlen := hv.len
  have hpl := ht.plen
  have hf := right_fit d t hr
  have hcp := con_rcopyV v hv
  have hrec : ∀ x ∈ v.kids, ∀ p ∈ t.parts, Con Tryz.prog 152 [vT p, vV x] [] fun r _ => r = ownV 0 (srtT x p) := fun x hx p hp => Con.froz (ih (d - 1) x p (by have := kid_size hx; omega) (hv.kid hx) (ht.part hp) (right_parts hr p hp))
  have e0 := vV_eq v
  have e1 := vT_eq t
  rw [e0] at hcp
  rw [e0, e1, srt_eq]
  refine Con.intro Tryz.func152 rfl Tryz.ntmps152 Tryz.results152 (by kernel_rfl) (by simp) 0 (by simp) ?_
  simp only [go_sem]
  refine CallU.free hcp (by simp only [go_sem]) (by simp only [go_sem]) ?_
  rintro r bx rfl
  obtain ⟨n, hn⟩ : ∃ n, n = v.kids.length := ⟨_, rfl⟩
  obtain ⟨g, hg⟩ : ∃ g : Nat -> CV, g = fun j => v.kids[j]! := ⟨_, rfl⟩
  have b0 : v.kids = blend n 0 (srtF v t) g := by rw [hn, hg, blend_zero]
  simp only [go_sem]
  refine LoopK.intro (fun i : Nat => ⟨117, [(2, .pb 0 0), (4, .pb 2 0), (5, .pb 3 0), (6, vi i)], [[vi t.kind, vi t.size, vs 0 t.ranks, .sl 0 4 (t.parts.map vT)], [.any, .any], [.any, .any], [vi v.n, .sl 706 2 ((blend n i (srtF v t) g).map vV)]]⟩)
   (fun i => n - i) (fun i => i <= n) 0 (by omega) ?_ ?_
  ·rw [<- b0]
   simp only [go_sem]
  rintro i hi
  have hbl := blend_len n i (srtF v t) g
  by_cases h : i < n
  ·have hw : IntKind.i64.wrap (i + 1) = i + 1 := wrap_in (by omega) (by omega)
   have hbi : i < (blend n i (srtF v t) g).length := by omega
   have hgb := getvV hbi
   have hat : (blend n i (srtF v t) g)[i]! = v.kids[i]! := by rw [blend_at h, if_neg (by omega), hg]
   have hmem : v.kids[i]! ∈ v.kids := mem_bangI (by omega)
   have hset := blend_set (f := srtF v t) (g := g) h
   rw [hat] at hgb
   by_cases k3 : t.kind = 3
   ·have b3 : (t.kind == 3) = true := beq_iff_eq.2 k3
    have b4 : (t.kind == 4) = false := by rw [k3]; rfl
    have b5 : (t.kind == 5) = false := by rw [k3]; rfl
    by_cases hp : i < t.parts.length
    ·have hg2 := getvT hp
     have hcall := hrec _ hmem _ (mem_bangI hp)
     rw [vT_eq, vV_eq] at hcall
     have hfi : srtF v t i = srtT v.kids[i]! t.parts[i]! := by unfold srtF; rw [if_pos ⟨k3, hp⟩]
     simp only [go_sem, hbl, h, b3, hp, List.length_map]
     refine DrawK.walk 14 mixed (by kernel_rfl) ?_
     simp only [go_sem, hbi, hp, hgb, hg2]
     refine CallY.mk hcall (by simp only [go_sem]) (by simp only [go_sem]) (.inl (by simp only [go_sem])) ?_
     have hm := modKV (x := srtF v t i) hbi
     rw [hset, hfi] at hm
     simp only [go_sem, hbi, hm, b4, b5, hw]
     refine roundK.intro (i + 1) (by omega) (by omega) ?_
     simp only [go_sem]
    ·have hfi : srtF v t i = v.kids[i]! := by unfold srtF; rw [if_neg (fun h => hp h.2), if_neg (by omega)]
     have hnx : blend n i (srtF v t) g = blend n (i + 1) (srtF v t) g := by
      rw [<- hset, hfi, <- hat]
      exact (set_bangV hbi).symm
     simp only [go_sem, hbl, h, b3, b4, b5, hp, List.length_map, hw]
     rw [hnx]
     refine roundK.intro (i + 1) (by omega) (by omega) ?_
     simp only [go_sem]
   have b3 : (t.kind == 3) = false := beq_eq_false_iff_ne.2 k3
   by_cases k45 : t.kind = 4 \/ t.kind = 5
   ·have hp1 := hf.one k45
    have hp : 0 < t.parts.length := by omega
    have hg2 := getvT hp
    have hcall := hrec _ hmem _ (mem_bangI hp)
    rw [vT_eq, vV_eq] at hcall
    have hfi : srtF v t i = srtT v.kids[i]! t.parts[0]! := by unfold srtF; rw [if_neg (fun h => k3 h.1), if_pos k45]
    have hm := modKV (x := srtF v t i) hbi
    rw [hset, hfi] at hm
    have b45 : (t.kind == 4) = true \/ ((t.kind == 4) = false /\ (t.kind == 5) = true) := by
     rcases k45 with h | h
     ·exact .inl (beq_iff_eq.2 h)
     ·exact .inr ⟨beq_eq_false_iff_ne.2 (by omega), beq_iff_eq.2 h⟩
    rcases b45 with b4 | ⟨b4, b5⟩
    ·simp only [go_sem, hbl, h, b3, b4, List.length_map]
     refine DrawK.walk 13 mixed (by kernel_rfl) ?_
     simp only [go_sem, hbi, hp, hgb, hg2]
     refine CallY.mk hcall (by simp only [go_sem]) (by simp only [go_sem]) (.inl (by simp only [go_sem])) ?_
     simp only [go_sem, hbi, hm, hw]
     refine roundK.intro (i + 1) (by omega) (by omega) ?_
     simp only [go_sem]
    ·simp only [go_sem, hbl, h, b3, b4, b5, List.length_map]
     refine DrawK.walk 13 mixed (by kernel_rfl) ?_
     simp only [go_sem, hbi, hp, hgb, hg2]
     refine CallY.mk hcall (by simp only [go_sem]) (by simp only [go_sem]) (.inl (by simp only [go_sem])) ?_
     simp only [go_sem, hbi, hm, hw]
     refine roundK.intro (i + 1) (by omega) (by omega) ?_
     simp only [go_sem]
   ·have b4 : (t.kind == 4) = false := beq_eq_false_iff_ne.2 (by omega)
    have b5 : (t.kind == 5) = false := beq_eq_false_iff_ne.2 (by omega)
    have hfi : srtF v t i = v.kids[i]! := by unfold srtF; rw [if_neg (fun h => k3 h.1), if_neg k45]
    have hnx : blend n i (srtF v t) g = blend n (i + 1) (srtF v t) g := by
     rw [<- hset, hfi, <- hat]
     exact (set_bangV hbi).symm
    simp only [go_sem, hbl, h, b3, b4, b5, hw]
    rw [hnx]
    refine roundK.intro (i + 1) (by omega) (by omega) ?_
    simp only [go_sem]
  have ei : i = n := by omega
  have hfull : blend n n (srtF v t) g = srtK v t := by rw [blend_full, hn]; rfl
  rw [ei, hfull]
  have hll : ¬ n < n := by omega
  have hKl : (srtK v t).length = n := by rw [srtK_len, hn]
  have hKs : ∀ x ∈ srtK v t, x.Ok := fun x hx => by
   unfold srtK at hx
   obtain ⟨j, hj, rfl⟩ := List.mem_map.1 hx
   have hj := List.mem_range.1 hj
   have hm : v.kids[j]! ∈ v.kids := mem_bangI hj
   unfold srtF
   split
   ·exact (srt_slim _ _ _ (Nat.le_refl _) (hv.kid hm)).ok
   ·split
    ·exact (srt_slim _ _ _ (Nat.le_refl _) (hv.kid hm)).ok
    ·exact (hv.kid hm).ok
  generalize srtK v t = K at hKl hKs
  by_cases k5 : t.kind = 5
  case neg =>
   have b5 : (t.kind != 5) = true := bne_iff_ne.2 k5
   rw [if_neg k5]
   simp only [go_sem, hKl, hll, b5]
   rfl
  have b5 : (t.kind != 5) = false := by rw [k5]; rfl
  rw [if_pos k5]
  simp only [go_sem, hKl, hll, b5]
  refine LoopK.intro (fun i : Nat => ⟨117, [(4, .pb 2 0), (5, .pb 3 0), (7, vi i)], [[.any, .any, .any, .any], [.any, .any], [.any, .any], [vi v.n, .sl 706 2 ((isortN K i).map vV)]]⟩)
   (fun i => n - i) (fun i => 1 <= i /\ (n = 0 \/ i <= n)) 1 ⟨by omega, by omega⟩ ?_ ?_
  ·have : isortN K 1 = K := rfl
   rw [this]
   simp only [go_sem]
  rintro i ⟨hi1, hi⟩
  have hIl := isortN_len K i
  by_cases h : i < n
  case neg =>
   have ei : isortN K i = isortV K := by
    unfold isortV
    rw [hKl]
    by_cases h0 : n = 0
    ·have hk0 : K = [] := List.length_eq_zero_iff.1 (by omega)
     rw [hk0]
     have key : ∀ i, isortN [] i = [] := fun i => List.length_eq_zero_iff.1 (by rw [isortN_len]; rfl)
     rw [key, key]
    ·rw [show i = n by omega]
   have hIv : (isortV K).length = n := by rw [<- ei, hIl, hKl]
   rw [ei]
   simp only [go_sem, hIv, h]
   rfl
  have hn2 : n <= 1000000 := by omega
  have hw : IntKind.i64.wrap (i + 1) = i + 1 := wrap_in (by omega) (by omega)
  obtain ⟨T, hT⟩ : ∃ T, T = sinkV i (isortN K i) := ⟨_, rfl⟩
  have hTn : isortN K (i + 1) = T := by rw [hT]; rfl
  have hmemK : ∀ x ∈ isortN K i, x.Ok := fun x hx => hKs x (mem_isortN (by omega) hx)
  simp only [go_sem, hIl, hKl, h]
  refine LoopK.intro (fun p : Nat × List CV => ⟨117, [(4, .pb 2 0), (5, .pb 3 0), (7, vi i), (8, vi p.1)], [[.any, .any, .any, .any], [.any, .any], [.any, .any], [vi v.n, .sl 706 2 (p.2.map vV)]]⟩)
   (fun p => p.1) (fun p => p.1 < n /\ p.2.length = n /\ sinkV p.1 p.2 = T /\ ∀ x ∈ p.2, x.Ok) (i, isortN K i) ⟨h, by rw [hIl, hKl], hT.symm, hmemK⟩ ?_ ?_
  ·simp only [go_sem]
  rintro ⟨k, L⟩ ⟨g1, g2, g3, g4⟩
  simp only at g1 g2 g3 g4
  cases k with
  | zero =>
   have e : L = T := g3
   simp only [go_sem]
   refine DrawK.walk 17 mixed (by kernel_rfl) ?_
   have hz : ¬ (0 : Int) < ((0 : Nat) : Int) := by omega
   simp only [go_sem, hw]
   refine roundK.intro (i + 1) ⟨by omega, .inr (by omega)⟩ (by omega) ?_
   rw [hTn, <- e]
   simp only [go_sem]
  | succ k =>
   have h1 : k + 1 < L.length := by omega
   have h2 : k < L.length := by omega
   have hz : (0 : Int) < (k : Int) + 1 := by omega
   have hwk : IntKind.i64.wrap ((k : Int) + 1 - 1) = (k : Int) := by rw [wrap_in (by omega) (by omega)]; omega
   have ht : ((k : Int) + 1).toNat = k + 1 := by omega
   have hnn : (0 : Int) <= (k : Int) + 1 := by omega
   have hq : (k : Int) + 1 < (L.length : Int) := by omega
   have q1 := getvV h1
   have q2 := getvV h2
   have hc := con_rcompare _ L[k + 1]! L[k]! (Nat.le_refl _) (g4 _ (mem_bangI h1)) (g4 _ (mem_bangI h2))
   rw [vV_eq L[k + 1]!, vV_eq L[k]!] at hc
   simp only [go_sem]
   refine DrawK.walk 17 mixed (by kernel_rfl) ?_
   simp only [go_sem, hz, hwk, ht, hnn, hq, h2, q1, q2]
   refine CallY.mk hc (by simp only [go_sem]) (by simp only [go_sem]) (.inl (by simp only [go_sem])) ?_
   by_cases hneg : cmpV L[k + 1]! L[k]! < 0
   ·have e : sinkV k (swapV L k) = T := by rw [<- g3]; conv => rhs; unfold sinkV; rw [if_pos hneg]
    have sl := swapV_len L k
    have hs1 := modKV (x := L[k]!) h1
    have hs2 := modKV (L := L.set (k + 1) L[k]!) (x := L[k + 1]!) (i := k) (by rw [List.length_set]; exact h2)
    have hsw : (L.set (k + 1) L[k]!).set k L[k + 1]! = swapV L k := rfl
    rw [hsw] at hs2
    have hmem' : ∀ x ∈ swapV L k, x.Ok := fun x hx => g4 x (mem_swapV h1 hx)
    simp only [go_sem, hneg]
    refine DrawK.meet ⟨117, [(4, .pb 2 0), (5, .pb 3 0), (7, vi i), (8, vi ((k : Int) + 1))], [[.any, .any, .any, .any], [.any, .any], [.any, .any], [vi v.n, .sl 706 2 ((swapV L k).map vV)]]⟩ ?_ ?_
    ·refine DrawK.effs0 0 [] [3, 5, 6] 18 (.front 18 (.one 19 (.front 20 (.one 21 .done)))) (some (4, .front 18 (.alt (.one 4 (.one 19 (.front 20 (.one 21 .done)))) (.one 19 (.one 4 (.front 20 (.one 21 .done))))))) [.any, .any, .any, .any] mixed (by kernel_rfl) (by kernel_rfl) (by simp only [go_sem]) (by simp only [go_sem]) ?_
     simp only [go_sem, hwk, ht, hnn, hq, h2, q1, q2]
     repeat' (first | with_reducible apply andK_mk | exact trivial | simp only [go_sem, hwk, ht, hnn, hq, h2, hs1, hs2, List.length_set, List.length_map])
    ·simp only [go_sem, hwk]
     refine roundK.intro (k, swapV L k) ⟨by omega, by rw [sl]; exact g2, e, hmem'⟩ (by show k < k + 1; omega) ?_
     simp only [go_sem]
   ·have e : L = T := by rw [<- g3]; unfold sinkV; rw [if_neg hneg]
    simp only [go_sem, hneg, hw]
    refine roundK.intro (i + 1) ⟨by omega, .inr (by omega)⟩ (by omega) ?_
    rw [hTn, <- e]
    simp only [go_sem]
theorem with_slim {s : Int} {l : List CV} (hl : l.length <= 1000) (hs : ∀ x ∈ l, x.Slim) : (withC s l).Slim := .mk _ _ (by rw [List.length_cons]; omega) fun x hx => by
 rcases List.mem_cons.1 hx with rfl | hx
 ·exact .leaf _
 ·exact hs x hx
def noV : CV := .mk 0 []
def bigB (l : List CV) : Bool := decide (8 < l.length) || l.any fun x => decide (128 < countV x 128)
def confP (m : MD) (s : Int) (l : List CV) : CV × Int := if checkF m ≠ 0 then (noV, checkF m) else if bigB l = true then (noV, 17) else if validV (typeM m) (withC s l) = true then (withC s l, 0) else (noV, 17)
def confR (m : MD) (s : Int) (l : List CV) : CV × Int := if checkF m ≠ 0 then (noV, checkF m) else if validV (typeM m) (withC s l) = true then (withC s l, 0) else (noV, 17)
theorem con_conf1 (v : CV) (hv : v.Ok) : Con Tryz.prog 90 [vV v] [] fun r _ => r = .sc (.bool (decide (128 < countV v 128))) := by
 have e0 := vV_eq v
 have hs := con_size v hv
 rw [e0] at hs ⊢
 refine Con.intro Tryz.func90 rfl Tryz.ntmps90 Tryz.results90 (by kernel_rfl) (by simp) 0 (by simp) ?_
 simp only [go_sem]
 refine CallU.free hs (by simp only [go_sem]) (by simp only [go_sem]) ?_
 rintro r bx rfl
 simp only [go_sem]
theorem con_ConfigP (m : MD) (s : Int) (l : List CV) (h : LenM m) (hl : l.length <= 1000) (hs : ∀ x ∈ l, x.Slim) : Con Tryz.prog 34 [vM m, vi s, vrow l] [] fun r _ => r = .tup [ownV 0 (confP m s l).1, vi (confP m s l).2] := by
 have key : Con Tryz.prog 34 [vM m, vi s, vrow l] [] fun r _ => leV (r.freeze fun _ => true) (.tup [ownV 0 (confP m s l).1, vi (confP m s l).2]) := by
  have e1 : vM m = .ag [vi m.kind, vss m.states, vss m.places, vss m.letters, vs 0 m.ranks, vi m.levels, vi m.age, .sl 0 14 (m.rules.map vRule), vi m.start.n, .sl 0 2 (m.start.kids.map vV)] := rfl
  have cc := con_CheckG m h
  have hno : leV (.ag [vi 0, .nil]) (ownV 0 noV) := leV_ag ⟨leV_refl _, leV_nil _ _, trivial⟩
  unfold vrow
  rw [e1]
  refine Con.intro Tryz.func34 rfl Tryz.ntmps34 Tryz.results34 (by kernel_rfl) (by simp) 0 (by simp) ?_
  unfold confP
  simp only [go_sem, vss]
  refine CallU.free cc (by simp only [go_sem]) (by simp only [go_sem, vss]) ?_
  rintro r bx rfl
  by_cases h0 : checkF m = 0
  case neg =>
   have hn : (checkF m != 0) = true := bne_iff_ne.2 h0
   rw [if_pos h0]
   simp only [go_sem, hn]
   exact leV_tup ⟨hno, leV_refl _, trivial⟩
  have hn : (checkF m != 0) = false := by rw [h0]; rfl
  rw [if_neg (fun h => h h0)]
  unfold bigB
  by_cases h8 : 8 < l.length
  ·have h8' : (8 : Int) < (l.length : Int) := by omega
   rw [decide_eq_true h8, Bool.true_or, if_pos rfl]
   simp only [go_sem, hn, h8', List.length_map]
   exact leV_tup ⟨hno, leV_refl _, trivial⟩
  have h8' : ¬ (8 : Int) < (l.length : Int) := by omega
  rw [decide_eq_false h8, Bool.false_or]
  have hcon := con_containsVal l 90 [] (fun x => decide (128 < countV x 128)) rfl (fun x hx => con_conf1 x (hs x hx).ok) (by omega)
  simp only [go_sem, hn, h8', List.length_map]
  refine CallU.free hcon (by simp only [go_sem]) (by simp only [go_sem]) ?_
  rintro r bx rfl
  cases hb : l.any fun x => decide (128 < countV x 128)
  case true =>
   rw [if_pos rfl]
   simp only [go_sem]
   exact leV_tup ⟨hno, leV_refl _, trivial⟩
  rw [if_neg (by decide)]
  have hw := con_mWith s l hl hs
  unfold vrow at hw
  simp only [go_sem]
  refine CallU.free hw (by simp only [go_sem]) (by simp only [go_sem]) ?_
  rintro r bx rfl
  have hz := checkF_zero h0
  have hsz := sized_size h hz.2.1 hz.2.2.1
  have ct := con_typedG m hsz.1
  have cv := con_oValid (typeM m) (withC s l) (type_ok hsz.1 hsz.2) (with_slim hl hs).ok
  have e2 := vT_eq (typeM m)
  rw [e2] at ct cv
  rw [vV_eq] at cv
  simp only [go_sem]
  refine DrawK.freeze (fun _ => true) ?_
  simp only [go_sem]
  refine DrawK.walk 5 mixed (by kernel_rfl) ?_
  simp only [go_sem]
  refine CallY.mk ct (by simp only [go_sem, vss]) (by simp only [go_sem]) (.inl (by simp only [go_sem])) ?_
  simp only [go_sem]
  refine CallY.mk cv (by simp only [go_sem]) (by simp only [go_sem]) (.inl (by simp only [go_sem])) ?_
  cases hv : validV (typeM m) (withC s l)
  ·rw [if_neg (by decide)]
   simp only [go_sem]
   exact leV_tup ⟨hno, leV_refl _, trivial⟩
  ·rw [if_pos rfl]
   simp only [go_sem]
   exact leV_refl _
 exact (Con.freezeR (fun _ => true) key).weak fun r b ⟨r0, h0, h1⟩ => by
  subst h1
  exact ⟨_, rfl, h0⟩
theorem con_rConfigG (m : MD) (s : Int) (l : List CV) (h : LenM m) (hl : l.length <= 1000) (hs : ∀ x ∈ l, x.Slim) : Con Tryz.prog 35 [vM m, vi s, vrow l] [] fun r _ => r = .tup [ownV 0 (confR m s l).1, vi (confR m s l).2] := by
 have key : Con Tryz.prog 35 [vM m, vi s, vrow l] [] fun r _ => leV (r.freeze fun _ => true) (.tup [ownV 0 (confR m s l).1, vi (confR m s l).2]) := by
  have e1 : vM m = .ag [vi m.kind, vss m.states, vss m.places, vss m.letters, vs 0 m.ranks, vi m.levels, vi m.age, .sl 0 14 (m.rules.map vRule), vi m.start.n, .sl 0 2 (m.start.kids.map vV)] := rfl
  have cc := con_rCheckG m h
  have hno : leV (.ag [vi 0, .nil]) (ownV 0 noV) := leV_ag ⟨leV_refl _, leV_nil _ _, trivial⟩
  have hwle : leV (.ag [vi 0, .sl 0 2 (kidN s :: l.map vV)]) (vV (withC s l)) := by
   rw [vV_eq]
   refine leV_ag ⟨leV_refl _, ?_, trivial⟩
   show leV (.sl 0 2 (kidN s :: l.map vV)) (.sl 0 2 (vV (.mk s []) :: l.map vV))
   refine leV_slE (by simp) (fun y hy => by
    rcases List.mem_cons.1 hy with rfl | hy
    ·rw [vV_eq]; rfl
    ·obtain ⟨x, _, rfl⟩ := List.mem_map.1 hy
     rw [vV_eq]; rfl) ?_
   rw [flat_cons, flat_cons, vV_eq]
   have hp : ∀ l : List AV, PW Sub l l := fun l => by
    induction l with
    | nil => exact PW.nil _
    | cons x l ih => exact PW.cons (Sub.refl x) ih
   exact PW.append (PW.cons (Sub.refl _) (PW.cons (Sub.nil 2) (PW.nil _))) (hp _)
  unfold vrow
  rw [e1]
  refine Con.intro Tryz.func35 rfl Tryz.ntmps35 Tryz.results35 (by kernel_rfl) (by simp) 0 (by simp) ?_
  unfold confR
  simp only [go_sem, vss]
  refine CallU.free cc (by simp only [go_sem]) (by simp only [go_sem, vss]) ?_
  rintro r bx rfl
  by_cases h0 : checkF m = 0
  case neg =>
   have hn : (checkF m != 0) = true := bne_iff_ne.2 h0
   rw [if_pos h0]
   simp only [go_sem, hn]
   exact leV_tup ⟨hno, leV_refl _, trivial⟩
  have hn : (checkF m != 0) = false := by rw [h0]; rfl
  rw [if_neg (fun h => h h0)]
  have hz := checkF_zero h0
  have hsz := sized_size h hz.2.1 hz.2.2.1
  have ct := con_rtypeOfG m hsz.1 hz.1 (sized_levels hz.2.1)
  have cv := con_rtValid (typeM m) (withC s l) (type_ok hsz.1 hsz.2) (with_slim hl hs).ok
  have cp := con_rcopyV (withC s l) (with_slim hl hs)
  have e2 := vT_eq (typeM m)
  rw [e2] at ct cv
  have hr : roomFor (1 + l.length) 32 := by simp only [roomFor]; omega
  simp only [go_sem, hn, List.length_map]
  refine ⟨hr, ?_⟩
  refine DrawK.freeze (fun _ => true) ?_
  simp only [go_sem]
  refine DrawK.walk 5 mixed (by kernel_rfl) ?_
  simp only [go_sem]
  refine CallY.mk ct (by simp only [go_sem, vss]) (by simp only [go_sem]) (.inl (by simp only [go_sem])) ?_
  simp only [go_sem]
  refine CallY.mk (cv.leA (args' := [.ag [vi (typeM m).kind, vi (typeM m).size, vs 0 (typeM m).ranks, .sl 0 4 ((typeM m).parts.map vT)], .ag [vi 0, .sl 0 2 (kidN s :: l.map vV)]]) ⟨leV_refl _, hwle, trivial⟩) (by simp only [go_sem]) (by simp only [go_sem]) (.inl (by simp only [go_sem])) ?_
  cases hv : validV (typeM m) (withC s l)
  ·rw [if_neg (by decide)]
   simp only [go_sem]
   exact leV_tup ⟨hno, leV_refl _, trivial⟩
  ·rw [if_pos rfl]
   simp only [go_sem]
   refine CallU.free (cp.leA (args' := [.ag [vi 0, .sl 0 2 (kidN s :: l.map vV)]]) ⟨hwle, trivial⟩) (by simp only [go_sem]) (by simp only [go_sem]) ?_
   rintro r bx rfl
   simp only [go_sem]
   exact leV_refl _
 exact (Con.freezeR (fun _ => true) key).weak fun r b ⟨r0, h0, h1⟩ => by
  subst h1
  exact ⟨_, rfl, h0⟩
abbrev DS := Nat × Int
def deckA (l : List Int) (s : DS) : List AV := [.sl 0 1 (l.map vi), .sc (.int .i64 s.1), .sc (.int .u64 s.2)]
attribute [go_sem] deckA
def Dk (l : List Int) (s : DS) : Prop := s.1 <= l.length /\ l.length <= 1000
theorem con_dNew (l : List Int) : Con Tryz.prog 17 [vs 0 l] [] fun r b => r = .pb 0 0 /\ b = [deckA l (0, 11400714819323198485)] := by
 refine Con.intro Tryz.func17 rfl Tryz.ntmps17 Tryz.results17 (by kernel_rfl) (by simp) 1 (by simp) ?_
 simp only [go_sem]
theorem u64_range (x : Int) : 0 <= IntKind.u64.wrap x /\ IntKind.u64.wrap x < 18446744073709551616 := by
 rw [IntKind.wrap_u64]; omega
def longX (l : List Int) (s : DS) : Int := if s.1 < l.length then IntKind.u64.wrap l[s.1]! else 0
def longT (l : List Int) (s : DS) : Int := IntKind.u64.wrap (IntKind.u64.wrap (IntKind.u64.wrap (s.2 + longX l s) * 6364136223846793005) + 1442695040888963407)
def longS (l : List Int) (s : DS) : DS := (if s.1 < l.length then s.1 + 1 else s.1, longT l s)
def mixX (x : Int) (k : Nat) : Int := IntKind.u64.wrap (BitVec.ofInt 64 x ^^^ BitVec.ofInt 64 (x.fdiv (2 ^ min k 64))).toNat
def longV (l : List Int) (s : DS) : Int := mixX (IntKind.u64.wrap (mixX (longT l s) 33 * 18397679294719823053)) 29
theorem longV_range (l : List Int) (s : DS) : 0 <= longV l s /\ longV l s < 18446744073709551616 := u64_range _
theorem con_dLong (l : List Int) (s : DS) (h : Dk l s) : Con Tryz.prog 58 [.pb 0 0] [deckA l s]
  fun r b => r = .sc (.int .u64 (longV l s)) /\ b = [deckA l (longS l s)] := by
 refine Con.intro Tryz.func58 rfl Tryz.ntmps58 Tryz.results58 (by kernel_rfl) (by simp) 1 (by simp) ?_
 obtain ⟨at_, st⟩ := s
 obtain ⟨ha, hl⟩ := h
 simp only at ha
 by_cases h : at_ < l.length
 ·simp only [go_sem]
  refine DrawK.walk 10 mixed (by kernel_rfl) ?_
  have hg := getv h
  have hw : IntKind.i64.wrap (at_ + 1) = at_ + 1 := wrap_in (by omega) (by omega)
  simp only [go_sem, h]
  refine DrawK.walk 12 mixed (by kernel_rfl) ?_
  simp only [go_sem, h, hg, hw]
  refine DrawK.walk 11 mixed (by kernel_rfl) ?_
  simp only [go_sem, longV, mixX, longS, longT, longX, h]
  rfl
 ·simp only [go_sem]
  refine DrawK.walk 10 mixed (by kernel_rfl) ?_
  simp only [go_sem, h]
  refine DrawK.walk 11 mixed (by kernel_rfl) ?_
  simp only [go_sem, longV, mixX, longS, longT, longX, h]
  rfl
theorem longS_dk {l : List Int} {s : DS} (h : Dk l s) : Dk l (longS l s) := by
 obtain ⟨h1, h2⟩ := h
 refine ⟨?_, h2⟩
 unfold longS
 simp only
 split <;> omega
def nextV (l : List Int) (s : DS) (n : Int) : Int := if n < 1 then 0 else (longV l s / 2) % n
def nextS (l : List Int) (s : DS) (n : Int) : DS := if n < 1 then s else longS l s
theorem nextS_dk {l : List Int} {s : DS} {n : Int} (h : Dk l s) : Dk l (nextS l s n) := by
 unfold nextS; split
 ·exact h
 ·exact longS_dk h
theorem nextV_lt {l : List Int} {s : DS} {n : Int} (hn : 1 <= n) : 0 <= nextV l s n /\ nextV l s n < n := by
 unfold nextV
 rw [if_neg (by omega)]
 exact ⟨Int.emod_nonneg _ (by omega), Int.emod_lt_of_pos _ (by omega)⟩
theorem con_dNext (l : List Int) (s : DS) (n : Int) (h : Dk l s) : Con Tryz.prog 18 [.pb 0 0, vi n] [deckA l s]
  fun r b => r = vi (nextV l s n) /\ b = [deckA l (nextS l s n)] := by
 refine Con.intro Tryz.func18 rfl Tryz.ntmps18 Tryz.results18 (by kernel_rfl) (by simp) 1 (by simp) ?_
 by_cases h1 : n < 1
 ·simp only [go_sem, h1, nextV, nextS]
 ·have hr := longV_range l s
  simp only [go_sem, h1, nextV, nextS]
  refine CallU.boxes (i := 0) (is := []) (bx0 := [deckA l s]) (con_dLong l s h) (by simp only [go_sem]) (by simp only [go_sem]) (by simp only [go_sem]) (by simp only [go_sem]) (by simp only [go_sem]) ?_
  rintro r b ⟨rfl, rfl⟩
  simp only [go_sem]
  have hv : IntKind.i64.wrap ((longV l s).fdiv (2 ^ min 1 64)) = longV l s / 2 := by
   have e : (2 : Int) ^ min 1 64 = 2 := rfl
   rw [e, Int.fdiv_eq_ediv_of_nonneg _ (by omega)]
   exact wrap_in (by omega) (by omega)
  rw [hv, Int.tmod_eq_emod_of_nonneg (by omega)]
  exact ⟨by omega, rfl⟩
def oneV (l : List Int) (s : DS) (n : Int) : Bool := nextV l s n == 0
theorem con_dOne (l : List Int) (s : DS) (n : Int) (h : Dk l s) : Con Tryz.prog 42 [.pb 0 0, vi n] [deckA l s]
  fun r b => r = vb (oneV l s n) /\ b = [deckA l (nextS l s n)] := by
 refine Con.intro Tryz.func42 rfl Tryz.ntmps42 Tryz.results42 (by kernel_rfl) (by simp) 1 (by simp) ?_
 simp only [go_sem]
 refine CallU.boxes (i := 0) (is := []) (bx0 := [deckA l s]) (con_dNext l s n h) (by simp only [go_sem]) (by simp only [go_sem]) (by simp only [go_sem]) (by simp only [go_sem]) (by simp only [go_sem]) ?_
 rintro r b ⟨rfl, rfl⟩
 simp only [go_sem, oneV]
def smS (l : List Int) (s : DS) (most : Int) : Nat -> DS
 | 0 => s
 | n + 1 => nextS l (smS l s most n) (most + 1)
def smV (l : List Int) (s : DS) (most : Int) : Nat -> List Int
 | 0 => []
 | n + 1 => smV l s most n ++ [nextV l (smS l s most n) (most + 1)]
theorem smS_dk {l : List Int} {s : DS} {most : Int} (h : Dk l s) : ∀ n, Dk l (smS l s most n)
 | 0 => h
 | n + 1 => nextS_dk (smS_dk h n)
theorem smV_len {l : List Int} {s : DS} {most : Int} : ∀ n, (smV l s most n).length = n
 | 0 => rfl
 | n + 1 => by rw [smV, List.length_append, smV_len n]; rfl
theorem smV_low {l : List Int} {s : DS} {most : Int} (h : 0 <= most) : ∀ n, ∀ x ∈ smV l s most n, 0 <= x /\ x <= most
 | 0 => fun x hx => by cases hx
 | n + 1 => fun x hx => by
  rw [smV, List.mem_append] at hx
  rcases hx with hx | hx
  ·exact smV_low h n x hx
  ·simp only [List.mem_cons, List.not_mem_nil, or_false] at hx
   have := nextV_lt (l := l) (s := smS l s most n) (n := most + 1) (by omega)
   subst hx; omega
theorem con_dSmall (l : List Int) (s : DS) (n : Nat) (most : Int) (h : Dk l s) (hn : n <= 1000000) (hm : -1 <= most /\ most <= 1000000) : Con Tryz.prog 54 [.pb 0 0, vi n, vi most] [deckA l s]
  fun r b => r = vs 2 (smV l s most n) /\ b = [deckA l (smS l s most n)] := by
 refine Con.intro Tryz.func54 rfl Tryz.ntmps54 Tryz.results54 (by kernel_rfl) (by simp) 1 (by simp) ?_
 simp only [go_sem]
 refine LoopK.intro (fun i : Nat => ⟨22, [(0, .pb 0 0), (1, vi n), (2, vi most), (7, vs 1344 (smV l s most i)), (8, vi i)], [deckA l (smS l s most i)]⟩)
  (fun i => n - i) (fun i => i <= n) 0 (by omega) ?_ ?_
 ·simp only [go_sem, smV, smS, List.map_nil]
 rintro i hi
 by_cases h2 : i < n
 ·have hw : IntKind.i64.wrap (i + 1) = i + 1 := wrap_in (by omega) (by omega)
  have hw2 : IntKind.i64.wrap (most + 1) = most + 1 := wrap_in (by omega) (by omega)
  simp only [go_sem, h2, hw2]
  refine CallU.boxes (i := 0) (is := []) (bx0 := [deckA l (smS l s most i)]) (con_dNext l (smS l s most i) (most + 1) (smS_dk h i)) (by simp only [go_sem]) (by simp only [go_sem]) (by simp only [go_sem]) (by simp only [go_sem]) (by simp only [go_sem]) ?_
  rintro r b ⟨rfl, rfl⟩
  have hr : roomFor ((smV l s most i).length + 1) 8 := by rw [smV_len]; simp only [roomFor]; omega
  simp only [go_sem, hr, hw]
  refine roundK.intro (i + 1) (by omega) (by omega) ?_
  simp only [go_sem, smV, smS, List.map_append, List.map_cons, List.map_nil]
 ·have e : i = n := by omega
  subst e
  simp only [go_sem, h2]
theorem con_dSmallF (l : List Int) (s : DS) (n : Nat) (most : Int) (h : Dk l s) (hn : n <= 1000000) (hm : -1 <= most /\ most <= 1000000) : Con Tryz.prog 54 [.pb 0 0, vi n, vi most] [deckA l s]
  fun r b => r = vs 0 (smV l s most n) /\ b = [deckA l (smS l s most n)] :=
 ((con_dSmall l s n most h hn hm).freezeB fun _ => true).mono fun r b ⟨r1, b1, ⟨h1, h2⟩, h3, h4⟩ => by
  subst h1; subst h2; subst h3; subst h4
  exact ⟨rfl, rfl⟩
def wdN (l : List Int) (s : DS) (most : Int) : Nat := (nextV l s (most + 1)).toNat
def wdV (l : List Int) (s : DS) (letters most : Int) : List Int := smV l (nextS l s (most + 1)) (letters - 1) (wdN l s most)
def wdS (l : List Int) (s : DS) (letters most : Int) : DS := smS l (nextS l s (most + 1)) (letters - 1) (wdN l s most)
theorem wdS_dk {l : List Int} {s : DS} {a b : Int} (h : Dk l s) : Dk l (wdS l s a b) := smS_dk (nextS_dk h) _
theorem wdN_le {l : List Int} {s : DS} {most : Int} (h : 0 <= most) : (wdN l s most : Int) = nextV l s (most + 1) /\ (wdN l s most : Int) <= most := by
 have := nextV_lt (l := l) (s := s) (n := most + 1) (by omega)
 unfold wdN; omega
theorem con_dWord (l : List Int) (s : DS) (letters most : Int) (h : Dk l s) (h1 : 0 <= letters /\ letters <= 1000000) (h2 : 0 <= most /\ most <= 1000) : Con Tryz.prog 48 [.pb 0 0, vi letters, vi most] [deckA l s]
  fun r b => r = vs 2 (wdV l s letters most) /\ b = [deckA l (wdS l s letters most)] := by
 refine Con.intro Tryz.func48 rfl Tryz.ntmps48 Tryz.results48 (by kernel_rfl) (by simp) 1 (by simp) ?_
 have hw : IntKind.i64.wrap (most + 1) = most + 1 := wrap_in (by omega) (by omega)
 have hw2 : IntKind.i64.wrap (letters - 1) = letters - 1 := wrap_in (by omega) (by omega)
 obtain ⟨e, e2⟩ := wdN_le (l := l) (s := s) h2.1
 simp only [go_sem, hw]
 refine CallU.boxes (i := 0) (is := []) (bx0 := [deckA l s]) (con_dNext l s (most + 1) h) (by simp only [go_sem]) (by simp only [go_sem]) (by simp only [go_sem]) (by simp only [go_sem]) (by simp only [go_sem]) ?_
 rintro r b ⟨rfl, rfl⟩
 simp only [go_sem, hw2, <- e]
 refine CallU.boxes (i := 0) (is := []) (bx0 := [deckA l (nextS l s (most + 1))]) (con_dSmall l (nextS l s (most + 1)) (wdN l s most) (letters - 1) (nextS_dk h) (by omega) (by omega)) (by simp only [go_sem]) (by simp only [go_sem]) (by simp only [go_sem]) (by simp only [go_sem]) (by simp only [go_sem]) ?_
 rintro r b ⟨rfl, rfl⟩
 simp only [go_sem]
 exact ⟨rfl, rfl⟩
def cfgO (t s : Nat) (v : List Int) : AV := .ag [vi 0, .sl t 2 (kidZ s :: v.map kidZ)]
attribute [go_sem] cfgO
structure Own (m : MD) : Prop where
 kind : m.kind = 1
 states : 1 <= m.states.length /\ m.states.length <= 8
 places : 1 <= m.places.length /\ m.places.length <= 6
 letters : m.letters = []
 ranks : m.ranks = []
 levels : m.levels = 0
 age : m.age = 0
 names : namesB (m.states ++ m.places) = true
def noR (m : MD) (st : CV) : MD := { m with rules := [], start := st }
def noRA (m : MD) (st : CV) : AV := .ag [vi m.kind, vss m.states, vss m.places, vss m.letters, vs 0 m.ranks, vi m.levels, vi m.age, .nil, vi st.n, .sl 0 2 (st.kids.map vV)]
attribute [go_sem] noRA
theorem noR_le (m : MD) (st : CV) : leV (noRA m st) (vM (noR m st)) := by
 unfold vM cM noR noRA
 exact leV_ag ⟨leV_refl _, leV_refl _, leV_refl _, leV_refl _, leV_refl _, leV_refl _, leV_refl _, leV_nil 0 14, leV_refl _, leV_refl _, trivial⟩
def hidA (m : MD) : AV := .ag [vi m.kind, vss m.states, vss m.places, vss m.letters, vs 0 m.ranks, vi m.levels, vi m.age, .any, .any, .any]
attribute [go_sem] hidA
def noSA (m : MD) : AV := .ag [vi m.kind, vss m.states, vss m.places, vss m.letters, vs 0 m.ranks, vi m.levels, vi m.age, .nil, vi 0, .nil]
attribute [go_sem] noSA
def nm1 (a : ByteArray) (i : Nat) : ByteArray := a ++ strOf [48 + (i : Int)]
def nmL (a : ByteArray) (n : Nat) : List ByteArray := (List.range n).map (nm1 a)
theorem nmL_len (a : ByteArray) (n : Nat) : (nmL a n).length = n := by simp [nmL]
theorem nmL_succ (a : ByteArray) (n : Nat) : nmL a (n + 1) = nmL a n ++ [nm1 a n] := by unfold nmL; rw [List.range_succ, List.map_append]; rfl
theorem con_names (a : ByteArray) (n : Nat) (ha : a.size <= 10) (hn : n <= 9) : Con Tryz.prog 59 [vStr a, vi n] [] fun r _ => r = .sl 2 1 ((nmL a n).map vStr) := by
 refine Con.intro Tryz.func59 rfl Tryz.ntmps59 Tryz.results59 (by kernel_rfl) (by simp) 0 (by simp) ?_
 simp only [go_sem]
 refine LoopK.intro (fun i : Nat => ⟨23, [(0, vStr a), (1, vi n), (5, .sl 1408 1 ((nmL a i).map vStr)), (6, vi i)], []⟩)
  (fun i => n - i) (fun i => i <= n) 0 (by omega) ?_ ?_
 ·simp only [go_sem, nmL, List.range_zero, List.map_nil]
  all_goals exact leV_nil _ _
 rintro i hi
 by_cases h : i < n
 ·have hw : IntKind.i64.wrap (i + 1) = i + 1 := wrap_in (by omega) (by omega)
  have hw2 : IntKind.i64.wrap (48 + (i : Int)) = 48 + i := wrap_in (by omega) (by omega)
  have hw3 : IntKind.u8.wrap (48 + (i : Int)) = 48 + i := by rw [IntKind.wrap_u8]; omega
  have hb : bytesOf [.sc (.int .u8 (48 + (i : Int)))] = some [48 + (i : Int)] := rfl
  have hs : a.size + (strOf [48 + (i : Int)]).size <= 9223372036854775807 := by
   have e : (strOf [48 + (i : Int)]).size = 1 := rfl
   omega
  have hr : roomFor ((nmL a i).length + 1) 16 := by rw [nmL_len]; simp only [roomFor]; omega
  simp only [go_sem, h, hw, hw2, hw3, hb, hs, hr]
  refine roundK.intro (i + 1) (by omega) (by omega) ?_
  simp only [go_sem, nmL_succ, nm1, List.map_append, List.map_cons, List.map_nil]
 ·have e : i = n := by omega
  subst e
  simp only [go_sem, h]
structure DealtR (ns np : Nat) (r : RD) : Prop where
 bare : bareB r = true
 src : 0 <= r.src /\ r.src < ns
 dst : 0 <= r.dst /\ r.dst < ns
 need : r.need.length = np /\ ∀ x ∈ r.need, 0 <= x /\ x <= 2
 give : r.give.length = np /\ ∀ x ∈ r.give, 0 <= x /\ x <= 2
 move : r.move.length = 0 \/ (r.move.length = np /\ ∀ x ∈ r.move, -1 <= x /\ x <= np - 1)
def emptyB : ByteArray := ⟨#[]⟩
def dec1 (x : Int) : Int := x - 1
theorem con_dRule1 (l : List Int) (s : DS) (m : MD) (hd : Dk l s) (hk : m.kind = 1) (h1 : 1 <= m.states.length /\ m.states.length <= 8) (h2 : 1 <= m.places.length /\ m.places.length <= 6) :
  Con Tryz.prog 61 [.pb 0 0, hidA m] [deckA l s] fun r b => ∃ (x : RD) (s' : DS), DealtR m.states.length m.places.length x /\ x.name = emptyB /\ Dk l s' /\ r = vRule x /\ b = [deckA l s'] := by
 have key : Con Tryz.prog 61 [.pb 0 0, hidA m] [deckA l s] fun r b => ∃ (x : RD) (s' : DS) (mv : AV), DealtR m.states.length m.places.length x /\ x.name = emptyB /\ Dk l s' /\ leV (mv.freeze fun _ => true) (vs 0 x.move) /\
   r = .ag [vStr emptyB, vi x.src, vi x.dst, vs 0 x.need, vs 0 x.give, mv, vi 0, vi 0, vi 0, .nil, .nil, .nil, .nil, vi 0] /\ b = [deckA l s'] := by
  refine Con.intro Tryz.func61 rfl Tryz.ntmps61 Tryz.results61 (by kernel_rfl) (by simp) 1 (by simp) ?_
  have hn1 := nextV_lt (l := l) (s := s) (n := m.states.length) (by omega)
  have hd2 : Dk l (nextS l s m.states.length) := nextS_dk hd
  have hn2 := nextV_lt (l := l) (s := nextS l s m.states.length) (n := m.states.length) (by omega)
  have hd3 : Dk l (nextS l (nextS l s m.states.length) m.states.length) := nextS_dk hd2
  simp only [go_sem, hk]
  refine DrawK.news0 [(11, 3)] [14] [] 0 [4, 9] [] 12 (.one 12 .done) none (deckA l s) mixed (by kernel_rfl) (by kernel_rfl) (by kernel_rfl) (by simp only [go_sem]) (by simp only [go_sem]) ⟨by simp only [go_sem], by simp only [go_sem]⟩ ⟨by simp only [go_sem], by simp only [go_sem]⟩ ?_
  simp only [go_sem, List.length_map]
  refine EffK.mk (con_dNext l s m.states.length hd) (by simp only [go_sem]) (by simp only [go_sem]) (by simp only [go_sem]) (by simp only [go_sem]) ?_
  simp only [go_sem, List.length_map]
  refine EffK.mk (con_dNext l (nextS l s m.states.length) m.states.length hd2) (by simp only [go_sem]) (by simp only [go_sem]) (by simp only [go_sem]) (by simp only [go_sem]) ?_
  generalize nextV l s m.states.length = src at hn1
  generalize nextV l (nextS l s m.states.length) m.states.length = dst at hn2
  generalize nextS l (nextS l s m.states.length) m.states.length = s2 at hd3
  have hrep : List.replicate 14 AV.any = [.any, .any, .any, .any, .any, .any, .any, .any, .any, .any, .any, .any, .any, .any] := rfl
  simp only [go_sem, hrep]
  refine ⟨?_, trivial⟩
  have hd4 : Dk l (smS l s2 2 m.places.length) := smS_dk hd3 _
  have hd5 : Dk l (smS l (smS l s2 2 m.places.length) 2 m.places.length) := smS_dk hd4 _
  have hV1 := smV_low (l := l) (s := s2) (most := 2) (by omega) m.places.length
  have hL1 := smV_len (l := l) (s := s2) (most := 2) m.places.length
  have hV2 := smV_low (l := l) (s := smS l s2 2 m.places.length) (most := 2) (by omega) m.places.length
  have hL2 := smV_len (l := l) (s := smS l s2 2 m.places.length) (most := 2) m.places.length
  refine CallU.boxes (i := 0) (is := []) (bx0 := [deckA l s2]) (con_dSmallF l s2 m.places.length 2 hd3 (by omega) (by omega)) (by simp only [go_sem]) (by simp only [go_sem]) (by simp only [go_sem]) (by simp only [go_sem]) (by simp only [go_sem]) ?_
  rintro r b ⟨rfl, rfl⟩
  simp only [go_sem]
  refine CallU.boxes (i := 0) (is := []) (bx0 := [deckA l (smS l s2 2 m.places.length)]) (con_dSmallF l (smS l s2 2 m.places.length) m.places.length 2 hd4 (by omega) (by omega)) (by simp only [go_sem]) (by simp only [go_sem]) (by simp only [go_sem]) (by simp only [go_sem]) (by simp only [go_sem]) ?_
  rintro r b ⟨rfl, rfl⟩
  generalize smV l (smS l s2 2 m.places.length) 2 m.places.length = gv at hV2 hL2
  generalize smS l (smS l s2 2 m.places.length) 2 m.places.length = s4 at hd5
  generalize smV l s2 2 m.places.length = nd at hV1 hL1
  simp only [go_sem]
  refine CallU.boxes (i := 0) (is := []) (bx0 := [deckA l s4]) (con_dOne l s4 3 hd5) (by simp only [go_sem]) (by simp only [go_sem]) (by simp only [go_sem]) (by simp only [go_sem]) (by simp only [go_sem]) ?_
  rintro r b ⟨rfl, rfl⟩
  have hd6 : Dk l (nextS l s4 3) := nextS_dk hd5
  cases ho : oneV l s4 3
  case false =>
   simp only [go_sem]
   exact ⟨bareR emptyB src dst nd gv [], nextS l s4 3, .nil, ⟨rfl, hn1, hn2, ⟨hL1, hV1⟩, ⟨hL2, hV2⟩, .inl rfl⟩, rfl, hd6, leV_nil _ _, rfl, rfl⟩
  simp only [go_sem]
  generalize nextS l s4 3 = s5 at hd6
  refine LoopK.intro (fun i : Nat => ⟨168, [(0, .pb 0 0), (4, .pb 2 0), (5, .pb 3 0), (6, vi m.places.length), (7, vi i)], [deckA l (smS l s5 m.places.length i), [vi 1, vss m.states, vss m.places, vss m.letters, vs 0 m.ranks, vi m.levels, vi m.age, .any, .any, .any],
    [vStr emptyB, vi 0, vi 0, .nil, .nil, .nil, vi 0, vi 0, vi 0, .nil, .nil, .nil, .nil, vi 0], [vStr emptyB, vi src, vi dst, vs 0 nd, vs 0 gv, vs 3328 ((smV l s5 m.places.length i).map dec1), vi 0, vi 0, vi 0, .nil, .nil, .nil, .nil, vi 0]]⟩)
   (fun i => m.places.length - i) (fun i => i <= m.places.length) 0 (by omega) ?_ ?_
  ·simp only [go_sem, smV, smS, List.map_nil, vss, emptyB]
   all_goals exact leV_nil _ _
  rintro i hi
  by_cases h : i < m.places.length
  ·have hw : IntKind.i64.wrap (i + 1) = i + 1 := wrap_in (by omega) (by omega)
   have hw2 : IntKind.i64.wrap ((m.places.length : Int) + 1) = (m.places.length : Int) + 1 := wrap_in (by omega) (by omega)
   have hx := nextV_lt (l := l) (s := smS l s5 m.places.length i) (n := (m.places.length : Int) + 1) (by omega)
   have hw3 : IntKind.i64.wrap (nextV l (smS l s5 m.places.length i) ((m.places.length : Int) + 1) - 1) = dec1 (nextV l (smS l s5 m.places.length i) ((m.places.length : Int) + 1)) := wrap_in (by omega) (by omega)
   have hr : roomFor ((smV l s5 m.places.length i).length + 1) 8 := by rw [smV_len]; simp only [roomFor]; omega
   simp only [go_sem, h]
   refine DrawK.effs0 0 [5] [] 8 (.one 8 (.front 9 (.one 10 .done))) none (deckA l (smS l s5 m.places.length i)) mixed (by kernel_rfl) (by kernel_rfl) (by simp only [go_sem]) (by simp only [go_sem]) ?_
   simp only [go_sem, hw2]
   refine EffK.mk (con_dNext l (smS l s5 m.places.length i) ((m.places.length : Int) + 1) (smS_dk hd6 i)) (by simp only [go_sem]) (by simp only [go_sem]) (by simp only [go_sem]) (by simp only [go_sem]) ?_
   simp only [go_sem, hw, hw3]
   refine ⟨⟨hr, roundK.intro (i + 1) (by omega) (by omega) ?_⟩, trivial⟩
   simp only [go_sem, smV, smS, List.map_append, List.map_cons, List.map_nil]
   exact leV_refl _
  ·have e : i = m.places.length := by omega
   subst e
   have hmv : ∀ x ∈ (smV l s5 m.places.length m.places.length).map dec1, -1 <= x /\ x <= (m.places.length : Int) - 1 := fun x hx => by
    obtain ⟨y, hy, rfl⟩ := List.mem_map.1 hx
    have := smV_low (l := l) (s := s5) (most := m.places.length) (by omega) m.places.length y hy
    unfold dec1; omega
   simp only [go_sem, h]
   refine ⟨bareR emptyB src dst nd gv ((smV l s5 m.places.length m.places.length).map dec1), smS l s5 m.places.length m.places.length, vs 2 ((smV l s5 m.places.length m.places.length).map dec1), ⟨rfl, hn1, hn2, ⟨hL1, hV1⟩, ⟨hL2, hV2⟩, .inr ⟨by show ((smV l s5 m.places.length m.places.length).map dec1).length = _; rw [List.length_map, smV_len], hmv⟩⟩, rfl, smS_dk hd6 _, leV_refl _, ?_, rfl⟩
   simp only [go_sem]
 refine (key.freezeB fun _ => true).weak fun r b ⟨r1, b1, ⟨x, s', mv, h1, h2, h3, h4, h5, h6⟩, h7, h8⟩ => ?_
 subst h5; subst h6; subst h7; subst h8
 refine ⟨vRule x, ⟨x, s', h1, h2, h3, rfl, rfl⟩, ?_⟩
 have hb := bare_of h1.bare
 have e1 : Sub .nil (vs 0 []) := Sub.nil 1
 have e3 : Sub .nil (.sl 0 3 (([] : List (Int × Int × Int)).map vTake)) := Sub.nil 3
 have hv : vRule x = .ag [vStr emptyB, vi x.src, vi x.dst, vs 0 x.need, vs 0 x.give, vs 0 x.move, vi 0, vi 0, vi 0, vs 0 [], vs 0 [], .sl 0 3 [], vs 0 [], vi 0] := by
  rw [<- h2]; rw [hb]; rfl
 rw [hv]
 exact leV_ag ⟨leV_refl _, leV_refl _, leV_refl _, leV_refl _, leV_refl _, h4, leV_refl _, leV_refl _, leV_refl _, leV_nil _ _, leV_nil _ _, leV_nil _ _, leV_nil _ _, leV_refl _, trivial⟩
theorem same_refl (r : RD) : sameB r r = true := by unfold sameB; simp
theorem right_mk {m : MD} {r : RD} (h1 : endsR m r = true) (h2 : fitsR m r = true) (h3 : onlyR m.kind r = r) : rightR m r = true := by
 unfold rightR
 rw [h1, h2, h3, same_refl]; rfl
theorem index_ok {x : Int} {n : Nat} (h : 0 <= x /\ x < n) : indexB x n = true := by unfold indexB; rw [decide_eq_true h.1, decide_eq_true h.2]; rfl
theorem ends_mk {m : MD} {r : RD} (h1 : 0 <= r.dst /\ r.dst < m.states.length) (h2 : 0 <= r.src /\ r.src < m.states.length) : endsR m r = true := by
 unfold endsR
 rw [index_ok h1, index_ok h2]; rfl
def DealtX (m : MD) (x : RD) : Prop := rightR m x = true /\ x.name = emptyB /\ LenR x
def RuleCon (l : List Int) (s : DS) (m : MD) : Prop :=
 Con Tryz.prog 61 [.pb 0 0, hidA m] [deckA l s] fun r b => ∃ (x : RD) (s' : DS), DealtX m x /\ Dk l s' /\ r = vRule x /\ b = [deckA l s']
theorem RuleCon.mk {l : List Int} {s : DS} {m : MD} (h : Con Tryz.prog 61 [.pb 0 0, hidA m] [deckA l s] fun r b => ∃ (x : RD) (s' : DS), DealtX m x /\ Dk l s' /\ leV (r.freeze fun _ => true) (vRule x) /\ b = [deckA l s']) : RuleCon l s m :=
 (h.freezeB fun _ => true).weak fun r b ⟨r1, b1, ⟨x, s', h1, h2, h3, h4⟩, h7, h8⟩ => by
  subst h4; subst h7; subst h8
  exact ⟨vRule x, ⟨x, s', h1, h2, rfl, rfl⟩, h3⟩
theorem con_dWordF (l : List Int) (s : DS) (letters most : Int) (h : Dk l s) (h1 : 0 <= letters /\ letters <= 1000000) (h2 : 0 <= most /\ most <= 1000) : Con Tryz.prog 48 [.pb 0 0, vi letters, vi most] [deckA l s]
  fun r b => r = vs 0 (wdV l s letters most) /\ b = [deckA l (wdS l s letters most)] :=
 ((con_dWord l s letters most h h1 h2).freezeB fun _ => true).mono fun r b ⟨r1, b1, ⟨h1, h2⟩, h3, h4⟩ => by
  subst h1; subst h2; subst h3; subst h4
  exact ⟨rfl, rfl⟩
theorem wdV_low {l : List Int} {s : DS} {letters most : Int} (h1 : 1 <= letters) : ∀ x ∈ wdV l s letters most, 0 <= x /\ x < letters := fun x hx => by
 unfold wdV at hx
 have := smV_low (l := l) (most := letters - 1) (by omega) _ x hx
 omega
theorem wdV_len {l : List Int} {s : DS} {letters most : Int} (h : 0 <= most) : ((wdV l s letters most).length : Int) <= most := by
 have := (wdN_le (l := l) (s := s) h).2
 unfold wdV
 rw [smV_len]; exact this
def chanRow : List Nat := [0, 1, 2, 8, 3, 4, 5, 6, 7, 9, 10, 11]
def pathRow : List Nat := [0, 1, 2, 3, 4, 5, 6, 14, 7, 8, 9, 10, 11, 12, 13, 15, 16, 17]
def branchRow : List Nat := [0, 1, 5, 2, 3, 4, 6, 7, 8, 9, 10]
def chanR (src dst ch act le : Int) : RD := ⟨emptyB, src, dst, [], [], [], ch, act, le, [], [], [], [], 0⟩
def pathR (src dst : Int) (p q : List Int) : RD := ⟨emptyB, src, dst, [], [], [], 0, 0, 0, p, q, [], [], 0⟩
def timeR (src dst : Int) (t : List (Int × Int × Int)) (k : List Int) : RD := ⟨emptyB, src, dst, [], [], [], 0, 0, 0, [], [], t, k, 0⟩
def brR (src dst : Int) (n g : List Int) (sec : Int) : RD := ⟨emptyB, src, dst, n, g, [], 0, 0, 0, [], [], [], [], sec⟩
theorem len_chan (a b c d e : Int) : LenR (chanR a b c d e) := ⟨⟨by simp [chanR], by simp [chanR], by simp [chanR], by simp [chanR], by simp [chanR], by simp [chanR], by simp [chanR]⟩, by simp [chanR], by simp [chanR]⟩
def GoodT (np : Nat) (age : Int) (t : Int × Int × Int) : Prop := (0 <= t.1 /\ t.1 < np) /\ 0 <= t.2.1 /\ t.2.1 <= t.2.2 /\ t.2.2 <= age + 1
theorem time_dealt {m : MD} {src dst : Int} {L : List (Int × Int × Int)} {k : List Int} (hk : m.kind = 5) (h1 : 0 <= src /\ src < m.states.length) (h2 : 0 <= dst /\ dst < m.states.length) (hl : L.length <= 2) (hL : ∀ t ∈ L, GoodT m.places.length m.age t)
  (hK : k = [] \/ ∃ y, k = [y] /\ 0 <= y /\ y < m.places.length) : DealtX m (timeR src dst L k) := by
 have hkl : k.length <= 1 := by rcases hK with rfl | ⟨y, rfl, _⟩ <;> simp
 have hasc : ascI k = true := by rcases hK with rfl | ⟨y, rfl, _⟩ <;> simp [ascI]
 have hall : k.all (fun x => indexB x m.places.length) = true := by
  rcases hK with rfl | ⟨y, rfl, h⟩
  ·rfl
  ·rw [List.all_cons, index_ok h]; rfl
 have hany : L.any (badTake m.places.length m.age) = false := by
  rw [List.any_eq_false]
  intro t ht
  have h := hL t ht
  unfold GoodT at h
  unfold badTake
  rw [index_ok h.1, decide_eq_false (by omega), decide_eq_false (by omega), decide_eq_false (by omega)]; decide
 refine ⟨right_mk (ends_mk h2 h1) ?_ (by rw [hk]; rfl), rfl, ⟨⟨by simp [timeR], by simp [timeR], by simp [timeR], by simp [timeR], by simp [timeR], by show L.length <= _; omega, by show k.length <= _; omega⟩, by simp [timeR], by simp [timeR]⟩⟩
 unfold fitsR agesB
 rw [if_neg (by omega), if_neg (by omega), if_neg (by omega), if_pos hk]
 show (decide (L.length <= 3) && decide (k.length <= 3) && ascI k && k.all (fun x => indexB x m.places.length) && !L.any (badTake m.places.length m.age)) = true
 rw [hasc, hall, hany, decide_eq_true (by omega), decide_eq_true (by omega)]; rfl
theorem time_le (src dst : Int) {L : List (Int × Int × Int)} {k : List Int} {x : AV} (h : leV x (vs 0 k)) : leV (.ag [vStr emptyB, vi src, vi dst, .nil, .nil, .nil, vi 0, vi 0, vi 0, .nil, .nil, .sl 0 3 (L.map vTake), x, vi 0]) (vRule (timeR src dst L k)) :=
 leV_ag ⟨leV_refl _, leV_refl _, leV_refl _, leV_nil _ _, leV_nil _ _, leV_nil _ _, leV_refl _, leV_refl _, leV_refl _, leV_nil _ _, leV_nil _ _, leV_refl _, h, leV_refl _, trivial⟩
theorem con_dRule2 (l : List Int) (s : DS) (m : MD) (hd : Dk l s) (hk : m.kind = 2) (hp : 1 <= m.places.length /\ m.places.length <= 6) (hl : 1 <= m.letters.length /\ m.letters.length <= 6) (h1 : 1 <= m.states.length /\ m.states.length <= 8) : RuleCon l s m := by
 refine RuleCon.mk ?_
 refine Con.intro Tryz.func61 rfl Tryz.ntmps61 Tryz.results61 (by kernel_rfl) (by simp) 1 (by simp) ?_
 have hn1 := nextV_lt (l := l) (s := s) (n := m.states.length) (by omega)
 have hd2 : Dk l (nextS l s m.states.length) := nextS_dk hd
 have hn2 := nextV_lt (l := l) (s := nextS l s m.states.length) (n := m.states.length) (by omega)
 have hd3 : Dk l (nextS l (nextS l s m.states.length) m.states.length) := nextS_dk hd2
 simp only [go_sem, hk]
 refine DrawK.news0 [(11, 3)] [14] [] 0 [4, 9] [] 12 (.one 12 .done) none (deckA l s) mixed (by kernel_rfl) (by kernel_rfl) (by kernel_rfl) (by simp only [go_sem]) (by simp only [go_sem]) ⟨by simp only [go_sem], by simp only [go_sem]⟩ ⟨by simp only [go_sem], by simp only [go_sem]⟩ ?_
 simp only [go_sem, List.length_map]
 refine EffK.mk (con_dNext l s m.states.length hd) (by simp only [go_sem]) (by simp only [go_sem]) (by simp only [go_sem]) (by simp only [go_sem]) ?_
 simp only [go_sem, List.length_map]
 refine EffK.mk (con_dNext l (nextS l s m.states.length) m.states.length hd2) (by simp only [go_sem]) (by simp only [go_sem]) (by simp only [go_sem]) (by simp only [go_sem]) ?_
 generalize nextV l s m.states.length = src at hn1
 generalize nextV l (nextS l s m.states.length) m.states.length = dst at hn2
 generalize nextS l (nextS l s m.states.length) m.states.length = s2 at hd3
 have hrep : List.replicate 14 AV.any = [.any, .any, .any, .any, .any, .any, .any, .any, .any, .any, .any, .any, .any, .any] := rfl
 simp only [go_sem, hrep]
 refine ⟨?_, trivial⟩
 have hx0 := nextV_lt (l := l) (s := s2) (n := 3) (by omega)
 have hd4 : Dk l (nextS l s2 3) := nextS_dk hd3
 refine CallU.boxes (i := 0) (is := []) (bx0 := [deckA l s2]) (con_dNext l s2 3 hd3) (by simp only [go_sem]) (by simp only [go_sem]) (by simp only [go_sem]) (by simp only [go_sem]) (by simp only [go_sem]) ?_
 rintro r b ⟨rfl, rfl⟩
 generalize nextV l s2 3 = act at hx0
 generalize nextS l s2 3 = s3 at hd4
 by_cases h0 : act = 0
 ·have hb : (act != 0) = false := by rw [h0]; rfl
  simp only [go_sem, hb]
  refine ⟨chanR src dst 0 act 0, s3, ⟨right_mk (ends_mk hn2 hn1) ?_ (by rw [hk]; rfl), rfl, len_chan ..⟩, hd4, ?_, rfl⟩
  ·unfold fitsR actsB
   rw [if_neg (by omega), if_pos (by omega), if_pos (show (chanR src dst 0 act 0).act = 0 from h0)]; rfl
  ·exact leV_ag ⟨leV_refl _, leV_refl _, leV_refl _, leV_nil _ _, leV_nil _ _, leV_nil _ _, leV_refl _, leV_refl _, leV_refl _, leV_nil _ _, leV_nil _ _, leV_nil _ _, leV_nil _ _, leV_refl _, trivial⟩
 have hb : (act != 0) = true := bne_iff_ne.2 h0
 have hx1 := nextV_lt (l := l) (s := s3) (n := m.places.length) (by omega)
 have hd5 : Dk l (nextS l s3 m.places.length) := nextS_dk hd4
 have hx2 := nextV_lt (l := l) (s := nextS l s3 m.places.length) (n := m.letters.length) (by omega)
 have hd6 : Dk l (nextS l (nextS l s3 m.places.length) m.letters.length) := nextS_dk hd5
 simp only [go_sem, hb]
 refine DrawK.effs chanRow 0 [2, 8] [] 9 (.one 9 (.front 10 (.one 11 .done))) none (deckA l s3) mixed (by kernel_rfl) (by simp only [chanRow, permG, renO, List.getElem?_cons_zero, List.getElem?_cons_succ, Option.map_none]; exact rfl) (by kernel_rfl) (by kernel_rfl) (by simp only [go_sem]) (by simp only [go_sem]) ?_
 simp only [go_sem]
 refine EffK.mk (con_dNext l s3 m.places.length hd4) (by simp only [go_sem]) (by simp only [go_sem]) (by simp only [go_sem]) (by simp only [go_sem]) ?_
 simp only [go_sem, List.length_map]
 refine EffK.mk (con_dNext l (nextS l s3 m.places.length) m.letters.length hd5) (by simp only [go_sem]) (by simp only [go_sem]) (by simp only [go_sem]) (by simp only [go_sem]) ?_
 generalize nextV l (nextS l s3 m.places.length) m.letters.length = le at hx2
 generalize nextS l (nextS l s3 m.places.length) m.letters.length = s4 at hd6
 generalize nextV l s3 m.places.length = ch at hx1
 simp only [go_sem]
 refine ⟨⟨chanR src dst ch act le, s4, ⟨right_mk (ends_mk hn2 hn1) ?_ (by rw [hk]; rfl), rfl, len_chan ..⟩, hd6, ?_, rfl⟩, trivial⟩
 ·unfold fitsR actsB
  rw [if_neg (by omega), if_pos (by omega), if_neg (show ¬ (chanR src dst ch act le).act = 0 from h0)]
  have a1 : betweenB (chanR src dst ch act le).act 1 2 = true := by
   show betweenB act 1 2 = true
   unfold betweenB
   rw [decide_eq_true (show 1 <= act by omega), decide_eq_true (show act <= 2 by omega)]; rfl
  rw [a1, show indexB (chanR src dst ch act le).channel m.places.length = true from index_ok hx1, show indexB (chanR src dst ch act le).letter m.letters.length = true from index_ok hx2]; rfl
 ·exact leV_ag ⟨leV_refl _, leV_refl _, leV_refl _, leV_nil _ _, leV_nil _ _, leV_nil _ _, leV_refl _, leV_refl _, leV_refl _, leV_nil _ _, leV_nil _ _, leV_nil _ _, leV_nil _ _, leV_refl _, trivial⟩
theorem con_dRule3 (l : List Int) (s : DS) (m : MD) (hd : Dk l s) (hk : m.kind = 3) (hp : 1 <= m.places.length /\ m.places.length <= 6) (hl : 1 <= m.letters.length /\ m.letters.length <= 6) (h1 : 1 <= m.states.length /\ m.states.length <= 8) : RuleCon l s m := by
 refine RuleCon.mk ?_
 refine Con.intro Tryz.func61 rfl Tryz.ntmps61 Tryz.results61 (by kernel_rfl) (by simp) 1 (by simp) ?_
 have hn1 := nextV_lt (l := l) (s := s) (n := m.states.length) (by omega)
 have hd2 : Dk l (nextS l s m.states.length) := nextS_dk hd
 have hn2 := nextV_lt (l := l) (s := nextS l s m.states.length) (n := m.states.length) (by omega)
 have hd3 : Dk l (nextS l (nextS l s m.states.length) m.states.length) := nextS_dk hd2
 simp only [go_sem, hk]
 refine DrawK.news0 [(11, 3)] [14] [] 0 [4, 9] [] 12 (.one 12 .done) none (deckA l s) mixed (by kernel_rfl) (by kernel_rfl) (by kernel_rfl) (by simp only [go_sem]) (by simp only [go_sem]) ⟨by simp only [go_sem], by simp only [go_sem]⟩ ⟨by simp only [go_sem], by simp only [go_sem]⟩ ?_
 simp only [go_sem, List.length_map]
 refine EffK.mk (con_dNext l s m.states.length hd) (by simp only [go_sem]) (by simp only [go_sem]) (by simp only [go_sem]) (by simp only [go_sem]) ?_
 simp only [go_sem, List.length_map]
 refine EffK.mk (con_dNext l (nextS l s m.states.length) m.states.length hd2) (by simp only [go_sem]) (by simp only [go_sem]) (by simp only [go_sem]) (by simp only [go_sem]) ?_
 generalize nextV l s m.states.length = src at hn1
 generalize nextV l (nextS l s m.states.length) m.states.length = dst at hn2
 generalize nextS l (nextS l s m.states.length) m.states.length = s2 at hd3
 have hrep : List.replicate 14 AV.any = [.any, .any, .any, .any, .any, .any, .any, .any, .any, .any, .any, .any, .any, .any] := rfl
 simp only [go_sem, hrep]
 refine ⟨?_, trivial⟩
 have hx0 := nextV_lt (l := l) (s := s2) (n := 3) (by omega)
 have hd4 : Dk l (nextS l s2 3) := nextS_dk hd3
 refine CallU.boxes (i := 0) (is := []) (bx0 := [deckA l s2]) (con_dNext l s2 3 hd3) (by simp only [go_sem]) (by simp only [go_sem]) (by simp only [go_sem]) (by simp only [go_sem]) (by simp only [go_sem]) ?_
 rintro r b ⟨rfl, rfl⟩
 generalize nextV l s2 3 = act at hx0
 generalize nextS l s2 3 = s3 at hd4
 by_cases h0 : act = 0
 ·have hb : (act != 0) = false := by rw [h0]; rfl
  simp only [go_sem, hb]
  refine ⟨chanR src dst 0 act 0, s3, ⟨right_mk (ends_mk hn2 hn1) ?_ (by rw [hk]; rfl), rfl, len_chan ..⟩, hd4, ?_, rfl⟩
  ·unfold fitsR actsB
   rw [if_neg (by omega), if_pos (by omega), if_pos (show (chanR src dst 0 act 0).act = 0 from h0)]; rfl
  ·exact leV_ag ⟨leV_refl _, leV_refl _, leV_refl _, leV_nil _ _, leV_nil _ _, leV_nil _ _, leV_refl _, leV_refl _, leV_refl _, leV_nil _ _, leV_nil _ _, leV_nil _ _, leV_nil _ _, leV_refl _, trivial⟩
 have hb : (act != 0) = true := bne_iff_ne.2 h0
 have hx1 := nextV_lt (l := l) (s := s3) (n := m.places.length) (by omega)
 have hd5 : Dk l (nextS l s3 m.places.length) := nextS_dk hd4
 have hx2 := nextV_lt (l := l) (s := nextS l s3 m.places.length) (n := m.letters.length) (by omega)
 have hd6 : Dk l (nextS l (nextS l s3 m.places.length) m.letters.length) := nextS_dk hd5
 simp only [go_sem, hb]
 refine DrawK.effs chanRow 0 [2, 8] [] 9 (.one 9 (.front 10 (.one 11 .done))) none (deckA l s3) mixed (by kernel_rfl) (by simp only [chanRow, permG, renO, List.getElem?_cons_zero, List.getElem?_cons_succ, Option.map_none]; exact rfl) (by kernel_rfl) (by kernel_rfl) (by simp only [go_sem]) (by simp only [go_sem]) ?_
 simp only [go_sem]
 refine EffK.mk (con_dNext l s3 m.places.length hd4) (by simp only [go_sem]) (by simp only [go_sem]) (by simp only [go_sem]) (by simp only [go_sem]) ?_
 simp only [go_sem, List.length_map]
 refine EffK.mk (con_dNext l (nextS l s3 m.places.length) m.letters.length hd5) (by simp only [go_sem]) (by simp only [go_sem]) (by simp only [go_sem]) (by simp only [go_sem]) ?_
 generalize nextV l (nextS l s3 m.places.length) m.letters.length = le at hx2
 generalize nextS l (nextS l s3 m.places.length) m.letters.length = s4 at hd6
 generalize nextV l s3 m.places.length = ch at hx1
 simp only [go_sem]
 refine ⟨⟨chanR src dst ch act le, s4, ⟨right_mk (ends_mk hn2 hn1) ?_ (by rw [hk]; rfl), rfl, len_chan ..⟩, hd6, ?_, rfl⟩, trivial⟩
 ·unfold fitsR actsB
  rw [if_neg (by omega), if_pos (by omega), if_neg (show ¬ (chanR src dst ch act le).act = 0 from h0)]
  have a1 : betweenB (chanR src dst ch act le).act 1 2 = true := by
   show betweenB act 1 2 = true
   unfold betweenB
   rw [decide_eq_true (show 1 <= act by omega), decide_eq_true (show act <= 2 by omega)]; rfl
  rw [a1, show indexB (chanR src dst ch act le).channel m.places.length = true from index_ok hx1, show indexB (chanR src dst ch act le).letter m.letters.length = true from index_ok hx2]; rfl
 ·exact leV_ag ⟨leV_refl _, leV_refl _, leV_refl _, leV_nil _ _, leV_nil _ _, leV_nil _ _, leV_refl _, leV_refl _, leV_refl _, leV_nil _ _, leV_nil _ _, leV_nil _ _, leV_nil _ _, leV_refl _, trivial⟩
theorem con_dRule4 (l : List Int) (s : DS) (m : MD) (hd : Dk l s) (hk : m.kind = 4) (hl : 1 <= m.letters.length /\ m.letters.length <= 6) (hv : 1 <= m.levels /\ m.levels <= 2) (h1 : 1 <= m.states.length /\ m.states.length <= 8) : RuleCon l s m := by
 refine RuleCon.mk ?_
 refine Con.intro Tryz.func61 rfl Tryz.ntmps61 Tryz.results61 (by kernel_rfl) (by simp) 1 (by simp) ?_
 have hn1 := nextV_lt (l := l) (s := s) (n := m.states.length) (by omega)
 have hd2 : Dk l (nextS l s m.states.length) := nextS_dk hd
 have hn2 := nextV_lt (l := l) (s := nextS l s m.states.length) (n := m.states.length) (by omega)
 have hd3 : Dk l (nextS l (nextS l s m.states.length) m.states.length) := nextS_dk hd2
 simp only [go_sem, hk]
 refine DrawK.news0 [(11, 3)] [14] [] 0 [4, 9] [] 12 (.one 12 .done) none (deckA l s) mixed (by kernel_rfl) (by kernel_rfl) (by kernel_rfl) (by simp only [go_sem]) (by simp only [go_sem]) ⟨by simp only [go_sem], by simp only [go_sem]⟩ ⟨by simp only [go_sem], by simp only [go_sem]⟩ ?_
 simp only [go_sem, List.length_map]
 refine EffK.mk (con_dNext l s m.states.length hd) (by simp only [go_sem]) (by simp only [go_sem]) (by simp only [go_sem]) (by simp only [go_sem]) ?_
 simp only [go_sem, List.length_map]
 refine EffK.mk (con_dNext l (nextS l s m.states.length) m.states.length hd2) (by simp only [go_sem]) (by simp only [go_sem]) (by simp only [go_sem]) (by simp only [go_sem]) ?_
 generalize nextV l s m.states.length = src at hn1
 generalize nextV l (nextS l s m.states.length) m.states.length = dst at hn2
 generalize nextS l (nextS l s m.states.length) m.states.length = s2 at hd3
 have hrep : List.replicate 14 AV.any = [.any, .any, .any, .any, .any, .any, .any, .any, .any, .any, .any, .any, .any, .any] := rfl
 simp only [go_sem, hrep]
 refine ⟨?_, trivial⟩
 have hw1 := wdV_low (l := l) (s := s2) (letters := m.letters.length) (most := m.levels) (by omega)
 have hw2 := wdV_len (l := l) (s := s2) (letters := m.letters.length) (most := m.levels) (by omega)
 have hd4 : Dk l (wdS l s2 m.letters.length m.levels) := wdS_dk hd3
 have hw3 := wdV_low (l := l) (s := wdS l s2 m.letters.length m.levels) (letters := m.letters.length) (most := m.levels) (by omega)
 have hw4 := wdV_len (l := l) (s := wdS l s2 m.letters.length m.levels) (letters := m.letters.length) (most := m.levels) (by omega)
 have hd5 : Dk l (wdS l (wdS l s2 m.letters.length m.levels) m.letters.length m.levels) := wdS_dk hd4
 refine DrawK.effs pathRow 0 [6, 14] [] 15 (.one 15 (.front 16 (.one 17 .done))) none (deckA l s2) mixed (by kernel_rfl) (by simp only [pathRow, permG, renO, List.getElem?_cons_zero, List.getElem?_cons_succ, Option.map_none]; exact rfl) (by kernel_rfl) (by kernel_rfl) (by simp only [go_sem]) (by simp only [go_sem]) ?_
 simp only [go_sem, List.length_map]
 refine EffK.mk (con_dWordF l s2 m.letters.length m.levels hd3 (by omega) (by omega)) (by simp only [go_sem]) (by simp only [go_sem]) (by simp only [go_sem]) (by simp only [go_sem]) ?_
 simp only [go_sem, List.length_map]
 refine EffK.mk (con_dWordF l (wdS l s2 m.letters.length m.levels) m.letters.length m.levels hd4 (by omega) (by omega)) (by simp only [go_sem]) (by simp only [go_sem]) (by simp only [go_sem]) (by simp only [go_sem]) ?_
 generalize wdV l (wdS l s2 m.letters.length m.levels) m.letters.length m.levels = q at hw3 hw4
 generalize wdS l (wdS l s2 m.letters.length m.levels) m.letters.length m.levels = s4 at hd5
 generalize wdV l s2 m.letters.length m.levels = p at hw1 hw2
 have hwl : IntKind.i64.wrap ((p.length : Int) + (q.length : Int)) = (p.length : Int) + (q.length : Int) := wrap_in (by omega) (by omega)
 have hlen : ∀ q' : List Int, q'.length <= 100 -> LenR (pathR src dst p q') := fun q' hq' => ⟨⟨by simp [pathR], by simp [pathR], by simp [pathR], by show p.length <= _; omega, by show q'.length <= _; omega, by simp [pathR], by simp [pathR]⟩, by show p.length <= _; omega, by show q'.length <= _; omega⟩
 have hfit : ∀ q' : List Int, (q'.length : Int) <= m.levels -> 0 < p.length + q'.length -> (∀ x ∈ q', 0 <= x /\ x < (m.letters.length : Int)) -> fitsR m (pathR src dst p q') = true := fun q' h3 h4 h5 => by
  unfold fitsR pathsB
  rw [if_neg (by omega), if_neg (by omega), if_pos hk]
  simp only [Bool.and_eq_true, decide_eq_true_eq, List.all_eq_true]
  exact ⟨⟨⟨⟨hw2, h3⟩, h4⟩, fun x hx => index_ok (hw1 x hx)⟩, fun x hx => index_ok (h5 x hx)⟩
 have hle : ∀ q' : List Int, leV (.ag [vStr emptyB, vi src, vi dst, .nil, .nil, .nil, vi 0, vi 0, vi 0, vs 0 p, vs 0 q', .nil, .nil, vi 0]) (vRule (pathR src dst p q')) := fun q' =>
  leV_ag ⟨leV_refl _, leV_refl _, leV_refl _, leV_nil _ _, leV_nil _ _, leV_nil _ _, leV_refl _, leV_refl _, leV_refl _, leV_refl _, leV_refl _, leV_nil _ _, leV_nil _ _, leV_refl _, trivial⟩
 simp only [go_sem, hwl]
 refine ⟨?_, trivial⟩
 by_cases h0 : (p.length : Int) + (q.length : Int) = 0
 ·have hb : ((p.length : Int) + (q.length : Int) == 0) = true := beq_iff_eq.2 h0
  simp only [go_sem, hb]
  exact ⟨pathR src dst p [0], s4, ⟨right_mk (ends_mk hn2 hn1) (hfit [0] (by show ((1 : Nat) : Int) <= _; omega) (by show 0 < p.length + 1; omega) fun x hx => by rw [List.mem_singleton] at hx; subst hx; omega) (by rw [hk]; rfl), rfl, hlen _ (by simp)⟩, hd5, hle [0], rfl⟩
 ·have hb : ((p.length : Int) + (q.length : Int) == 0) = false := beq_eq_false_iff_ne.2 h0
  simp only [go_sem, hb]
  exact ⟨pathR src dst p q, s4, ⟨right_mk (ends_mk hn2 hn1) (hfit q hw4 (by omega) hw3) (by rw [hk]; rfl), rfl, hlen _ (by omega)⟩, hd5, hle q, rfl⟩
theorem con_dRule5 (l : List Int) (s : DS) (m : MD) (hd : Dk l s) (hk : m.kind = 5) (hp : 1 <= m.places.length /\ m.places.length <= 6) (ha : 0 <= m.age /\ m.age <= 3) (h1 : 1 <= m.states.length /\ m.states.length <= 8) : RuleCon l s m := by
 refine RuleCon.mk ?_
 refine Con.intro Tryz.func61 rfl Tryz.ntmps61 Tryz.results61 (by kernel_rfl) (by simp) 1 (by simp) ?_
 have hn1 := nextV_lt (l := l) (s := s) (n := m.states.length) (by omega)
 have hd2 : Dk l (nextS l s m.states.length) := nextS_dk hd
 have hn2 := nextV_lt (l := l) (s := nextS l s m.states.length) (n := m.states.length) (by omega)
 have hd3 : Dk l (nextS l (nextS l s m.states.length) m.states.length) := nextS_dk hd2
 simp only [go_sem, hk]
 refine DrawK.news0 [(11, 3)] [14] [] 0 [4, 9] [] 12 (.one 12 .done) none (deckA l s) mixed (by kernel_rfl) (by kernel_rfl) (by kernel_rfl) (by simp only [go_sem]) (by simp only [go_sem]) ⟨by simp only [go_sem], by simp only [go_sem]⟩ ⟨by simp only [go_sem], by simp only [go_sem]⟩ ?_
 simp only [go_sem, List.length_map]
 refine EffK.mk (con_dNext l s m.states.length hd) (by simp only [go_sem]) (by simp only [go_sem]) (by simp only [go_sem]) (by simp only [go_sem]) ?_
 simp only [go_sem, List.length_map]
 refine EffK.mk (con_dNext l (nextS l s m.states.length) m.states.length hd2) (by simp only [go_sem]) (by simp only [go_sem]) (by simp only [go_sem]) (by simp only [go_sem]) ?_
 generalize nextV l s m.states.length = src at hn1
 generalize nextV l (nextS l s m.states.length) m.states.length = dst at hn2
 generalize nextS l (nextS l s m.states.length) m.states.length = s2 at hd3
 have hrep : List.replicate 14 AV.any = [.any, .any, .any, .any, .any, .any, .any, .any, .any, .any, .any, .any, .any, .any] := rfl
 simp only [go_sem, hrep]
 refine ⟨?_, trivial⟩
 have hx0 := nextV_lt (l := l) (s := s2) (n := 2) (by omega)
 have hd4 : Dk l (nextS l s2 2) := nextS_dk hd3
 refine CallU.boxes (i := 0) (is := []) (bx0 := [deckA l s2]) (con_dNext l s2 2 hd3) (by simp only [go_sem]) (by simp only [go_sem]) (by simp only [go_sem]) (by simp only [go_sem]) (by simp only [go_sem]) ?_
 rintro r b ⟨rfl, rfl⟩
 obtain ⟨tk, htk, htk2⟩ : ∃ tk : Nat, nextV l s2 2 = tk /\ tk <= 1 := ⟨(nextV l s2 2).toNat, by omega, by omega⟩
 rw [htk]
 generalize nextS l s2 2 = s3 at hd4
 have hd5 : Dk l (nextS l s3 8) := nextS_dk hd4
 simp only [go_sem]
 refine CallU.boxes (i := 0) (is := []) (bx0 := [deckA l s3]) (con_dOne l s3 8 hd4) (by simp only [go_sem]) (by simp only [go_sem]) (by simp only [go_sem]) (by simp only [go_sem]) (by simp only [go_sem]) ?_
 rintro r b ⟨rfl, rfl⟩
 generalize nextS l s3 8 = s4 at hd5
 have h22 : (((2 : Nat) : Int)) = 2 := rfl
 cases ho : oneV l s3 8
 ·simp only [go_sem]
  refine LoopK.intro (fun p : List (Int × Int × Int) × DS × Nat => ⟨168, [(0, .pb 0 0), (3, .pb 1 0), (4, .pb 2 0), (5, .pb 3 0), (6, vi m.places.length), (8, vi p.2.2)], [deckA l p.2.1, [vi 5, vss m.states, vss m.places, vss m.letters, vs 0 m.ranks, vi m.levels, vi m.age, .any, .any, .any],
    [vStr emptyB, vi 0, vi 0, .nil, .nil, .nil, vi 0, vi 0, vi 0, .nil, .nil, .nil, .nil, vi 0], [vStr emptyB, vi src, vi dst, .nil, .nil, .nil, vi 0, vi 0, vi 0, .nil, .nil, .sl 8512 3 (p.1.map vTake), .nil, vi 0]]⟩)
   (fun p => p.2.2) (fun p => p.1.length + p.2.2 <= 2 /\ Dk l p.2.1 /\ ∀ t ∈ p.1, GoodT m.places.length m.age t) ([], s4, tk) ⟨by show 0 + tk <= 2; omega, hd5, fun t ht => by cases ht⟩ ?_ ?_
  ·simp only [go_sem, vss, emptyB, List.map_nil]
   all_goals exact leV_nil _ _
  rintro ⟨L, s5, k⟩ ⟨h3, h4, h5⟩
  simp only at h3 h4 h5
  by_cases h : 0 < k
  ·have hk0 : (0 : Int) < (k : Int) := by omega
   have hwa : IntKind.i64.wrap (m.age + 2) = m.age + 2 := wrap_in (by omega) (by omega)
   have hwk : IntKind.i64.wrap ((k : Int) - 1) = ((k - 1 : Nat) : Int) := by rw [wrap_in (by omega) (by omega)]; omega
   have hx1 := nextV_lt (l := l) (s := s5) (n := m.age + 2) (by omega)
   have hd6 : Dk l (nextS l s5 (m.age + 2)) := nextS_dk h4
   simp only [go_sem, hk0, hwa]
   refine CallU.boxes (i := 0) (is := []) (bx0 := [deckA l s5]) (con_dNext l s5 (m.age + 2) h4) (by simp only [go_sem]) (by simp only [go_sem]) (by simp only [go_sem]) (by simp only [go_sem]) (by simp only [go_sem]) ?_
   rintro r b ⟨rfl, rfl⟩
   generalize nextV l s5 (m.age + 2) = lo at hx1
   generalize nextS l s5 (m.age + 2) = s6 at hd6
   have hx2 := nextV_lt (l := l) (s := s6) (n := m.places.length) (by omega)
   have hd7 : Dk l (nextS l s6 m.places.length) := nextS_dk hd6
   have hx3 := nextV_lt (l := l) (s := nextS l s6 m.places.length) (n := m.age + 2 - lo) (by omega)
   have hd8 : Dk l (nextS l (nextS l s6 m.places.length) (m.age + 2 - lo)) := nextS_dk hd7
   have hwb : IntKind.i64.wrap (m.age + 2 - lo) = m.age + 2 - lo := wrap_in (by omega) (by omega)
   simp only [go_sem]
   refine DrawK.effs0 0 [4, 13] [] 17 (.one 17 (.front 18 (.one 19 .done))) none (deckA l s6) mixed (by kernel_rfl) (by kernel_rfl) (by simp only [go_sem]) (by simp only [go_sem]) ?_
   simp only [go_sem]
   refine EffK.mk (con_dNext l s6 m.places.length hd6) (by simp only [go_sem]) (by simp only [go_sem]) (by simp only [go_sem]) (by simp only [go_sem]) ?_
   simp only [go_sem, hwa, hwb]
   refine EffK.mk (con_dNext l (nextS l s6 m.places.length) (m.age + 2 - lo) hd7) (by simp only [go_sem]) (by simp only [go_sem]) (by simp only [go_sem]) (by simp only [go_sem]) ?_
   generalize nextV l (nextS l s6 m.places.length) (m.age + 2 - lo) = df at hx3
   generalize nextS l (nextS l s6 m.places.length) (m.age + 2 - lo) = s8 at hd8
   generalize nextV l s6 m.places.length = pl at hx2
   have hwc : IntKind.i64.wrap (lo + df) = lo + df := wrap_in (by omega) (by omega)
   simp only [go_sem, hwc, hwk]
   refine ⟨⟨by simp only [roomFor]; omega, roundK.intro (L ++ [(pl, lo, lo + df)], s8, k - 1) ⟨by rw [List.length_append]; show L.length + 1 + (k - 1) <= 2; omega, hd8, fun t ht => ?_⟩ (by show k - 1 < k; omega) ?_⟩, trivial⟩
   ·rcases List.mem_append.1 ht with ht | ht
    ·exact h5 t ht
    ·rw [List.mem_singleton] at ht
     subst ht
     exact ⟨hx2, by show 0 <= lo; omega, by show lo <= lo + df; omega, by show lo + df <= m.age + 1; omega⟩
   ·simp only [go_sem, List.map_append, List.map_cons, List.map_nil, vTake]
  ·have hk0 : ¬ (0 : Int) < (k : Int) := by omega
   have hd6 : Dk l (nextS l s5 2) := nextS_dk h4
   simp only [go_sem, hk0]
   refine CallU.boxes (i := 0) (is := []) (bx0 := [deckA l s5]) (con_dOne l s5 2 h4) (by simp only [go_sem]) (by simp only [go_sem]) (by simp only [go_sem]) (by simp only [go_sem]) (by simp only [go_sem]) ?_
   rintro r b ⟨rfl, rfl⟩
   generalize nextS l s5 2 = s6 at hd6
   cases ho2 : oneV l s5 2
   ·simp only [go_sem]
    exact ⟨timeR src dst L [], s6, time_dealt hk hn1 hn2 (by omega) h5 (.inl rfl), hd6, time_le src dst (leV_nil _ _), rfl⟩
   ·have hx1 := nextV_lt (l := l) (s := s6) (n := m.places.length) (by omega)
    have hd7 : Dk l (nextS l s6 m.places.length) := nextS_dk hd6
    simp only [go_sem]
    refine CallU.boxes (i := 0) (is := []) (bx0 := [deckA l s6]) (con_dNext l s6 m.places.length hd6) (by simp only [go_sem]) (by simp only [go_sem]) (by simp only [go_sem]) (by simp only [go_sem]) (by simp only [go_sem]) ?_
    rintro r b ⟨rfl, rfl⟩
    simp only [go_sem]
    exact ⟨timeR src dst L [nextV l s6 m.places.length], nextS l s6 m.places.length, time_dealt hk hn1 hn2 (by omega) h5 (.inr ⟨_, rfl, hx1⟩), hd7, time_le src dst (leV_refl _), rfl⟩
 ·simp only [go_sem]
  refine LoopK.intro (fun p : List (Int × Int × Int) × DS × Nat => ⟨168, [(0, .pb 0 0), (3, .pb 1 0), (4, .pb 2 0), (5, .pb 3 0), (6, vi m.places.length), (8, vi p.2.2)], [deckA l p.2.1, [vi 5, vss m.states, vss m.places, vss m.letters, vs 0 m.ranks, vi m.levels, vi m.age, .any, .any, .any],
    [vStr emptyB, vi 0, vi 0, .nil, .nil, .nil, vi 0, vi 0, vi 0, .nil, .nil, .nil, .nil, vi 0], [vStr emptyB, vi src, vi dst, .nil, .nil, .nil, vi 0, vi 0, vi 0, .nil, .nil, .sl 8512 3 (p.1.map vTake), .nil, vi 0]]⟩)
   (fun p => p.2.2) (fun p => p.1.length + p.2.2 <= 2 /\ Dk l p.2.1 /\ ∀ t ∈ p.1, GoodT m.places.length m.age t) ([], s4, 2) ⟨by show 0 + 2 <= 2; omega, hd5, fun t ht => by cases ht⟩ ?_ ?_
  ·simp only [go_sem, vss, emptyB, List.map_nil, h22]
   all_goals exact leV_nil _ _
  rintro ⟨L, s5, k⟩ ⟨h3, h4, h5⟩
  simp only at h3 h4 h5
  by_cases h : 0 < k
  ·have hk0 : (0 : Int) < (k : Int) := by omega
   have hwa : IntKind.i64.wrap (m.age + 2) = m.age + 2 := wrap_in (by omega) (by omega)
   have hwk : IntKind.i64.wrap ((k : Int) - 1) = ((k - 1 : Nat) : Int) := by rw [wrap_in (by omega) (by omega)]; omega
   have hx1 := nextV_lt (l := l) (s := s5) (n := m.age + 2) (by omega)
   have hd6 : Dk l (nextS l s5 (m.age + 2)) := nextS_dk h4
   simp only [go_sem, hk0, hwa]
   refine CallU.boxes (i := 0) (is := []) (bx0 := [deckA l s5]) (con_dNext l s5 (m.age + 2) h4) (by simp only [go_sem]) (by simp only [go_sem]) (by simp only [go_sem]) (by simp only [go_sem]) (by simp only [go_sem]) ?_
   rintro r b ⟨rfl, rfl⟩
   generalize nextV l s5 (m.age + 2) = lo at hx1
   generalize nextS l s5 (m.age + 2) = s6 at hd6
   have hx2 := nextV_lt (l := l) (s := s6) (n := m.places.length) (by omega)
   have hd7 : Dk l (nextS l s6 m.places.length) := nextS_dk hd6
   have hx3 := nextV_lt (l := l) (s := nextS l s6 m.places.length) (n := m.age + 2 - lo) (by omega)
   have hd8 : Dk l (nextS l (nextS l s6 m.places.length) (m.age + 2 - lo)) := nextS_dk hd7
   have hwb : IntKind.i64.wrap (m.age + 2 - lo) = m.age + 2 - lo := wrap_in (by omega) (by omega)
   simp only [go_sem]
   refine DrawK.effs0 0 [4, 13] [] 17 (.one 17 (.front 18 (.one 19 .done))) none (deckA l s6) mixed (by kernel_rfl) (by kernel_rfl) (by simp only [go_sem]) (by simp only [go_sem]) ?_
   simp only [go_sem]
   refine EffK.mk (con_dNext l s6 m.places.length hd6) (by simp only [go_sem]) (by simp only [go_sem]) (by simp only [go_sem]) (by simp only [go_sem]) ?_
   simp only [go_sem, hwa, hwb]
   refine EffK.mk (con_dNext l (nextS l s6 m.places.length) (m.age + 2 - lo) hd7) (by simp only [go_sem]) (by simp only [go_sem]) (by simp only [go_sem]) (by simp only [go_sem]) ?_
   generalize nextV l (nextS l s6 m.places.length) (m.age + 2 - lo) = df at hx3
   generalize nextS l (nextS l s6 m.places.length) (m.age + 2 - lo) = s8 at hd8
   generalize nextV l s6 m.places.length = pl at hx2
   have hwc : IntKind.i64.wrap (lo + df) = lo + df := wrap_in (by omega) (by omega)
   simp only [go_sem, hwc, hwk]
   refine ⟨⟨by simp only [roomFor]; omega, roundK.intro (L ++ [(pl, lo, lo + df)], s8, k - 1) ⟨by rw [List.length_append]; show L.length + 1 + (k - 1) <= 2; omega, hd8, fun t ht => ?_⟩ (by show k - 1 < k; omega) ?_⟩, trivial⟩
   ·rcases List.mem_append.1 ht with ht | ht
    ·exact h5 t ht
    ·rw [List.mem_singleton] at ht
     subst ht
     exact ⟨hx2, by show 0 <= lo; omega, by show lo <= lo + df; omega, by show lo + df <= m.age + 1; omega⟩
   ·simp only [go_sem, List.map_append, List.map_cons, List.map_nil, vTake]
  ·have hk0 : ¬ (0 : Int) < (k : Int) := by omega
   have hd6 : Dk l (nextS l s5 2) := nextS_dk h4
   simp only [go_sem, hk0]
   refine CallU.boxes (i := 0) (is := []) (bx0 := [deckA l s5]) (con_dOne l s5 2 h4) (by simp only [go_sem]) (by simp only [go_sem]) (by simp only [go_sem]) (by simp only [go_sem]) (by simp only [go_sem]) ?_
   rintro r b ⟨rfl, rfl⟩
   generalize nextS l s5 2 = s6 at hd6
   cases ho2 : oneV l s5 2
   ·simp only [go_sem]
    exact ⟨timeR src dst L [], s6, time_dealt hk hn1 hn2 (by omega) h5 (.inl rfl), hd6, time_le src dst (leV_nil _ _), rfl⟩
   ·have hx1 := nextV_lt (l := l) (s := s6) (n := m.places.length) (by omega)
    have hd7 : Dk l (nextS l s6 m.places.length) := nextS_dk hd6
    simp only [go_sem]
    refine CallU.boxes (i := 0) (is := []) (bx0 := [deckA l s6]) (con_dNext l s6 m.places.length hd6) (by simp only [go_sem]) (by simp only [go_sem]) (by simp only [go_sem]) (by simp only [go_sem]) (by simp only [go_sem]) ?_
    rintro r b ⟨rfl, rfl⟩
    simp only [go_sem]
    exact ⟨timeR src dst L [nextV l s6 m.places.length], nextS l s6 m.places.length, time_dealt hk hn1 hn2 (by omega) h5 (.inr ⟨_, rfl, hx1⟩), hd7, time_le src dst (leV_refl _), rfl⟩
theorem con_dRule6 (l : List Int) (s : DS) (m : MD) (hd : Dk l s) (hk : m.kind = 6) (hp : 1 <= m.places.length /\ m.places.length <= 6) (h1 : 1 <= m.states.length /\ m.states.length <= 8) : RuleCon l s m := by
 refine RuleCon.mk ?_
 refine Con.intro Tryz.func61 rfl Tryz.ntmps61 Tryz.results61 (by kernel_rfl) (by simp) 1 (by simp) ?_
 have hn1 := nextV_lt (l := l) (s := s) (n := m.states.length) (by omega)
 have hd2 : Dk l (nextS l s m.states.length) := nextS_dk hd
 have hn2 := nextV_lt (l := l) (s := nextS l s m.states.length) (n := m.states.length) (by omega)
 have hd3 : Dk l (nextS l (nextS l s m.states.length) m.states.length) := nextS_dk hd2
 simp only [go_sem, hk]
 refine DrawK.news0 [(11, 3)] [14] [] 0 [4, 9] [] 12 (.one 12 .done) none (deckA l s) mixed (by kernel_rfl) (by kernel_rfl) (by kernel_rfl) (by simp only [go_sem]) (by simp only [go_sem]) ⟨by simp only [go_sem], by simp only [go_sem]⟩ ⟨by simp only [go_sem], by simp only [go_sem]⟩ ?_
 simp only [go_sem, List.length_map]
 refine EffK.mk (con_dNext l s m.states.length hd) (by simp only [go_sem]) (by simp only [go_sem]) (by simp only [go_sem]) (by simp only [go_sem]) ?_
 simp only [go_sem, List.length_map]
 refine EffK.mk (con_dNext l (nextS l s m.states.length) m.states.length hd2) (by simp only [go_sem]) (by simp only [go_sem]) (by simp only [go_sem]) (by simp only [go_sem]) ?_
 generalize nextV l s m.states.length = src at hn1
 generalize nextV l (nextS l s m.states.length) m.states.length = dst at hn2
 generalize nextS l (nextS l s m.states.length) m.states.length = s2 at hd3
 have hrep : List.replicate 14 AV.any = [.any, .any, .any, .any, .any, .any, .any, .any, .any, .any, .any, .any, .any, .any] := rfl
 simp only [go_sem, hrep]
 refine ⟨?_, trivial⟩
 have hV1 := smV_low (l := l) (s := s2) (most := 2) (by omega) m.places.length
 have hL1 := smV_len (l := l) (s := s2) (most := 2) m.places.length
 have hd4 : Dk l (smS l s2 2 m.places.length) := smS_dk hd3 _
 refine DrawK.effs branchRow 0 [5] [] 6 (.one 6 (.front 7 (.one 8 (.front 9 (.one 10 .done))))) none (deckA l s2) mixed (by kernel_rfl) (by simp only [branchRow, permG, renO, List.getElem?_cons_zero, List.getElem?_cons_succ, Option.map_none]; exact rfl) (by kernel_rfl) (by kernel_rfl) (by simp only [go_sem]) (by simp only [go_sem]) ?_
 simp only [go_sem]
 refine ⟨Nat.le_refl _, by omega, by omega, ?_⟩
 refine EffK.mk (con_dSmallF l s2 m.places.length 2 hd3 (by omega) (by omega)) (by simp only [go_sem]) (by simp only [go_sem]) (by simp only [go_sem]) (by simp only [go_sem]) ?_
 generalize smV l s2 2 m.places.length = gv at hV1 hL1
 generalize smS l s2 2 m.places.length = s3 at hd4
 have hsm : ∀ q : List Int, (∀ x ∈ q, 0 <= x /\ x <= 2) -> smallB q = true := fun q hq => by
  unfold smallB
  rw [List.all_eq_true]
  intro x hx
  have := hq x hx
  unfold betweenB
  rw [decide_eq_true (by omega), decide_eq_true (by omega)]; rfl
 have hch : ∀ (a b c : Int) (q : List Int), q.length = m.places.length -> (∀ x ∈ q, 0 <= x /\ x <= 2) -> changesB m.places.length (brR a b q gv c) = true := fun a b c q h3 h4 => by
  show (decide (q.length = m.places.length) && decide (gv.length = m.places.length) && smallB q && smallB gv) = true
  rw [decide_eq_true h3, decide_eq_true hL1, hsm q h4, hsm gv hV1]; rfl
 have hlen : ∀ (a b c : Int) (q : List Int), q.length = m.places.length -> LenR (brR a b q gv c) := fun a b c q h3 => ⟨⟨by show q.length <= _; omega, by show gv.length <= _; omega, by simp [brR], by simp [brR], by simp [brR], by simp [brR], by simp [brR]⟩, by simp [brR], by simp [brR]⟩
 have hfit : ∀ r, fitsR m r = branchB m.states.length m.places.length r := fun r => by unfold fitsR; rw [if_neg (by omega), if_neg (by omega), if_neg (by omega), if_neg (by omega)]
 have honly : ∀ (a b c : Int) (q : List Int), onlyR m.kind (brR a b q gv c) = brR a b q gv c := fun a b c q => by rw [hk]; rfl
 have hd5 : Dk l (nextS l s3 3) := nextS_dk hd4
 simp only [go_sem]
 refine ⟨?_, trivial⟩
 refine CallU.boxes (i := 0) (is := []) (bx0 := [deckA l s3]) (con_dOne l s3 3 hd4) (by simp only [go_sem]) (by simp only [go_sem]) (by simp only [go_sem]) (by simp only [go_sem]) (by simp only [go_sem]) ?_
 rintro r b ⟨rfl, rfl⟩
 generalize nextS l s3 3 = s4 at hd5
 cases ho : oneV l s3 3
 case true =>
  simp only [go_sem]
  refine ⟨brR (-1) dst (List.replicate m.places.length 0) gv (-1), s4, ⟨right_mk ?_ ?_ (honly ..), rfl, hlen _ _ _ _ (List.length_replicate ..)⟩, hd5, ?_, rfl⟩
  ·unfold endsR
   rw [show indexB (brR (-1) dst (List.replicate m.places.length 0) gv (-1)).dst m.states.length = true from index_ok hn2, hk]
   show (true && (indexB (-1) m.states.length || true)) = true
   rw [Bool.or_true]; rfl
  ·rw [hfit]
   unfold branchB
   rw [hch _ _ _ _ (List.length_replicate ..) (fun x hx => by rw [List.eq_of_mem_replicate hx]; omega)]
   show (true && true && (decide ((0 : Int) <= -1) || (true && (List.replicate m.places.length (0 : Int)).all fun x => x == 0))) = true
   have : ((List.replicate m.places.length (0 : Int)).all fun x => x == 0) = true := List.all_eq_true.2 fun x hx => by rw [List.eq_of_mem_replicate hx]; rfl
   rw [this]; rfl
  ·have e : List.replicate m.places.length (AV.sc (.int .i64 0)) = (List.replicate m.places.length (0 : Int)).map vi := by rw [List.map_replicate]; rfl
   rw [e]
   exact leV_ag ⟨leV_refl _, leV_refl _, leV_refl _, leV_refl _, leV_refl _, leV_nil _ _, leV_refl _, leV_refl _, leV_refl _, leV_nil _ _, leV_nil _ _, leV_nil _ _, leV_nil _ _, leV_refl _, trivial⟩
 have hV2 := smV_low (l := l) (s := s4) (most := 1) (by omega) m.places.length
 have hL2 := smV_len (l := l) (s := s4) (most := 1) m.places.length
 have hd6 : Dk l (smS l s4 1 m.places.length) := smS_dk hd5 _
 simp only [go_sem]
 refine CallU.boxes (i := 0) (is := []) (bx0 := [deckA l s4]) (con_dSmallF l s4 m.places.length 1 hd5 (by omega) (by omega)) (by simp only [go_sem]) (by simp only [go_sem]) (by simp only [go_sem]) (by simp only [go_sem]) (by simp only [go_sem]) ?_
 rintro r b ⟨rfl, rfl⟩
 generalize smV l s4 1 m.places.length = nd at hV2 hL2
 generalize smS l s4 1 m.places.length = s5 at hd6
 have hws : IntKind.i64.wrap ((m.states.length : Int) + 1) = (m.states.length : Int) + 1 := wrap_in (by omega) (by omega)
 have hx := nextV_lt (l := l) (s := s5) (n := (m.states.length : Int) + 1) (by omega)
 have hd7 : Dk l (nextS l s5 ((m.states.length : Int) + 1)) := nextS_dk hd6
 simp only [go_sem, hws]
 refine CallU.boxes (i := 0) (is := []) (bx0 := [deckA l s5]) (con_dNext l s5 ((m.states.length : Int) + 1) hd6) (by simp only [go_sem]) (by simp only [go_sem]) (by simp only [go_sem]) (by simp only [go_sem]) (by simp only [go_sem]) ?_
 rintro r b ⟨rfl, rfl⟩
 generalize nextV l s5 ((m.states.length : Int) + 1) = sec at hx
 generalize nextS l s5 ((m.states.length : Int) + 1) = s6 at hd7
 have hwx : IntKind.i64.wrap (sec - 1) = sec - 1 := wrap_in (by omega) (by omega)
 simp only [go_sem, hwx]
 refine ⟨brR src dst nd gv (sec - 1), s6, ⟨right_mk (ends_mk hn2 hn1) ?_ (honly ..), rfl, hlen _ _ _ _ hL2⟩, hd7, ?_, rfl⟩
 ·rw [hfit]
  unfold branchB
  rw [hch _ _ _ _ hL2 (fun x hx => by have := hV2 x hx; omega)]
  have e1 : (sec - 1 == -1 || indexB (sec - 1) m.states.length) = true := by
   by_cases h0 : sec = 0
   ·rw [h0]; rfl
   ·rw [index_ok (by omega), Bool.or_true]
  show (true && (sec - 1 == -1 || indexB (sec - 1) m.states.length) && (decide (0 <= src) || _)) = true
  rw [e1, decide_eq_true hn1.1]; rfl
 ·exact leV_ag ⟨leV_refl _, leV_refl _, leV_refl _, leV_refl _, leV_refl _, leV_nil _ _, leV_refl _, leV_refl _, leV_refl _, leV_nil _ _, leV_nil _ _, leV_nil _ _, leV_nil _ _, leV_refl _, trivial⟩
theorem con_rWord (v : List Int) (hv : v.length <= 100) : Con Tryz.prog 55 [vs 0 v] [] fun r _ => r = .ag [vi 0, .sl 2 2 (v.map kidN)] := by
 refine Con.intro Tryz.func55 rfl Tryz.ntmps55 Tryz.results55 (by kernel_rfl) (by simp) 0 (by simp) ?_
 simp only [go_sem]
 refine LoopK.intro (fun i : Nat => ⟨22, [(0, vs 0 v), (2, .pb 0 0), (3, .pb 1 0), (4, vi i)], [[.any, .any], [vi 0, .sl 1280 2 ((v.take i).map kidN)]]⟩)
  (fun i => v.length - i) (fun i => i <= v.length) 0 (by omega) ?_ ?_
 ·simp only [go_sem, List.take_zero, List.map_nil]
 rintro i hi
 by_cases h : i < v.length
 ·have hw : IntKind.i64.wrap (i + 1) = i + 1 := wrap_in (by omega) (by omega)
  have hg := getv h
  have e : v.take (i + 1) = v.take i ++ [v[i]!] := by rw [List.take_add_one, List.getElem?_eq_getElem h, getElem!_pos v i h]; rfl
  simp only [go_sem, h]
  refine DrawK.walk 8 mixed (by kernel_rfl) ?_
  simp only [go_sem, h, hw, hg]
  refine ⟨by simp only [roomFor, List.length_take]; omega, roundK.intro (i + 1) (by omega) (by omega) ?_⟩
  simp only [go_sem, e, List.map_append, List.map_cons, List.map_nil]
 ·have e : i = v.length := by omega
  subst e
  simp only [go_sem, h, List.take_length]
theorem con_mvalue (c : CV) (hc : c.Slim) : Con Tryz.prog 159 [vV c] [] fun r _ => r = ownV 2 c := by
 have key : ∀ (N : Nat) (c : CV), SizeOf.sizeOf c <= N -> c.Slim -> Con Tryz.prog 159 [vV c] [] fun r _ => r = ownV 2 c := by
  intro N
  induction N with
  | zero => intro v hs; cases v; rw [CV.mk.sizeOf_spec] at hs; omega
  | succ N ih =>
   intro v hs hv
   have hlen := hv.len
   rw [vV_eq]
   refine Con.intro Tryz.func159 rfl Tryz.ntmps159 Tryz.results159 (by kernel_rfl) (by simp) 0 (by simp) ?_
   simp only [go_sem]
   refine LoopK.intro (fun i : Nat => ⟨27, [(1, .pb 0 0), (2, .pb 1 0), (3, .pb 2 0), (4, vi i)], [[vi v.n, .sl 0 2 (v.kids.map vV)], [vi 0, .nil], [vi v.n, .sl 1600 2 ((v.kids.take i).map vV)]]⟩)
    (fun i => v.kids.length - i) (fun i => i <= v.kids.length) 0 (by omega) ?_ ?_
   ·simp only [go_sem, List.take_zero, List.map_nil]
    all_goals exact ⟨leV_refl _, leV_nil _ _, trivial⟩
   rintro i hi
   by_cases h : i < v.kids.length
   ·have hg := getvV h
    have hw : IntKind.i64.wrap (i + 1) = i + 1 := wrap_in (by omega) (by omega)
    have hmem : v.kids[i]! ∈ v.kids := mem_bangI h
    have hsz := kid_size hmem
    have e : (v.kids.take (i + 1)).map vV = (v.kids.take i).map vV ++ [.ag [vi v.kids[i]!.n, .sl 0 2 (v.kids[i]!.kids.map vV)]] := by
     rw [<- vV_eq, List.take_add_one, List.getElem?_eq_getElem h, getElem!_pos v.kids i h, List.map_append]; rfl
    simp only [go_sem, h]
    refine DrawK.walk 9 mixed (by kernel_rfl) ?_
    simp only [go_sem, h, hg]
    refine CallY.mk (Con.froz (ih v.kids[i]! (by omega) (hv.kid hmem))) (by simp only [go_sem, vV_eq]) (by simp only [go_sem]) (.inl (by simp only [go_sem])) ?_
    simp only [go_sem, hw]
    refine ⟨by simp only [roomFor, List.length_take]; omega, ?_⟩
    refine roundK.intro (i + 1) (by omega) (by omega) ?_
    simp only [go_sem, e]
   ·have e : v.kids.take i = v.kids := List.take_of_length_le (by omega)
    simp only [go_sem, h, e]
 exact key _ c (Nat.le_refl _) hc
def treeK (l : List Int) (f : DS -> Int -> CV × DS) : Nat -> DS -> Int -> List CV × DS
 | 0, s, _ => ([], s)
 | n + 1, s, left =>
  if left <= 0 then ([], s) else if oneV l s 3 = true then ([], nextS l s 3)
  else ((f (nextS l (nextS l s 3) left) (1 + nextV l (nextS l s 3) left)).1 :: (treeK l f n (f (nextS l (nextS l s 3) left) (1 + nextV l (nextS l s 3) left)).2 (left - (1 + nextV l (nextS l s 3) left))).1,
   (treeK l f n (f (nextS l (nextS l s 3) left) (1 + nextV l (nextS l s 3) left)).2 (left - (1 + nextV l (nextS l s 3) left))).2)
def treeP (l : List Int) : Nat -> DS -> Int -> Int -> CV × DS
 | 0, s, labels, _ => (.mk (nextV l s labels) [], nextS l s labels)
 | d + 1, s, labels, most => (.mk (nextV l s labels) (treeK l (fun s k => treeP l d s labels k) (most - 1).toNat (nextS l s labels) (most - 1)).1, (treeK l (fun s k => treeP l d s labels k) (most - 1).toNat (nextS l s labels) (most - 1)).2)
theorem treeK_zero {l : List Int} {f : DS -> Int -> CV × DS} {n : Nat} {s : DS} {left : Int} (h : left <= 0) : treeK l f n s left = ([], s) := by
 cases n with
 | zero => rfl
 | succ n => unfold treeK; rw [if_pos h]
theorem treeK_dk {l : List Int} {f : DS -> Int -> CV × DS} (hf : ∀ s k, Dk l s -> Dk l (f s k).2) : ∀ (n : Nat) (s : DS) (left : Int), Dk l s -> Dk l (treeK l f n s left).2
 | 0, s, left, h => h
 | n + 1, s, left, h => by
  unfold treeK
  split
  ·exact h
  ·split
   ·exact nextS_dk h
   ·exact treeK_dk hf n _ _ (hf _ _ (nextS_dk (nextS_dk h)))
theorem treeP_dk {l : List Int} : ∀ (d : Nat) (s : DS) (labels most : Int), Dk l s -> Dk l (treeP l d s labels most).2
 | 0, _, _, _, h => nextS_dk h
 | d + 1, _, labels, _, h => treeK_dk (fun s k h => treeP_dk d s labels k h) _ _ _ (nextS_dk h)
theorem treeP_slim {l : List Int} : ∀ (d : Nat) (s : DS) (labels most : Int), most <= 100000 -> (treeP l d s labels most).1.Slim
 | 0, s, labels, most, _ => .leaf _
 | d + 1, s, labels, most, h => by
  have hf : ∀ (s : DS) (k : Int), k <= 100000 -> (treeP l d s labels k).1.Slim := fun s k hk => treeP_slim d s labels k hk
  have key : ∀ (n : Nat) (s : DS) (left : Int), left <= 100000 -> (treeK l (fun s k => treeP l d s labels k) n s left).1.length <= n /\ ∀ x ∈ (treeK l (fun s k => treeP l d s labels k) n s left).1, x.Slim := by
   intro n
   induction n with
   | zero => exact fun s left _ => ⟨Nat.le_refl _, fun x hx => by cases hx⟩
   | succ n ih =>
    intro s left hl
    unfold treeK
    split
    ·exact ⟨by simp, fun x hx => by cases hx⟩
    ·split
     ·exact ⟨by simp, fun x hx => by cases hx⟩
     ·have hn := nextV_lt (l := l) (s := nextS l s 3) (n := left) (by omega)
      have h2 := ih (treeP l d (nextS l (nextS l s 3) left) labels (1 + nextV l (nextS l s 3) left)).2 (left - (1 + nextV l (nextS l s 3) left)) (by omega)
      refine ⟨by rw [List.length_cons]; omega, fun x hx => ?_⟩
      rcases List.mem_cons.1 hx with rfl | hx
      ·exact hf _ _ (by omega)
      ·exact h2.2 x hx
  have := key (most - 1).toNat (nextS l s labels) (most - 1) (by omega)
  exact .mk _ _ (by omega) this.2
theorem treeP_len {l : List Int} {d : Nat} {s : DS} {labels most : Int} (h : most <= 900) : (treeP l d s labels most).1.kids.length <= 1000 := by
 cases d with
 | zero => exact Nat.zero_le _
 | succ d =>
  have key : ∀ (f : DS -> Int -> CV × DS) (n : Nat) (s : DS) (left : Int), (treeK l f n s left).1.length <= n := by
   intro f n
   induction n with
   | zero => exact fun s left => Nat.le_refl _
   | succ n ih =>
    intro s left
    unfold treeK
    split
    ·exact Nat.zero_le _
    ·split
     ·exact Nat.zero_le _
     ·have h2 := ih (f (nextS l (nextS l s 3) left) (1 + nextV l (nextS l s 3) left)).2 (left - (1 + nextV l (nextS l s 3) left))
      rw [List.length_cons]; omega
  have := key (fun s k => treeP l d s labels k) (most - 1).toNat (nextS l s labels) (most - 1)
  show (treeK _ _ _ _ _).1.length <= 1000
  omega
theorem con_dTree (l : List Int) : ∀ (d : Nat) (s : DS) (labels most : Int), most <= d -> d <= 900 -> Dk l s -> -1000 <= most ->
  Con Tryz.prog 160 [.pb 0 0, vi labels, vi most] [deckA l s] fun r b => r = ownV 2 (treeP l d s labels most).1 /\ b = [deckA l (treeP l d s labels most).2] := by
 intro d
 induction d with
 | zero =>
  intro s labels most hm hl hd hlow
  have e : treeP l 0 s labels most = (.mk (nextV l s labels) [], nextS l s labels) := rfl
  rw [e]
  have key : Con Tryz.prog 160 [.pb 0 0, vi labels, vi most] [deckA l s] fun r b => leV r (ownV 2 (.mk (nextV l s labels) [])) /\ b = [deckA l (nextS l s labels)] := by
   refine Con.intro Tryz.func160 rfl Tryz.ntmps160 Tryz.results160 (by kernel_rfl) (by simp) 1 (by simp) ?_
   simp only [go_sem]
   refine CallU.boxes (i := 0) (is := []) (bx0 := [deckA l s]) (con_dNext l s labels hd) (by simp only [go_sem]) (by simp only [go_sem]) (by simp only [go_sem]) (by simp only [go_sem]) (by simp only [go_sem]) ?_
   rintro r b ⟨rfl, rfl⟩
   generalize nextV l s labels = n
   generalize nextS l s labels = s1
   have hw : IntKind.i64.wrap (most - 1) = most - 1 := wrap_in (by omega) (by omega)
   have hp : ¬ 0 < most - 1 := by omega
   simp only [go_sem, hw]
   refine LoopK.intro (fun _ : Unit => ⟨40, [(0, .pb 0 0), (1, vi labels), (6, .pb 1 0), (7, .pb 2 0), (8, vi (most - 1))], [deckA l s1, [.any, .any], [vi n, .nil]]⟩)
    (fun _ => 0) (fun _ => True) () trivial ?_ ?_
   ·simp only [go_sem]
   rintro _ _
   simp only [go_sem, hp]
   exact leV_ag ⟨leV_refl _, leV_nil _ _, trivial⟩
  exact key.weak fun r b ⟨h1, h2⟩ => ⟨_, ⟨rfl, h2⟩, h1⟩
 | succ d ih =>
  intro s labels most hm hl hd hlow
  have hrec : ∀ (s : DS) (k : Int), k <= d -> Dk l s -> 1 <= k -> Con Tryz.prog 160 [.pb 0 0, vi labels, vi k] [deckA l s] fun r b => r = ownV 0 (treeP l d s labels k).1 /\ b = [deckA l (treeP l d s labels k).2] := fun s k h1 h2 h3 =>
   ((ih s labels k h1 (by omega) h2 (by omega)).freezeB fun _ => true).mono fun r b ⟨r1, b1, ⟨h1, h2⟩, h3, h4⟩ => by
    subst h1; subst h2; subst h3; subst h4
    exact ⟨rfl, rfl⟩
  have hn1 : Dk l (nextS l s labels) := nextS_dk hd
  have hdk : ∀ (s : DS) (k : Int), Dk l s -> Dk l (treeP l d s labels k).2 := fun s k h => treeP_dk (l := l) d s labels k h
  have e : treeP l (d + 1) s labels most = (.mk (nextV l s labels) (treeK l (fun s k => treeP l d s labels k) (most - 1).toNat (nextS l s labels) (most - 1)).1, (treeK l (fun s k => treeP l d s labels k) (most - 1).toNat (nextS l s labels) (most - 1)).2) := rfl
  rw [e]
  obtain ⟨f, hf⟩ : ∃ f : DS -> Int -> CV × DS, f = fun s k => treeP l d s labels k := ⟨_, rfl⟩
  have hrec' : ∀ (s : DS) (k : Int), k <= d -> Dk l s -> 1 <= k -> Con Tryz.prog 160 [.pb 0 0, vi labels, vi k] [deckA l s] fun r b => r = ownV 0 (f s k).1 /\ b = [deckA l (f s k).2] := by rw [hf]; exact hrec
  have hfd : ∀ s k, Dk l s -> Dk l (f s k).2 := by rw [hf]; exact hdk
  rw [<- hf]
  clear hf hrec hdk e
  have key : Con Tryz.prog 160 [.pb 0 0, vi labels, vi most] [deckA l s] fun r b => leV r (ownV 2 (.mk (nextV l s labels) (treeK l f (most - 1).toNat (nextS l s labels) (most - 1)).1)) /\ b = [deckA l (treeK l f (most - 1).toNat (nextS l s labels) (most - 1)).2] := by
   refine Con.intro Tryz.func160 rfl Tryz.ntmps160 Tryz.results160 (by kernel_rfl) (by simp) 1 (by simp) ?_
   simp only [go_sem]
   refine CallU.boxes (i := 0) (is := []) (bx0 := [deckA l s]) (con_dNext l s labels hd) (by simp only [go_sem]) (by simp only [go_sem]) (by simp only [go_sem]) (by simp only [go_sem]) (by simp only [go_sem]) ?_
   rintro r b ⟨rfl, rfl⟩
   generalize nextV l s labels = n
   generalize nextS l s labels = s1 at hn1 ⊢
   have hw : IntKind.i64.wrap (most - 1) = most - 1 := wrap_in (by omega) (by omega)
   simp only [go_sem, hw]
   obtain ⟨Q, hQ⟩ : ∃ Q, Q = treeK l f (most - 1).toNat s1 (most - 1) := ⟨_, rfl⟩
   rw [<- hQ]
   refine LoopK.intro (fun p : List CV × DS × Int => ⟨40, [(0, .pb 0 0), (1, vi labels), (6, .pb 1 0), (7, .pb 2 0), (8, vi p.2.2)], [deckA l p.2.1, [.any, .any], [vi n, .sl 2240 2 (p.1.map vV)]]⟩)
    (fun p => p.2.2.toNat) (fun p => Dk l p.2.1 /\ (p.1.length : Int) + max 0 p.2.2 <= max 0 (most - 1) /\ p.2.2 <= most - 1 /\ -2000 <= p.2.2 /\ ∃ N : Nat, p.2.2 <= N /\ Q = (p.1 ++ (treeK l f N p.2.1 p.2.2).1, (treeK l f N p.2.1 p.2.2).2)) ([], s1, most - 1) ⟨hn1, by show ((0 : Nat) : Int) + max 0 (most - 1) <= _; omega, by show most - 1 <= most - 1; omega, by show -2000 <= most - 1; omega, (most - 1).toNat, by show most - 1 <= _; omega, by rw [List.nil_append]; exact hQ⟩ ?_ ?_
   ·simp only [go_sem, List.map_nil]
   rintro ⟨kids, s2, left⟩ ⟨h1, h2, h3, h4, N, h5, h6⟩
   simp only at h1 h2 h3 h4 h5 h6
   by_cases hp : 0 < left
   case neg =>
    rw [treeK_zero (by omega), List.append_nil] at h6
    simp only [go_sem, hp, h6]
    exact leV_refl _
   simp only [go_sem, hp]
   refine CallU.boxes (i := 0) (is := []) (bx0 := [deckA l s2]) (con_dOne l s2 3 h1) (by simp only [go_sem]) (by simp only [go_sem]) (by simp only [go_sem]) (by simp only [go_sem]) (by simp only [go_sem]) ?_
   rintro r b ⟨rfl, rfl⟩
   have hd2 : Dk l (nextS l s2 3) := nextS_dk h1
   obtain ⟨M, rfl⟩ : ∃ M, N = M + 1 := ⟨N - 1, by omega⟩
   have e : treeK l f (M + 1) s2 left = if oneV l s2 3 = true then ([], nextS l s2 3)
    else ((f (nextS l (nextS l s2 3) left) (1 + nextV l (nextS l s2 3) left)).1 :: (treeK l f M (f (nextS l (nextS l s2 3) left) (1 + nextV l (nextS l s2 3) left)).2 (left - (1 + nextV l (nextS l s2 3) left))).1,
     (treeK l f M (f (nextS l (nextS l s2 3) left) (1 + nextV l (nextS l s2 3) left)).2 (left - (1 + nextV l (nextS l s2 3) left))).2) := by
    conv => lhs; unfold treeK
    rw [if_neg (by omega)]
   rw [e] at h6
   clear e
   generalize nextS l s2 3 = s3 at hd2 h6 ⊢
   cases ho : oneV l s2 3
   case true =>
    rw [ho, if_pos rfl, List.append_nil] at h6
    simp only [go_sem, h6]
    exact leV_refl _
   rw [ho, if_neg (by decide)] at h6
   simp only [go_sem]
   have hn := nextV_lt (l := l) (s := s3) (n := left) (by omega)
   have hd3 : Dk l (nextS l s3 left) := nextS_dk hd2
   refine CallU.boxes (i := 0) (is := []) (bx0 := [deckA l s3]) (con_dNext l s3 left hd2) (by simp only [go_sem]) (by simp only [go_sem]) (by simp only [go_sem]) (by simp only [go_sem]) (by simp only [go_sem]) ?_
   rintro r b ⟨rfl, rfl⟩
   obtain ⟨k, ek, hk⟩ : ∃ k : Int, 1 + nextV l s3 left = k /\ (1 <= k /\ k <= left) := ⟨_, rfl, by omega⟩
   have hw_k : IntKind.i64.wrap (1 + nextV l s3 left) = k := by rw [wrap_in (by omega) (by omega), ek]
   rw [ek] at h6
   generalize nextS l s3 left = s4 at hd3 h6 ⊢
   simp only [go_sem, hw_k]
   have hih := hrec' s4 k (by omega) hd3 hk.1
   have hd4 := hfd s4 k hd3
   generalize f s4 k = q at hih hd4 h6
   have hw2 : IntKind.i64.wrap (left - k) = left - k := wrap_in (by omega) (by omega)
   have hrm : roomFor (kids.length + 1) 32 := by simp only [roomFor]; omega
   refine DrawK.effs0 0 [5] [] 7 (.one 7 (.front 8 (.one 9 .done))) none (deckA l s4) mixed (by kernel_rfl) (by kernel_rfl) (by simp only [go_sem]) (by simp only [go_sem]) ?_
   simp only [go_sem]
   refine EffK.mk hih (by simp only [go_sem]) (by simp only [go_sem]) (by simp only [go_sem]) (by simp only [go_sem]) ?_
   simp only [go_sem, hw2, List.length_map]
   refine ⟨⟨hrm, roundK.intro (kids ++ [q.1], q.2, left - k) ⟨hd4, by show ((kids ++ [q.1]).length : Int) + max 0 (left - k) <= _; rw [List.length_append, List.length_singleton]; omega, by show left - k <= _; omega, by show -2000 <= left - k; omega, M, by show left - k <= _; omega, by rw [h6, List.append_assoc]; rfl⟩ (by show (left - k).toNat < left.toNat; omega) ?_⟩, trivial⟩
   simp only [go_sem, List.map_append, List.map_cons, List.map_nil]
   rw [vV_eq q.1]
   exact leV_refl _
  exact key.weak fun r b ⟨h1, h2⟩ => ⟨_, ⟨rfl, h2⟩, h1⟩
end Go.AM
