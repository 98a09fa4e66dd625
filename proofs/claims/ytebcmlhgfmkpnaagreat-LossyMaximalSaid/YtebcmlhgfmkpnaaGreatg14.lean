/- GD CmU GE GF -/
import Derived.Test.YtebcmlhgfmkpnaaGreatg13
namespace Go.AM
open Go Go.Proofs Go.RowKit
set_option maxRecDepth 100000
set_option maxHeartbeats 8000000
mutual
def oneT : CV -> TD -> Bool
 | .mk n kids, t =>
  if t.kind = 1 then decide (0 <= n) && decide (n <= 1048576) && kids.length == 0
  else if t.kind = 2 then decide (0 <= n) && decide (n < t.size) && kids.length == 0
  else if t.kind = 3 then n == 0 && decide (kids.length = t.parts.length) && zipT kids t.parts
  else if t.kind = 4 then n == 0 && decide (kids.length <= 12) && allKT kids t.parts[0]!
  else if t.kind = 5 then n == 0 && decide (kids.length <= 12) && allKT kids t.parts[0]! && sortedB kids
  else if t.kind = 6 then decide (countV (.mk n kids) 12 <= 12) && taggedV (.mk n kids) t.size
  else n == 0 && decide (kids.length <= 12) && !kids.any fun k => !labelB t.size k
def zipT : List CV -> List TD -> Bool
 | x :: l, t :: ts => oneT x t && zipT l ts
 | _, _ => true
def allKT : List CV -> TD -> Bool
 | [], _ => true
 | x :: l, t => oneT x t && allKT l t
end
theorem allT_any : ∀ (l : List CV) (t : TD), allKT l t = !l.any fun x => !oneT x t
 | [], _ => by simp [allKT]
 | x :: l, t => by rw [allKT, allT_any l, List.any_cons]; cases oneT x t <;> simp
theorem zipT_bad : ∀ {l : List CV} {ts : List TD} {i : Nat}, i < l.length -> i < ts.length -> oneT l[i]! ts[i]! = false -> zipT l ts = false
 | x :: l, t :: ts, 0, _, _, h => by
  have h : oneT x t = false := h
  rw [zipT, h]; rfl
 | x :: l, t :: ts, i + 1, h1, h2, h => by
  rw [zipT, zipT_bad (l := l) (ts := ts) (i := i) (by simpa using h1) (by simpa using h2) (by simpa using h), Bool.and_false]
 | [], _, _, h, _, _ => by simp at h
 | _ :: _, [], _, _, h, _ => by simp at h
theorem zipT_good : ∀ {l : List CV} {ts : List TD}, l.length = ts.length -> (∀ i, i < l.length -> oneT l[i]! ts[i]! = true) -> zipT l ts = true
 | [], _, _, _ => by simp [zipT]
 | x :: l, t :: ts, hl, h => by
  have h0 : oneT x t = true := h 0 (by simp)
  rw [zipT, h0, zipT_good (l := l) (ts := ts) (by simpa using hl) (fun i hi => by have := h (i + 1) (by simpa using hi); simpa using this)]; rfl
 | _ :: _, [], h, _ => by simp at h
inductive TD.Fit : TD -> Prop
 | mk (k s : Int) (r : List Int) (p : List TD) : ((k = 4 \/ k = 5) -> p.length = 1) -> (∀ x ∈ p, TD.Fit x) -> TD.Fit (.mk k s r p)
theorem TD.Fit.one {a : TD} (h : a.Fit) (hk : a.kind = 4 \/ a.kind = 5) : a.parts.length = 1 := by cases h with | mk k s r p h1 _ => exact h1 hk
theorem TD.Fit.part {a : TD} (h : a.Fit) {x : TD} (hx : x ∈ a.parts) : x.Fit := by cases h with | mk k s r p _ h2 => exact h2 x hx
theorem right_fit : ∀ (d : Nat) (t : TD), rightT d t = true -> t.Fit := by
 intro d
 induction d with
 | zero => intro t h; simp [rightT] at h
 | succ d ih =>
  intro t h
  have hparts : t.parts = [] \/ ∀ x ∈ t.parts, rightT d x = true := by
   unfold rightT at h
   split at h
   ·cases h
   ·split at h
    ·simp at h; exact .inl h.1
    ·split at h
     ·simp at h; exact .inl h.1.1
     ·split at h
      ·simp at h; exact .inl h.1.1
      ·split at h
       ·right; intro x hx; simp at h; exact h.2 x hx
       ·split at h
        ·right; intro x hx; simp at h; exact h.2 x hx
        ·cases h
  have hone : (t.kind = 4 \/ t.kind = 5) -> t.parts.length = 1 := fun hk => by
   unfold rightT at h
   rw [if_neg (show ¬ t.kind = 1 by omega), if_neg (show ¬ (t.kind = 2 \/ t.kind = 6) by omega), if_neg (show ¬ t.kind = 7 by omega), if_neg (show ¬ t.kind = 3 by omega), if_pos hk] at h
   split at h
   ·cases h
   ·simp only [Bool.and_eq_true, beq_iff_eq] at h; exact h.1.2
  cases t with
  | mk k s r p =>
   refine .mk k s r p hone fun x hx => ?_
   rcases hparts with hp | hp
   ·have hp : p = [] := hp
    rw [hp] at hx; cases hx
   ·exact ih x (hp x hx)
theorem con_olist (v : CV) (t : TD) (hv : v.Ok) (hrec : ∀ x ∈ v.kids, Con Tryz.prog 163 [vT t, vV x] [] fun r _ => r = vb (oneT x t)) :
  Con Tryz.prog 256 [vV v, vT t] [] fun r _ => r = vb (v.n == 0 && decide (v.kids.length <= 12) && allKT v.kids t) := by
 have hlen := hv.len
 have hcall : ∀ x ∈ v.kids, Con Tryz.prog 314 [vV x, .fp [vi t.kind, vi t.size, vs 0 t.ranks, .sl 0 4 (t.parts.map vT)] 0] [] fun r _ => r = .sc (.bool (!oneT x t)) := fun x hx => by
  rw [vV_eq]
  refine Con.intro Tryz.func314 rfl Tryz.ntmps314 Tryz.results314 (by kernel_rfl) (by simp) 1 (by simp) ?_
  simp only [go_sem]
  refine CallU.free (hrec x hx) (by simp only [go_sem]) (by simp only [go_sem, vV_eq, vT_eq]) ?_
  rintro r bx rfl
  simp only [go_sem]
 have hcon := con_containsVal v.kids 314 [.fp [vi t.kind, vi t.size, vs 0 t.ranks, .sl 0 4 (t.parts.map vT)] 0] (fun x => !oneT x t) (by simp only [go_sem]) hcall hlen
 rw [vV_eq, vT_eq, allT_any]
 refine Con.intro Tryz.func256 rfl Tryz.ntmps256 Tryz.results256 (by kernel_rfl) (by simp) 2 (by simp) ?_
 cases h1 : v.n == 0
 ·simp only [go_sem, h1, Bool.false_and]
 ·by_cases h2 : v.kids.length <= 12
  ·have h2' : (v.kids.length : Int) <= 12 := by omega
   simp only [go_sem, h1, h2', List.length_map]
   refine CallU.look hcon (by simp only [go_sem]) (by simp only [go_sem]) ?_
   rintro r bx rfl
   simp only [go_sem, h2, decide_true, Bool.true_and]
  ·have h2' : ¬ (v.kids.length : Int) <= 12 := by omega
   simp only [go_sem, h1, h2', h2, List.length_map, decide_false, Bool.and_false, Bool.false_and]
theorem con_oone : ∀ (s : Nat) (v : CV) (t : TD), SizeOf.sizeOf v <= s -> v.Ok -> t.Ok -> t.Fit -> Con Tryz.prog 163 [vT t, vV v] [] fun r _ => r = vb (oneT v t) := by
 intro s
 induction s with
 | zero => intro v t hs; cases v; rw [CV.mk.sizeOf_spec] at hs; omega
 | succ s ih =>
  intro v t hs hv ht hf
  have hlen := hv.len
  have hpl := ht.plen
  have e : oneT v t = if t.kind = 1 then decide (0 <= v.n) && decide (v.n <= 1048576) && v.kids.length == 0
   else if t.kind = 2 then decide (0 <= v.n) && decide (v.n < t.size) && v.kids.length == 0
   else if t.kind = 3 then v.n == 0 && decide (v.kids.length = t.parts.length) && zipT v.kids t.parts
   else if t.kind = 4 then v.n == 0 && decide (v.kids.length <= 12) && allKT v.kids t.parts[0]!
   else if t.kind = 5 then v.n == 0 && decide (v.kids.length <= 12) && allKT v.kids t.parts[0]! && sortedB v.kids
   else if t.kind = 6 then decide (countV v 12 <= 12) && taggedV v t.size
   else v.n == 0 && decide (v.kids.length <= 12) && !v.kids.any fun k => !labelB t.size k := by cases v; rw [oneT]; rfl
  have hzk : ((v.kids.length : Int) == 0) = (v.kids.length == 0) := zero_len _
  have hlab := con_olabel v t.size
  have hrec : ∀ x ∈ v.kids, ∀ p ∈ t.parts, Con Tryz.prog 163 [vT p, vV x] [] fun r _ => r = vb (oneT x p) := fun x hx p hp => ih x p (by have := kid_size hx; omega) (hv.kid hx) (ht.part hp) (hf.part hp)
  have e0 := vV_eq v
  have e1 := vT_eq t
  rw [e, e0, e1]
  refine Con.intro Tryz.func163 rfl Tryz.ntmps163 Tryz.results163 (by kernel_rfl) (by simp) 2 (by simp) ?_
  by_cases k1 : t.kind = 1
  ·have b1 : (t.kind == 1) = true := beq_iff_eq.2 k1
   rw [if_pos k1]
   by_cases h1 : 0 <= v.n
   ·by_cases h2 : v.n <= 1048576
    ·simp only [go_sem, b1, h1, h2, hzk, List.length_map, decide_true, Bool.true_and]
    ·simp only [go_sem, b1, h1, h2, decide_true, decide_false, Bool.true_and, Bool.false_and]
   ·simp only [go_sem, b1, h1, decide_false, Bool.false_and]
  have b1 : (t.kind == 1) = false := beq_eq_false_iff_ne.2 k1
  rw [if_neg k1]
  by_cases k2 : t.kind = 2
  ·have b2 : (t.kind == 2) = true := beq_iff_eq.2 k2
   rw [if_pos k2]
   simp only [go_sem, b1, b2]
   refine CallU.free hlab (by simp only [go_sem]) (by simp only [go_sem, e0]) ?_
   rintro r bx rfl
   simp only [go_sem]
  have b2 : (t.kind == 2) = false := beq_eq_false_iff_ne.2 k2
  rw [if_neg k2]
  by_cases k3 : t.kind = 3
  ·have b3 : (t.kind == 3) = true := beq_iff_eq.2 k3
   rw [if_pos k3]
   cases hn : v.n == 0
   ·have hn' : (v.n != 0) = true := by unfold bne; rw [hn]; rfl
    simp only [go_sem, b1, b2, b3, hn', Bool.false_and]
   have hn' : (v.n != 0) = false := by unfold bne; rw [hn]; rfl
   by_cases hl : v.kids.length = t.parts.length
   case neg =>
    have hl' : ((v.kids.length : Int) != (t.parts.length : Int)) = true := bne_iff_ne.2 (by omega)
    simp only [go_sem, b1, b2, b3, hn', hl', hl, List.length_map, decide_false, Bool.and_false, Bool.false_and]
   have hl' : ((v.kids.length : Int) != (t.parts.length : Int)) = false := by rw [hl]; simp
   simp only [go_sem, b1, b2, b3, hn', hl', List.length_map]
   refine LoopK.intro (fun i : Nat => ⟨110, [(2, .pb 0 0), (3, .pb 1 0), (46, .sl 0 2 (v.kids.map vV)), (47, vi v.kids.length), (48, vi i)], [vi t.kind, vi t.size, vs 0 t.ranks, .sl 0 4 (t.parts.map vT)] :: [vi v.n, .sl 0 2 (v.kids.map vV)] :: Rk 2 i⟩)
    (fun i => v.kids.length - i) (fun i => i <= v.kids.length /\ ∀ j, j < i -> oneT v.kids[j]! t.parts[j]! = true) 0 ⟨by omega, fun j hj => by omega⟩ ?_ ?_
   ·simp only [go_sem]
    all_goals exact leB_self _
   rintro i ⟨hi, hb⟩
   by_cases h : i < v.kids.length
   ·have h2 : i < t.parts.length := by omega
    have hg := getvV h
    have hg2 := getvT h2
    have hw : IntKind.i64.wrap (i + 1) = i + 1 := wrap_in (by omega) (by omega)
    have hB := Rk_len 2 i
    have n0 := fun L : List (List AV) => app_at0 (L := L) hB
    have s0 := fun (L : List (List AV)) z => app_set0 (L := L) (z := z) hB
    have hr := hrec _ (mem_bangI h) _ (mem_bangI h2)
    rw [vT_eq, vV_eq] at hr
    simp only [go_sem, h, hg, hB, n0, s0]
    refine DrawK.walk 8 mixed (by kernel_rfl) ?_
    simp only [go_sem, h2, hg2, n0]
    refine CallY.mk hr (by simp only [go_sem]) (by simp only [go_sem]) (.inl (by simp only [go_sem])) ?_
    cases hq : oneT v.kids[i]! t.parts[i]!
    ·simp only [go_sem, zipT_bad h h2 hq, Bool.and_false]
    ·simp only [go_sem, hw]
     refine roundK.intro (i + 1) ⟨by omega, fun j hj => ?_⟩ (by omega) ?_
     ·by_cases hji : j = i
      ·subst hji; exact hq
      ·exact hb j (by omega)
     ·simp only [go_sem, Rk_succ]
      all_goals exact leB_RkA ⟨leC_any _ 2 rfl, trivial⟩
   ·have ez : zipT v.kids t.parts = true := zipT_good hl fun j hj => hb j (by omega)
    have hld : decide (v.kids.length = t.parts.length) = true := decide_eq_true hl
    simp only [go_sem, h, ez, hld, Bool.and_true]
  have b3 : (t.kind == 3) = false := beq_eq_false_iff_ne.2 k3
  rw [if_neg k3]
  by_cases k4 : t.kind = 4
  ·have b4 : (t.kind == 4) = true := beq_iff_eq.2 k4
   have hp1 := hf.one (.inl k4)
   have hp0 : 0 < t.parts.length := by omega
   have hg := getvT hp0
   have hl := con_olist v t.parts[0]! hv fun x hx => hrec x hx _ (mem_bangI hp0)
   rw [e0, vT_eq] at hl
   rw [if_pos k4]
   simp only [go_sem, b1, b2, b3, b4]
   refine DrawK.walk 7 mixed (by kernel_rfl) ?_
   simp only [go_sem, hp0, hg, List.length_map]
   refine CallY.mk hl (by simp only [go_sem]) (by simp only [go_sem]) (.inl (by simp only [go_sem])) ?_
   simp only [go_sem]
  have b4 : (t.kind == 4) = false := beq_eq_false_iff_ne.2 k4
  rw [if_neg k4]
  by_cases k5 : t.kind = 5
  ·have b5 : (t.kind == 5) = true := beq_iff_eq.2 k5
   have hp1 := hf.one (.inr k5)
   have hp0 : 0 < t.parts.length := by omega
   have hg := getvT hp0
   have hl := con_olist v t.parts[0]! hv fun x hx => hrec x hx _ (mem_bangI hp0)
   have hso := con_isSortedV v.kids hlen fun x hx => hv.kid hx
   rw [e0, vT_eq] at hl
   rw [if_pos k5]
   simp only [go_sem, b1, b2, b3, b4, b5]
   refine DrawK.walk 12 mixed (by kernel_rfl) ?_
   simp only [go_sem, hp0, hg, List.length_map]
   refine CallY.mk hl (by simp only [go_sem]) (by simp only [go_sem]) (.inl (by simp only [go_sem])) ?_
   cases hL : v.n == 0 && decide (v.kids.length <= 12) && allKT v.kids t.parts[0]!
   ·simp only [go_sem, Bool.false_and]
   ·simp only [go_sem]
    refine CallY.mk hso (by simp only [go_sem]) (by simp only [go_sem]) (.inl (by simp only [go_sem])) ?_
    simp only [go_sem, Bool.true_and]
  have b5 : (t.kind == 5) = false := beq_eq_false_iff_ne.2 k5
  rw [if_neg k5]
  by_cases k6 : t.kind = 6
  ·have b6 : (t.kind == 6) = true := beq_iff_eq.2 k6
   rw [if_pos k6]
   simp only [go_sem, b1, b2, b3, b4, b5, b6]
   refine CallU.free (con_count v 12 (by omega) (by omega) hv) (by simp only [go_sem]) (by simp only [go_sem, e0]) ?_
   rintro r bx rfl
   by_cases hc : countV v 12 <= 12
   ·simp only [go_sem, hc]
    refine CallU.free (con_tagged _ v t.size (Nat.le_refl _) hv) (by simp only [go_sem]) (by simp only [go_sem, e0]) ?_
    rintro r bx rfl
    simp only [go_sem, hc, decide_true, Bool.true_and]
   ·simp only [go_sem, hc, decide_false, Bool.false_and]
  have b6 : (t.kind == 6) = false := beq_eq_false_iff_ne.2 k6
  rw [if_neg k6]
  have hcall : ∀ x ∈ v.kids, Con Tryz.prog 261 [vV x, .fp [vi t.kind, vi t.size, vs 0 t.ranks, .sl 0 4 (t.parts.map vT)] 0] [] fun r _ => r = .sc (.bool (!labelB t.size x)) := fun x hx => by
   rw [vV_eq]
   refine Con.intro Tryz.func261 rfl Tryz.ntmps261 Tryz.results261 (by kernel_rfl) (by simp) 1 (by simp) ?_
   simp only [go_sem]
   refine CallU.free (con_olabel x t.size) (by simp only [go_sem]) (by simp only [go_sem, vV_eq]) ?_
   rintro r bx rfl
   unfold labelB
   simp only [go_sem]
  have hcon := con_containsVal v.kids 261 [.fp [vi t.kind, vi t.size, vs 0 t.ranks, .sl 0 4 (t.parts.map vT)] 0] (fun x => !labelB t.size x) (by simp only [go_sem]) hcall hlen
  cases h1 : v.n == 0
  ·simp only [go_sem, b1, b2, b3, b4, b5, b6, h1, Bool.false_and]
  ·by_cases h2 : v.kids.length <= 12
   ·have h2' : (v.kids.length : Int) <= 12 := by omega
    simp only [go_sem, b1, b2, b3, b4, b5, b6, h1, h2', List.length_map]
    refine CallU.look hcon (by simp only [go_sem]) (by simp only [go_sem]) ?_
    rintro r bx rfl
    simp only [go_sem, h2, decide_true, Bool.true_and]
   ·have h2' : ¬ (v.kids.length : Int) <= 12 := by omega
    simp only [go_sem, b1, b2, b3, b4, b5, b6, h1, h2', h2, List.length_map, decide_false, Bool.and_false, Bool.false_and]
def validV (t : TD) (v : CV) : Bool := rightT 8 t && decide (countV v 128 <= 128) && oneT v t
theorem con_oValid (t : TD) (v : CV) (ht : t.Ok) (hv : v.Ok) : Con Tryz.prog 100 [vT t, vV v] [] fun r _ => r = vb (validV t v) := by
 have e0 := vV_eq v
 have e1 := vT_eq t
 rw [e0, e1]
 refine Con.intro Tryz.func100 rfl Tryz.ntmps100 Tryz.results100 (by kernel_rfl) (by simp) 2 (by simp) ?_
 have hc := con_oCheck t ht
 unfold checkT at hc
 unfold validV
 simp only [go_sem]
 refine CallU.free hc (by simp only [go_sem]) (by simp only [go_sem, e1]) ?_
 rintro r bx rfl
 cases hr : rightT 8 t
 ·simp only [go_sem, Bool.false_eq_true, if_false, Bool.false_and]
 simp only [go_sem, if_true]
 refine CallU.free (con_size v hv) (by simp only [go_sem]) (by simp only [go_sem, e0]) ?_
 rintro r bx rfl
 by_cases h : countV v 128 <= 128
 ·simp only [go_sem, h]
  refine CallU.free (con_oone _ v t (Nat.le_refl _) hv ht (right_fit 8 t hr)) (by simp only [go_sem]) (by simp only [go_sem, e0, e1]) ?_
  rintro r bx rfl
  simp only [go_sem, h, decide_true, Bool.true_and]
 ·simp only [go_sem, h, decide_false, Bool.true_and, Bool.false_and]
def vq (x : Int) : AV := .sc (.int .u64 x)
attribute [go_sem] vq
theorem con_clone (l : List Int) (h1 : 1 <= l.length) (h2 : l.length <= 1000000) : Con Tryz.prog 167 [vs 0 l] [] fun r _ => r = vs 2 l := by
 refine Con.intro Tryz.func167 rfl Tryz.ntmps167 Tryz.results167 (by kernel_rfl) (by simp) 0 (by simp) ?_
 cases l with
 | nil => simp at h1
 | cons x l =>
  simp only [List.length_cons] at h2
  simp only [go_sem]
  simp only [roomFor]
  omega
def labelT (n : Int) : TD := .mk 2 n [] []
def listT (k : Int) (t : TD) : TD := .mk k 0 [] [t]
def prodT (l : List TD) : TD := .mk 3 0 [] l
theorem vT_nil (k s : Int) : leV (.ag [vi k, vi s, .nil, .nil]) (vT (.mk k s [] [])) := by
 rw [vT_eq]
 exact leV_ag ⟨leV_refl _, leV_refl _, leV_nil 0 1, leV_nil 0 4, trivial⟩
theorem vT_parts (k s : Int) (l : List TD) : leV (.ag [vi k, vi s, .nil, .sl 0 4 (l.map vT)]) (vT (.mk k s [] l)) := by
 rw [vT_eq]
 exact leV_ag ⟨leV_refl _, leV_refl _, leV_nil 0 1, leV_refl _, trivial⟩
theorem con_labelF (n : Nat) : Con Tryz.prog 164 [vi n] [] fun r _ => r = vT (labelT n) :=
 (con_label n).weak fun r b h => by subst h; exact ⟨_, rfl, vT_nil _ _⟩
theorem con_list0 (k : Int) (t : TD) : Con Tryz.prog 166 [vi k, vT t] [] fun r _ => r = .ag [vi k, vi 0, .nil, .sl 2 4 [vT t]] := by
 rw [vT_eq]
 refine Con.intro Tryz.func166 rfl Tryz.ntmps166 Tryz.results166 (by kernel_rfl) (by simp) 0 (by simp) ?_
 simp only [go_sem]
theorem con_listF (k : Int) (t : TD) : Con Tryz.prog 166 [vi k, vT t] [] fun r _ => r = vT (listT k t) :=
 ((con_list0 k t).freezeR fun _ => true).weak fun r b ⟨r1, h3, h5⟩ => by
  subst h3; subst h5
  refine ⟨_, rfl, ?_⟩
  have := vT_parts k 0 [t]
  exact this
def nodesT (letters : Int) : Nat -> TD
 | 0 => listT 5 (labelT letters)
 | 1 => listT 5 (labelT letters)
 | n + 2 => listT 5 (prodT [labelT letters, nodesT letters (n + 1)])
def nodesTree : Tr := .front 1 (.front 2 (.alt (.one 0 (.one 3 (.one 4 (.one 5 (.one 6 (.one 7 .done)))))) (.one 3 (.alt (.one 0 (.one 4 (.one 5 (.one 6 (.one 7 .done))))) (.one 4 (.one 0 (.one 5 (.one 6 (.one 7 .done)))))))))
theorem con_nodesF (a : Nat) : ∀ n : Nat, n <= 100 -> Con Tryz.prog 165 [vi a, vi n] [] fun r _ => r = vT (nodesT a n) := by
 have base : ∀ n : Nat, n <= 1 -> Con Tryz.prog 165 [vi a, vi n] [] fun r _ => r = vT (listT 5 (labelT a)) := fun n hn => by
  refine Con.intro Tryz.func165 rfl Tryz.ntmps165 Tryz.results165 (by kernel_rfl) (by simp) 0 (by simp) ?_
  have h1 : ¬ (1 : Int) < (n : Int) := by omega
  simp only [go_sem]
  refine CallU.free (con_labelF a) (by simp only [go_sem]) (by simp only [go_sem]) ?_
  rintro r bx rfl
  have e1 := vT_eq (labelT a)
  have e2 := vT_eq (listT 5 (labelT a))
  simp only [go_sem, h1, e1]
  refine CallU.free (con_listF 5 (labelT a)) (by simp only [go_sem]) (by simp only [go_sem, e1]) ?_
  rintro r bx rfl
  simp only [go_sem, e2]
 intro n
 induction n with
 | zero => intro _; exact base 0 (by omega)
 | succ n ih =>
  intro hn
  cases n with
  | zero => exact base 1 (by omega)
  | succ n =>
   have hih := ih (by omega)
   rw [vT_eq] at hih
   refine Con.intro Tryz.func165 rfl Tryz.ntmps165 Tryz.results165 (by kernel_rfl) (by simp) 0 (by simp) ?_
   have h1 : (1 : Int) < (n : Int) + 1 + 1 := by omega
   have hw : IntKind.i64.wrap ((n : Int) + 1 + 1 - 1) = (n : Int) + 1 := by rw [wrap_in (by omega) (by omega)]; omega
   simp only [go_sem]
   refine CallU.free (con_labelF a) (by simp only [go_sem]) (by simp only [go_sem]) ?_
   rintro r bx rfl
   have e1 := vT_eq (labelT a)
   simp only [go_sem, h1, e1]
   refine DrawK.meet ⟨19, [(4, .pb 0 0), (5, .pb 1 0)], [[.any, .any, .any, .any], [vi 3, vi 0, .nil, .sl 1024 4 [vT (labelT a), vT (nodesT a (n + 1))]]]⟩ ?_ ?_
   ·refine DrawK.tree nodesTree mixed (by kernel_rfl) ?_
    unfold nodesTree
    have e3 := vT_eq (nodesT a (n + 1))
    repeat' (first | with_reducible apply andK_mk | (refine CallU.free hih (by simp only [go_sem]) (by simp only [go_sem]) ?_; rintro x bx rfl) | simp only [go_sem, e1, e3, hw])
   ·simp only [go_sem]
    have hl := (con_listF 5 (prodT [labelT a, nodesT a (n + 1)])).leA (args' := [vi 5, .ag [vi 3, vi 0, .nil, .sl 0 4 [vT (labelT a), vT (nodesT a (n + 1))]]]) ⟨leV_refl _, vT_parts 3 0 [labelT a, nodesT a (n + 1)], trivial⟩
    have e4 := vT_eq (listT 5 (prodT [labelT a, nodesT a (n + 1)]))
    refine CallU.freeze hl (by simp only [go_sem]) (by simp only [go_sem]) ?_
    rintro r bx rfl
    simp only [go_sem, e4]
    exact e4.symm
def placeT (m : MD) : TD := if m.kind = 2 then listT 4 (labelT m.letters.length) else if m.kind = 3 then .mk 7 m.letters.length m.ranks [] else .mk 1 0 [] []
def partsM (m : MD) : List TD :=
 labelT m.states.length :: (if m.kind = 4 then [nodesT m.letters.length m.levels.toNat] else if m.kind = 5 then [listT 5 (prodT [labelT m.places.length, labelT (m.age + 2)])] else List.replicate m.places.length (placeT m))
def typeM (m : MD) : TD := prodT (partsM m)
structure SizeM (m : MD) : Prop where
 states : m.states.length <= 1000000
 places : m.places.length <= 1000000
 letters : m.letters.length <= 1000000
 ranks : m.ranks.length <= 1000000
 levels : m.kind = 4 -> 0 <= m.levels /\ m.levels <= 100
 age : m.kind = 5 -> 0 <= m.age /\ m.age <= 100
 prio : m.kind = 3 -> 1 <= m.ranks.length
def placeA (m : MD) : AV := if m.kind = 2 then vT (listT 4 (labelT m.letters.length)) else if m.kind = 3 then .ag [vi 7, vi m.letters.length, vs 0 m.ranks, .nil] else .ag [vi 1, vi 0, .nil, .nil]
theorem rep_succ {α : Type} (n : Nat) (x : α) : List.replicate (n + 1) x = List.replicate n x ++ [x] := List.replicate_succ'
theorem con_typed0 (m : MD) (h : SizeM m) (h4 : m.kind ≠ 4) (h5 : m.kind ≠ 5) : Con Tryz.prog 101 [vM m] [] fun r _ => r = .ag [vi 3, vi 0, .nil, .sl 2 4 (vT (labelT m.states.length) :: List.replicate m.places.length (placeA m))] := by
 refine Con.intro Tryz.func101 rfl Tryz.ntmps101 Tryz.results101 (by kernel_rfl) (by simp) 0 (by simp) ?_
 have b4 : (m.kind == 4) = false := beq_eq_false_iff_ne.2 h4
 have b5 : (m.kind == 5) = false := beq_eq_false_iff_ne.2 h5
 have e1 := vT_eq (labelT m.states.length)
 have hp := h.places
 simp only [go_sem, vM, cM, vss, List.length_map]
 refine CallU.free (con_labelF m.states.length) (by simp only [go_sem]) (by simp only [go_sem]) ?_
 rintro r bx rfl
 simp only [go_sem, b4, b5, e1, List.length_map]
 refine LoopK.intro (fun i : Nat => ⟨70, [(1, .pb 0 0), (2, .pb 1 0), (3, .sl 640 4 (vT (labelT m.states.length) :: List.replicate i (placeA m))), (14, vi m.places.length), (15, vi i)], cM m :: [.any, .any, .any, .any] :: Rk 4 i⟩)
  (fun i => m.places.length - i) (fun i => i <= m.places.length) 0 (by omega) ?_ ?_
 ·simp only [go_sem, cM, vss, List.replicate_zero, e1]
  all_goals exact leB_self _
 rintro i hi
 by_cases hil : i < m.places.length
 ·have hw : IntKind.i64.wrap (i + 1) = i + 1 := wrap_in (by omega) (by omega)
  have hB := Rk_len 4 i
  have n0 := fun L : List (List AV) => app_at0 (L := L) hB
  have s0 := fun (L : List (List AV)) z => app_set0 (L := L) (z := z) hB
  have hro : roomFor (1 + i + 1) 64 := by simp only [roomFor]; omega
  have hro2 : roomFor (i + 1 + 1) 64 := by simp only [roomFor]; omega
  by_cases k2 : m.kind = 2
  ·have b2 : (m.kind == 2) = true := beq_iff_eq.2 k2
   have ep : placeA m = vT (listT 4 (labelT m.letters.length)) := by unfold placeA; rw [if_pos k2]
   have e2 := vT_eq (labelT m.letters.length)
   have e3 := vT_eq (listT 4 (labelT m.letters.length))
   simp only [go_sem, hil, cM, vss, List.length_map, b2, hB, n0, s0]
   refine CallU.free (con_labelF m.letters.length) (by simp only [go_sem]) (by simp only [go_sem]) ?_
   rintro r bx rfl
   simp only [go_sem, e2]
   refine CallU.free (con_listF 4 (labelT m.letters.length)) (by simp only [go_sem]) (by simp only [go_sem, e2]) ?_
   rintro r bx rfl
   simp only [go_sem, n0, s0, e3, hw, List.length_cons, List.length_replicate]
   refine ⟨hro2, roundK.intro (i + 1) (by omega) (by omega) ?_⟩
   simp only [go_sem, Rk_succ, rep_succ, ep, e3]
   all_goals exact leB_RkA ⟨leC_any _ 4 rfl, trivial⟩
  have b2 : (m.kind == 2) = false := beq_eq_false_iff_ne.2 k2
  by_cases k3 : m.kind = 3
  ·have b3 : (m.kind == 3) = true := beq_iff_eq.2 k3
   have ep : placeA m = .ag [vi 7, vi m.letters.length, vs 0 m.ranks, .nil] := by unfold placeA; rw [if_neg k2, if_pos k3]
   have hcl := con_clone m.ranks (h.prio k3) h.ranks
   simp only [go_sem, hil, cM, vss, b2, b3, hB, n0, s0]
   refine DrawK.walk 7 mixed (by kernel_rfl) ?_
   simp only [go_sem, List.length_map]
   refine CallY.mk hcl (by simp only [go_sem]) (by simp only [go_sem]) (.inl (by simp only [go_sem])) ?_
   simp only [go_sem, n0, s0, hw, List.length_cons, List.length_replicate]
   refine ⟨hro2, roundK.intro (i + 1) (by omega) (by omega) ?_⟩
   simp only [go_sem, Rk_succ, rep_succ, ep]
   all_goals exact leB_RkA ⟨leC_any _ 4 rfl, trivial⟩
  ·have b3 : (m.kind == 3) = false := beq_eq_false_iff_ne.2 k3
   have ep : placeA m = .ag [vi 1, vi 0, .nil, .nil] := by unfold placeA; rw [if_neg k2, if_neg k3]
   simp only [go_sem, hil, cM, vss, b2, b3, hB, n0, s0, hw, List.length_cons, List.length_replicate]
   refine ⟨hro2, roundK.intro (i + 1) (by omega) (by omega) ?_⟩
   simp only [go_sem, Rk_succ, rep_succ, ep]
   all_goals exact leB_RkA ⟨leC_any _ 4 rfl, trivial⟩
 ·obtain rfl : i = m.places.length := by omega
  simp only [go_sem, hil, cM, vss]
theorem flat_consL (x : AV) (l : List AV) : flat (x :: l) = x.cells ++ flat l := by simp [flat]
theorem rep_pw {a b : AV} (h : PW Sub a.cells b.cells) : ∀ n, PW Sub (flat (List.replicate n a)) (flat (List.replicate n b))
 | 0 => PW.nil _
 | n + 1 => by
  rw [List.replicate_succ, List.replicate_succ, flat_consL, flat_consL]
  exact PW.append h (rep_pw h n)
theorem place_pw (m : MD) : PW Sub (placeA m).cells (vT (placeT m)).cells := by
 unfold placeA placeT
 have hr : ∀ x : AV, PW Sub x.cells x.cells := fun x => by
  refine ⟨rfl, fun j y u hy hu => ?_⟩
  rw [hy] at hu; injection hu with hu; subst hu; exact Sub.refl _
 split
 ·exact hr _
 ·split
  ·rw [vT_eq]; exact PW.cons (Sub.refl _) (PW.cons (Sub.refl _) (PW.cons (Sub.refl _) (PW.cons (Sub.nil 4) (PW.nil _))))
  ·rw [vT_eq]; exact PW.cons (Sub.refl _) (PW.cons (Sub.refl _) (PW.cons (Sub.nil 1) (PW.cons (Sub.nil 4) (PW.nil _))))
theorem place_cells (m : MD) : (vT (placeT m)).cells.length = 4 := by rw [vT_eq]; rfl
theorem con_typedA (m : MD) (h : SizeM m) (h4 : m.kind ≠ 4) (h5 : m.kind ≠ 5) : Con Tryz.prog 101 [vM m] [] fun r _ => r = vT (typeM m) :=
 ((con_typed0 m h h4 h5).freezeR fun _ => true).weak fun r b ⟨r1, h3, h6⟩ => by
  subst h3; subst h6
  refine ⟨_, rfl, ?_⟩
  have e : typeM m = .mk 3 0 [] (labelT m.states.length :: List.replicate m.places.length (placeT m)) := by unfold typeM partsM prodT; rw [if_neg h4, if_neg h5]
  have e2 : vT (typeM m) = .ag [vi 3, vi 0, vs 0 [], .sl 0 4 (vT (labelT m.states.length) :: List.replicate m.places.length (vT (placeT m)))] := by
   rw [e, vT_eq]
   simp only [TD.kind, TD.size, TD.ranks, TD.parts, List.map_cons, List.map_replicate]
  rw [e2]
  refine leV_ag ⟨leV_refl _, leV_refl _, leV_nil 0 1, ?_, trivial⟩
  refine leV_slE (by simp) (fun y hy => ?_) ?_
  ·rcases List.mem_cons.1 hy with rfl | hy
   ·rw [vT_eq]; rfl
   ·rw [List.eq_of_mem_replicate hy]; exact place_cells m
  ·rw [flat_consL, flat_consL]
   refine PW.append ?_ (rep_pw (place_pw m) _)
   refine ⟨rfl, fun j y u hy hu => ?_⟩
   rw [hy] at hu; injection hu with hu; subst hu; exact Sub.refl _
theorem con_typed4 (m : MD) (h : SizeM m) (h4 : m.kind = 4) : Con Tryz.prog 101 [vM m] [] fun r _ => r = .ag [vi 3, vi 0, .nil, .sl 2 4 [vT (labelT m.states.length), vT (nodesT m.letters.length m.levels.toNat)]] := by
 refine Con.intro Tryz.func101 rfl Tryz.ntmps101 Tryz.results101 (by kernel_rfl) (by simp) 0 (by simp) ?_
 have b4 : (m.kind == 4) = true := beq_iff_eq.2 h4
 have hl := h.levels h4
 have e1 := vT_eq (labelT m.states.length)
 have e2 := vT_eq (nodesT m.letters.length m.levels.toNat)
 have hn := con_nodesF m.letters.length m.levels.toNat (by omega)
 rw [Int.toNat_of_nonneg hl.1] at hn
 have hro : roomFor (1 + 1) 64 := by simp only [roomFor]; omega
 simp only [go_sem, vM, cM, vss, List.length_map]
 refine CallU.free (con_labelF m.states.length) (by simp only [go_sem]) (by simp only [go_sem]) ?_
 rintro r bx rfl
 simp only [go_sem, b4, e1, List.length_map]
 refine CallU.free hn (by simp only [go_sem]) (by simp only [go_sem]) ?_
 rintro r bx rfl
 simp only [go_sem, e1, e2, List.length_cons, List.length_nil, hro]
def timedTree : Tr := .front 0 (.front 1 (.front 5 (.alt (.one 2 (.alt (.one 3 (.alt (.one 4 (.one 6 (.one 7 (.one 8 (.one 9 (.one 10 (.one 11 (.one 12 (.one 13 (.one 14 .done)))))))))) (.one 6 (.alt (.one 4 (.one 7 (.one 8 (.one 9 (.one 10 (.one 11 (.one 12 (.one 13 (.one 14 .done))))))))) (.one 7 (.one 4 (.one 8 (.one 9 (.one 10 (.one 11 (.one 12 (.one 13 (.one 14 .done))))))))))))) (.one 6 (.alt (.one 3 (.alt (.one 4 (.one 7 (.one 8 (.one 9 (.one 10 (.one 11 (.one 12 (.one 13 (.one 14 .done))))))))) (.one 7 (.one 4 (.one 8 (.one 9 (.one 10 (.one 11 (.one 12 (.one 13 (.one 14 .done))))))))))) (.one 7 (.one 3 (.one 4 (.one 8 (.one 9 (.one 10 (.one 11 (.one 12 (.one 13 (.one 14 .done)))))))))))))) (.one 6 (.alt (.one 2 (.alt (.one 3 (.alt (.one 4 (.one 7 (.one 8 (.one 9 (.one 10 (.one 11 (.one 12 (.one 13 (.one 14 .done))))))))) (.one 7 (.one 4 (.one 8 (.one 9 (.one 10 (.one 11 (.one 12 (.one 13 (.one 14 .done))))))))))) (.one 7 (.one 3 (.one 4 (.one 8 (.one 9 (.one 10 (.one 11 (.one 12 (.one 13 (.one 14 .done)))))))))))) (.one 7 (.one 2 (.one 3 (.one 4 (.one 8 (.one 9 (.one 10 (.one 11 (.one 12 (.one 13 (.one 14 .done))))))))))))))))
theorem con_typed5 (m : MD) (h : SizeM m) (h5 : m.kind = 5) : Con Tryz.prog 101 [vM m] [] fun r _ => r = .ag [vi 3, vi 0, .nil, .sl 2 4 [vT (labelT m.states.length), vT (listT 5 (prodT [labelT m.places.length, labelT (m.age + 2)]))]] := by
 refine Con.intro Tryz.func101 rfl Tryz.ntmps101 Tryz.results101 (by kernel_rfl) (by simp) 0 (by simp) ?_
 have b4 : (m.kind == 4) = false := beq_eq_false_iff_ne.2 (by omega)
 have b5 : (m.kind == 5) = true := beq_iff_eq.2 h5
 have hl := h.age h5
 obtain ⟨A, hA⟩ : ∃ A : Nat, m.age + 2 = A := ⟨(m.age + 2).toNat, by omega⟩
 have hw : IntKind.i64.wrap (m.age + 2) = A := by rw [hA]; exact wrap_in (by omega) (by omega)
 rw [hA]
 have e1 := vT_eq (labelT m.states.length)
 have e2 := vT_eq (labelT m.places.length)
 have e3 := vT_eq (labelT A)
 have e4 := vT_eq (listT 5 (prodT [labelT m.places.length, labelT A]))
 have c2 := con_labelF m.places.length
 have c3 := con_labelF A
 have c4 := (con_listF 5 (prodT [labelT m.places.length, labelT A])).leA (args' := [vi 5, .ag [vi 3, vi 0, .nil, .sl 0 4 [vT (labelT m.places.length), vT (labelT A)]]]) ⟨leV_refl _, vT_parts 3 0 [labelT m.places.length, labelT A], trivial⟩
 rw [e2] at c2
 rw [e3] at c3
 rw [e4, e2, e3] at c4
 have hro : roomFor (1 + 1) 64 := by simp only [roomFor]; omega
 simp only [go_sem, vM, cM, vss, List.length_map]
 refine CallU.free (con_labelF m.states.length) (by simp only [go_sem]) (by simp only [go_sem]) ?_
 rintro r bx rfl
 simp only [go_sem, b4, b5, e1]
 refine DrawK.meet ⟨70, [(1, .pb 0 0), (2, .pb 1 0), (3, .sl 640 4 [vT (labelT m.states.length), vT (listT 5 (prodT [labelT m.places.length, labelT A]))])], [cM m, [.any, .any, .any, .any]]⟩ ?_ ?_
 ·refine DrawK.tree timedTree mixed (by kernel_rfl) ?_
  unfold timedTree
  repeat' (first | with_reducible apply andK_mk | (refine CallU.free c2 (by simp only [go_sem]) ?_ ?_; (· (simp only [go_sem]; done)); rintro x bx rfl) | (refine CallU.free c3 (by simp only [go_sem]) ?_ ?_; (· (simp only [go_sem]; done)); rintro x bx rfl) | (refine CallU.freeze c4 (by simp only [go_sem]) (by simp only [go_sem]) ?_; rintro x bx rfl) | simp only [go_sem, cM, vss, List.length_map, hw, hro, e1, e4, List.length_cons, List.length_nil])
 ·simp only [go_sem, e1, e4]
def actsB (np nl : Nat) (r : RD) : Bool := if r.act = 0 then r.channel == 0 && r.letter == 0 else betweenB r.act 1 2 && indexB r.channel np && indexB r.letter nl
theorem con_acts (m : MD) (r : RD) (hp : m.places.length <= 1000000) (hl : m.letters.length <= 1000000) : Con Tryz.prog 247 [vM m, vRule r] [] fun x _ => x = vb (actsB m.places.length m.letters.length r) := by
 refine Con.intro Tryz.func247 rfl Tryz.ntmps247 Tryz.results247 (by kernel_rfl) (by simp) 2 (by simp) ?_
 unfold actsB
 have ci1 := con_index r.channel m.places.length (by omega) (by omega)
 have ci2 := con_index r.letter m.letters.length (by omega) (by omega)
 by_cases h0 : r.act = 0
 ·have h0' : (r.act == 0) = true := beq_iff_eq.2 h0
  rw [if_pos h0]
  cases hc : r.channel == 0
  ·simp only [go_sem, h0', hc, Bool.false_and]
  ·simp only [go_sem, h0', hc, Bool.true_and]
 have h0' : (r.act == 0) = false := beq_eq_false_iff_ne.2 h0
 rw [if_neg h0]
 simp only [go_sem, h0']
 refine CallU.free (con_between r.act 1 2) (by simp only [go_sem]) (by simp only [go_sem]) ?_
 rintro x bx rfl
 cases hb : betweenB r.act 1 2
 ·simp only [go_sem, Bool.false_and]
 simp only [go_sem, List.length_map]
 refine CallU.free ci1 (by simp only [go_sem]) (by simp only [go_sem]) ?_
 rintro x bx rfl
 unfold indexB
 cases h1 : decide (0 <= r.channel) && decide (r.channel < (m.places.length : Int))
 ·simp only [go_sem, Bool.true_and, Bool.false_and]
 simp only [go_sem, List.length_map]
 refine CallU.free ci2 (by simp only [go_sem]) (by simp only [go_sem]) ?_
 rintro x bx rfl
 simp only [go_sem]
@[go_sem] theorem typed_clG {P : Program} {d : Nat} {T : TypeId} {f : FuncId} {caps : List AV} : typed P d T (.cl f caps) = .cl f caps := rfl
def pathsB (nl : Nat) (levels : Int) (r : RD) : Bool := decide ((r.path.length : Int) <= levels) && decide ((r.next.length : Int) <= levels) && decide (0 < r.path.length + r.next.length) && r.path.all (fun x => indexB x nl) && r.next.all (fun x => indexB x nl)
theorem con_paths1 (m : MD) (x : Int) (hl : m.letters.length <= 1000000) : Con Tryz.prog 303 [vi x, .fp (cM m) 0] [] fun r _ => r = .sc (.bool (indexB x m.letters.length)) := by
 refine Con.intro Tryz.func303 rfl Tryz.ntmps303 Tryz.results303 (by kernel_rfl) (by simp) 0 (by simp) ?_
 unfold indexB
 simp only [go_sem, cM, vss, List.length_map]
 refine CallU.free (con_index x m.letters.length (by omega) (by omega)) (by simp only [go_sem]) (by simp only [go_sem]) ?_
 rintro r bx rfl
 simp only [go_sem]
theorem con_paths (m : MD) (r : RD) (hl : r.Len) (hp : r.path.length <= 1000000) (hn : r.next.length <= 1000000) (hle : m.letters.length <= 1000000) : Con Tryz.prog 248 [vM m, vRule r] [] fun x _ => x = vb (pathsB m.letters.length m.levels r) := by
 refine Con.intro Tryz.func248 rfl Tryz.ntmps248 Tryz.results248 (by kernel_rfl) (by simp) 0 (by simp) ?_
 unfold pathsB
 have c1 := con_all r.path 303 [.fp (cM m) 0] (fun x => indexB x m.letters.length) (by simp only [go_sem]) (fun x _ => con_paths1 m x hle) hl.path
 have c2 := con_all r.next 303 [.fp (cM m) 0] (fun x => indexB x m.letters.length) (by simp only [go_sem]) (fun x _ => con_paths1 m x hle) hl.next
 have hw : IntKind.i64.wrap ((r.path.length : Int) + (r.next.length : Int)) = (r.path.length : Int) + (r.next.length : Int) := wrap_in (by omega) (by omega)
 by_cases h1 : (r.path.length : Int) <= m.levels
 case neg => simp only [go_sem, cM, vss, List.length_map, h1, decide_false, Bool.false_and]
 by_cases h2 : (r.next.length : Int) <= m.levels
 case neg => simp only [go_sem, cM, vss, List.length_map, h1, h2, decide_true, decide_false, Bool.true_and, Bool.false_and]
 by_cases h3 : 0 < r.path.length + r.next.length
 case neg =>
  have h3' : ¬ (0 : Int) < (r.path.length : Int) + (r.next.length : Int) := by omega
  simp only [go_sem, cM, vss, List.length_map, h1, h2, hw, h3, h3', decide_true, decide_false, Bool.true_and, Bool.false_and]
 have h3' : (0 : Int) < (r.path.length : Int) + (r.next.length : Int) := by omega
 simp only [go_sem, cM, vss, List.length_map, h1, h2, hw, h3, h3', decide_true, Bool.true_and]
 refine CallU.look c1 (by simp only [go_sem]) (by simp only [go_sem, cM, vss]) ?_
 rintro x bx rfl
 cases h4 : r.path.all fun x => indexB x m.letters.length
 ·simp only [go_sem, Bool.false_and]
 simp only [go_sem]
 refine CallU.look c2 (by simp only [go_sem]) (by simp only [go_sem, cM, vss]) ?_
 rintro x bx rfl
 simp only [go_sem]
def ascGI (l : List Int) : Bool := (List.range l.length).all fun i => i == 0 || !decide (l[i]! < l[i - 1]!)
theorem ascI_bad {l : List Int} {i : Nat} (h : i < l.length) (h0 : i ≠ 0) (hb : l[i]! < l[i - 1]!) : ascGI l = false := by
 unfold ascGI
 rw [List.all_eq_false]
 refine ⟨i, List.mem_range.2 h, ?_⟩
 rw [decide_eq_true hb, beq_eq_false_iff_ne.2 h0]; simp
theorem ascI_good {l : List Int} (h : ∀ i, i < l.length -> i ≠ 0 -> ¬ l[i]! < l[i - 1]!) : ascGI l = true := by
 unfold ascGI
 rw [List.all_eq_true]
 intro i hi
 have hi := List.mem_range.1 hi
 by_cases h0 : i = 0
 ·rw [h0]; simp
 ·rw [decide_eq_false (h i hi h0)]; simp
theorem con_lessI (x y : Int) : Con Tryz.prog 215 [vi x, vi y] [] fun r _ => r = vb (decide (x < y)) := by
 refine Con.intro Tryz.func215 rfl Tryz.ntmps215 Tryz.results215 (by kernel_rfl) (by simp) 0 (by simp) ?_
 simp only [go_sem]
 refine CallU.free (con_nan x) (by simp only [go_sem]) (by simp only [go_sem]) ?_
 rintro r bx rfl
 simp only [go_sem]
theorem con_isSortedI (l : List Int) (hl : l.length <= 1000000) : Con Tryz.prog 304 [vs 0 l] [] fun r _ => r = vb (ascGI l) := by
 refine Con.intro Tryz.func304 rfl Tryz.ntmps304 Tryz.results304 (by kernel_rfl) (by simp) 0 (by simp) ?_
 have hw0 : IntKind.i64.wrap ((l.length : Int) - 1) = (l.length : Int) - 1 := wrap_in (by omega) (by omega)
 simp only [go_sem, List.length_map, hw0]
 refine LoopK.intro (fun k : Nat => ⟨21, [(0, vs 0 l), (3, vi ((l.length : Int) - 1 - k))], []⟩)
  (fun k => l.length - k) (fun k => k <= l.length /\ ∀ i, i < l.length -> l.length - 1 - k < i -> i ≠ 0 -> ¬ l[i]! < l[i - 1]!) 0 ⟨by omega, fun i h1 h2 => by omega⟩ ?_ ?_
 ·simp only [go_sem]
  all_goals exact leV_int (by omega)
 rintro k ⟨hk1, hb⟩
 by_cases h : (0 : Int) < (l.length : Int) - 1 - k
 ·obtain ⟨i, ei, hi0, hil⟩ : ∃ i : Nat, (l.length : Int) - 1 - k = i /\ 1 <= i /\ i < l.length := ⟨l.length - 1 - k, by omega, by omega, by omega⟩
  have h2 : i - 1 < l.length := by omega
  have g1 := getv hil
  have g2 := getv h2
  have hw : IntKind.i64.wrap ((i : Int) - 1) = ((i - 1 : Nat) : Int) := by rw [wrap_in (by omega) (by omega)]; omega
  have hi0' : (0 : Int) < (i : Int) := by omega
  rw [ei]
  simp only [go_sem, hi0']
  refine DrawK.walk 10 mixed (by kernel_rfl) ?_
  simp only [go_sem, hil, g1, hw, h2, g2]
  refine CallY.mk (con_lessI l[i]! l[i - 1]!) (by simp only [go_sem]) (by simp only [go_sem]) (.inl (by simp only [go_sem])) ?_
  by_cases hneg : l[i]! < l[i - 1]!
  ·simp only [go_sem, hneg, decide_true, ascI_bad hil (by omega) hneg]
  ·have hw2 : IntKind.i64.wrap ((i : Int) - 1) = (l.length : Int) - 1 - ((k + 1 : Nat) : Int) := by rw [wrap_in (by omega) (by omega)]; omega
   simp only [go_sem, hneg, decide_false, hw2]
   refine roundK.intro (k + 1) ⟨by omega, fun j h1 h2 h3 => ?_⟩ (by omega) ?_
   ·by_cases hji : j = i
    ·subst hji; exact hneg
    ·exact hb j h1 (by omega) h3
   ·simp only [go_sem]
 ·have e : ascGI l = true := ascI_good fun i h1 h2 => hb i h1 (by omega) h2
  simp only [go_sem, h, e]
def badTake (np : Nat) (age : Int) (t : Int × Int × Int) : Bool := !indexB t.1 np || decide (t.2.1 < 0) || decide (t.2.2 < t.2.1) || decide (age + 1 < t.2.2)
theorem con_ages2 (m : MD) (t : Int × Int × Int) (hp : m.places.length <= 1000000) (ha : 0 <= m.age /\ m.age <= 1000000) : Con Tryz.prog 307 [vTake t, .fp [vi m.places.length] 0, .fp (cM m) 0] [] fun r _ => r = .sc (.bool (badTake m.places.length m.age t)) := by
 refine Con.intro Tryz.func307 rfl Tryz.ntmps307 Tryz.results307 (by kernel_rfl) (by simp) 1 (by simp) ?_
 unfold badTake indexB
 have ci := con_index t.1 m.places.length (by omega) (by omega)
 have hw : IntKind.i64.wrap (m.age + 1) = m.age + 1 := wrap_in (by omega) (by omega)
 simp only [go_sem, vTake, cM, vss]
 refine CallU.free ci (by simp only [go_sem]) (by simp only [go_sem]) ?_
 rintro r bx rfl
 cases h1 : decide (0 <= t.1) && decide (t.1 < (m.places.length : Int))
 ·simp only [go_sem, Bool.not_false, Bool.true_or]
 by_cases h2 : t.2.1 < 0
 ·simp only [go_sem, h2, decide_true, Bool.or_true, Bool.true_or]
 by_cases h3 : t.2.2 < t.2.1
 ·simp only [go_sem, h2, h3, decide_true, decide_false, Bool.or_true, Bool.true_or]
 ·simp only [go_sem, h2, h3, hw, decide_false, Bool.not_true, Bool.false_or]
def agesB (np : Nat) (age : Int) (r : RD) : Bool := decide (r.takes.length <= 3) && decide (r.makes.length <= 3) && ascGI r.makes && r.makes.all (fun x => indexB x np) && !r.takes.any (badTake np age)
theorem con_ages1 (x : Int) (np : Nat) (hp : np <= 1000000) : Con Tryz.prog 305 [vi x, .fp [vi np] 0] [] fun r _ => r = .sc (.bool (indexB x np)) := by
 refine Con.intro Tryz.func305 rfl Tryz.ntmps305 Tryz.results305 (by kernel_rfl) (by simp) 0 (by simp) ?_
 unfold indexB
 simp only [go_sem]
 refine CallU.free (con_index x np (by omega) (by omega)) (by simp only [go_sem]) (by simp only [go_sem]) ?_
 rintro r bx rfl
 simp only [go_sem]
def TellsK (f : FuncId) (caps : List AV) (l : List (Int × Int × Int)) (p : Int × Int × Int -> Bool) : Prop := ∀ x ∈ l, Con Tryz.prog f ([vTake x] ++ caps) [] fun r _ => r = .sc (.bool (p x))
theorem con_indexTake (l : List (Int × Int × Int)) (f : FuncId) (caps : List AV) (p : Int × Int × Int -> Bool) (hc : mapTops (viewV []) caps = caps) (hf : TellsK f caps l p) (hl : l.length <= 9223372036854775806) : Con Tryz.prog 335 [.sl 0 3 (l.map vTake), .fn f caps] [] fun r _ => r = vi (findI p l) := by
 refine Con.intro Tryz.func335 rfl Tryz.ntmps335 Tryz.results335 (by kernel_rfl) (by simp) 0 (by simp) ?_
 simp only [go_sem]
 refine LoopK.intro (fun i : Nat => ⟨19, [(0, .sl 0 3 (l.map vTake)), (1, .fn f caps), (7, vi l.length), (8, vi i)], []⟩)
  (fun i => l.length - i) (fun i => i <= l.length /\ ∀ j, j < i -> p l[j]! = false) 0 ⟨by omega, fun j hj => by omega⟩ ?_ ?_
 ·simp only [go_sem]
  all_goals exact leV_refl _
 ·rintro i ⟨hi, hb⟩
  by_cases h : i < l.length
  ·have hg := getTake h
   have hw : IntKind.i64.wrap (i + 1) = i + 1 := wrap_in (by omega) (by omega)
   have hfi := hf l[i]! (mem_bangI h)
   unfold vTake at hfi
   simp only [go_sem, h, hg]
   refine CallU.look hfi (by simp only [go_sem]) (by simp only [go_sem, hc]) ?_
   rintro r bx rfl
   cases hp : p l[i]!
   ·simp only [go_sem, hw]
    refine roundK.intro (i + 1) ⟨by omega, fun j hj => ?_⟩ (by omega) ?_
    ·by_cases hji : j = i
     ·subst hji; exact hp
     ·exact hb j (by omega)
    ·simp only [go_sem]
   ·simp only [go_sem]
    rw [findI_stop h hb hp]
  ·simp only [go_sem, h]
   rw [findI_none (fun j hj => hb j (by omega))]
theorem con_containsTake (l : List (Int × Int × Int)) (f : FuncId) (caps : List AV) (p : Int × Int × Int -> Bool) (hc : mapTops (viewV []) caps = caps) (hf : TellsK f caps l p) (hl : l.length <= 9223372036854775806) : Con Tryz.prog 306 [.sl 0 3 (l.map vTake), .fn f caps] [] fun r _ => r = .sc (.bool (l.any p)) := by
 refine Con.intro Tryz.func306 rfl Tryz.ntmps306 Tryz.results306 (by kernel_rfl) (by simp) 0 (by simp) ?_
 simp only [go_sem]
 refine CallU.look (con_indexTake l f caps p hc hf hl) (by simp only [go_sem]) (by simp only [go_sem]) ?_
 rintro r bx rfl
 simp only [go_sem, findI_ge]
theorem con_ages (m : MD) (r : RD) (hl : r.Len) (hp : m.places.length <= 1000000) (ha : 0 <= m.age /\ m.age <= 1000000) : Con Tryz.prog 249 [vM m, vRule r] [] fun x _ => x = vb (agesB m.places.length m.age r) := by
 refine Con.intro Tryz.func249 rfl Tryz.ntmps249 Tryz.results249 (by kernel_rfl) (by simp) 0 (by simp) ?_
 unfold agesB
 have c1 := con_all r.makes 305 [.fp [vi m.places.length] 0] (fun x => indexB x m.places.length) (by simp only [go_sem]) (fun x _ => con_ages1 x m.places.length hp) hl.makes
 have c2 := con_containsTake r.takes 307 [.fp [vi m.places.length] 0, .fp (cM m) 0] (badTake m.places.length m.age) (by simp only [go_sem]) (fun x _ => con_ages2 m x hp ha) hl.takes
 by_cases h1 : r.takes.length <= 3
 case neg =>
  have h1' : ¬ (r.takes.length : Int) <= 3 := by omega
  simp only [go_sem, cM, vss, List.length_map, h1, h1', decide_false, Bool.false_and]
 have h1' : (r.takes.length : Int) <= 3 := by omega
 by_cases h2 : r.makes.length <= 3
 case neg =>
  have h2' : ¬ (r.makes.length : Int) <= 3 := by omega
  simp only [go_sem, cM, vss, List.length_map, h1, h1', h2, h2', decide_true, decide_false, Bool.true_and, Bool.false_and]
 have h2' : (r.makes.length : Int) <= 3 := by omega
 simp only [go_sem, cM, vss, List.length_map, h1, h1', h2, h2', decide_true, Bool.true_and]
 refine CallU.free (con_isSortedI r.makes (by omega)) (by simp only [go_sem]) (by simp only [go_sem]) ?_
 rintro x bx rfl
 cases h3 : ascGI r.makes
 ·simp only [go_sem, Bool.false_and]
 simp only [go_sem]
 refine CallU.look c1 (by simp only [go_sem]) (by simp only [go_sem]) ?_
 rintro x bx rfl
 cases h4 : r.makes.all fun x => indexB x m.places.length
 ·simp only [go_sem, Bool.false_and, Bool.true_and]
 simp only [go_sem, Bool.true_and]
 refine CallU.look c2 (by simp only [go_sem]) (by simp only [go_sem, cM, vss]) ?_
 rintro x bx rfl
 simp only [go_sem]
end Go.AM
