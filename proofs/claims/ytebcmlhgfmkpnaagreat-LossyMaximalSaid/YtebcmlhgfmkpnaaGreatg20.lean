/- LoO LLo1 LoD MxW3 MxW4 MxWA MxWB MxW7 MxWC MxWD MxWE MxWK MxWJ -/
import Derived.Test.YtebcmlhgfmkpnaaGreatg17
import Derived.Test.YtebcmlhgfmkpnaaGreatg19
import Derived.Test.YtebcmlhgfmkpnaaGreatg12
import Derived.Test.YtebcmlhgfmkpnaaGreatg9
namespace Go.AM
open Go Go.Proofs Go.RowKit
set_option maxRecDepth 100000
set_option maxHeartbeats 8000000
theorem ofW_snoc (w : List Int) (x : Int) : ofW (w ++ [x]) = ofW w ++ [⟨false, [x]⟩] := by unfold ofW; rw [List.map_append]; rfl
theorem ofW_len (w : List Int) : (ofW w).length = w.length := by unfold ofW; rw [List.length_map]
theorem ofW_valid {w : List Int} {nl : Nat} (h1 : 1 <= nl /\ nl <= 6) (hl : w.length <= 24) (hx : ∀ x ∈ w, 0 <= x /\ x < nl) : ValidP nl (ofW w) := by
 refine ⟨by omega, by rw [ofW_len]; exact hl, ofW_ok w, fun t ht x hxx => ?_, fun t ht => ?_⟩
 ·obtain ⟨y, hy, rfl⟩ := List.mem_map.1 ht
  rw [List.mem_singleton.1 hxx]; exact hx y hy
 ·obtain ⟨y, hy, rfl⟩ := List.mem_map.1 ht
  simp
def beginC (ws : List (List Int)) : ClD := (0, (ws.map ofW).map normP)
theorem con_lBegin (m : MD) (ws : List (List Int)) (hL : Con Tryz.prog 54 [vM m] [] fun r _ => r = vi 0) (hst : m.start = chanV 0 ws) (hl : ws.length = m.places.length) (hs : 1 <= m.states.length) (hf : m.places.length <= 1000 /\ 1 <= m.letters.length /\ m.letters.length <= 6)
  (hw : ∀ w ∈ ws, w.length <= 24 /\ ∀ x ∈ w, 0 <= x /\ x < m.letters.length) : Con Tryz.prog 35 [vM m] [] fun r _ => r = .tup [vCP (beginC ws), vi 0] := by
 refine Con.frozX ?_
 have hwo := fun i (hi : i < ws.length) => con_lwordOf 0 ws i hi (by omega) (by have := (hw _ (mem_bang hi)).1; omega)
 have hok : CloudOk m 0 (ws.map ofW) := ⟨by omega, by rw [List.length_map]; exact hl, fun p hp => by
  obtain ⟨w, hw', rfl⟩ := List.mem_map.1 hp
  exact ofW_valid (by omega) (hw w hw').1 (hw w hw').2, by omega⟩
 have c2 := con_lnormal m 0 (ws.map ofW) hok
 have hkl : ((chanV 0 ws).kids).length = ws.length + 1 := by show (CV.mk 0 [] :: ws.map wordV).length = _; simp
 have hg0 : ((chanV 0 ws).kids.map vV)[0]? = some (.ag [vi 0, .sl 0 2 []]) := by
  rw [chan_kids]
  show some (vV (.mk 0 [])) = _
  rw [vV_eq]; rfl
 have hpos : 0 < ((chanV 0 ws).kids).length := by omega
 rw [List.getElem?_map] at hg0
 rw [vV_eq] at hwo
 simp only [vM, cM, vss, vCl] at hL c2
 rw [hst] at hL c2
 refine Con.intro Tryz.func35 rfl Tryz.ntmps35 Tryz.results35 (by kernel_rfl) (by simp) 0 (by simp) ?_
 unfold vM cM
 rw [hst]
 generalize (chanV 0 ws).kids = K at hwo hkl hg0 hpos hL c2
 generalize (chanV 0 ws).n = z at hwo hL c2
 simp only [go_sem, vss]
 refine CallU.free hL (by simp only [go_sem]) (by simp only [go_sem]) ?_
 rintro q bx rfl
 simp only [go_sem, hpos, hg0, List.length_map]
 refine LoopK.intro (fun i : Nat => ⟨55, [(1, .pb 0 0), (2, .pb 1 0), (5, .pb 2 0), (25, vi m.places.length), (26, vi i)], [[vi m.kind, .sl 0 1 (m.states.map vStr), .sl 0 1 (m.places.map vStr), .sl 0 1 (m.letters.map vStr), vs 0 m.ranks, vi m.levels, vi m.age, .sl 0 14 (m.rules.map vRule), vi z, .sl 0 2 (K.map vV)], [.any, .any], [vi 0, .sl 3200 1 (((ws.take i).map ofW).map vPr)]]⟩)
  (fun i => m.places.length - i) (fun i => i <= m.places.length) 0 (Nat.zero_le _) ?_ ?_
 ·simp only [go_sem, List.take_zero, List.map_nil]
  try exact ⟨leC_self _, ⟨leV_any _, leV_any _, trivial⟩, ⟨leV_refl _, leV_nil _ _, trivial⟩, trivial⟩
 rintro i hi
 by_cases h : i < m.places.length
 case neg =>
  have e : ws.take i = ws := List.take_of_length_le (by omega)
  have e2 : (beginC ws).2 = (ws.map ofW).map normP := rfl
  simp only [go_sem, h, e]
  simp only [List.map_map] at c2
  refine CallU.freeze c2 (by simp only [go_sem]) (by simp only [go_sem]) ?_
  rintro q bx rfl
  simp only [go_sem]
  have e3 : vCP (beginC ws) = .ag [vi 0, .sl 0 1 (List.map (vPr ∘ normP ∘ ofW) ws)] := by
   show AV.ag [vi 0, .sl 0 1 (((ws.map ofW).map normP).map vPr)] = _
   rw [List.map_map, List.map_map]; rfl
  rw [e3]
  exact leV_refl _
 have hiw : i < ws.length := by omega
 have hwi : IntKind.i64.wrap (i + 1) = i + 1 := wrap_in (by omega) (by omega)
 have hc := hwo i hiw
 have hwl := (hw _ (mem_bang hiw)).1
 have e : ((ws.take (i + 1)).map ofW).map vPr = ((ws.take i).map ofW).map vPr ++ [vPr (ofW ws[i]!)] := by
  rw [List.take_succ_eq_append_getElem hiw, List.map_append, List.map_append, <- getElem!_pos ws i hiw]; rfl
 generalize ws[i]! = w at hc hwl e
 simp only [go_sem, h]
 refine CallU.free hc (by simp only [go_sem]) (by simp only [go_sem]) ?_
 rintro q bx rfl
 simp only [go_sem, List.length_map]
 refine LoopK.intro (fun j : Nat => ⟨55, [(1, .pb 0 0), (2, .pb 1 0), (5, .pb 2 0), (25, vi m.places.length), (26, vi i), (6, vi i), (7, .sl 2816 2 ((ofW (w.take j)).map vTm)), (32, vs 0 w), (33, vi w.length), (34, vi j)], [[vi m.kind, .sl 0 1 (m.states.map vStr), .sl 0 1 (m.places.map vStr), .sl 0 1 (m.letters.map vStr), vs 0 m.ranks, vi m.levels, vi m.age, .sl 0 14 (m.rules.map vRule), vi z, .sl 0 2 (K.map vV)], [.any, .any], [vi 0, .sl 3200 1 (((ws.take i).map ofW).map vPr)]]⟩)
  (fun j => w.length - j) (fun j => j <= w.length) 0 (Nat.zero_le _) ?_ ?_
 ·simp only [go_sem, List.take_zero, show ofW [] = [] from rfl, List.map_nil]
  try exact leB_self _
 rintro j hj
 by_cases h2 : j < w.length
 case neg =>
  have e2 : w.take j = w := List.take_of_length_le (by omega)
  have hll : ((ws.take i).map ofW).length <= 1000 := by rw [List.length_map, List.length_take]; omega
  simp only [go_sem, h2, e2, hwi]
  refine ⟨by simp only [roomFor, List.length_take]; omega, ?_⟩
  refine roundK.intro (i + 1) (by omega) (by omega) ?_
  simp only [List.map_map] at e
  simp only [go_sem, e, vPr]
  try exact leB_self _
 have hg := getv h2
 have hwj : IntKind.i64.wrap (j + 1) = j + 1 := wrap_in (by omega) (by omega)
 have e3 : (ofW (w.take (j + 1))).map vTm = (ofW (w.take j)).map vTm ++ [vTm ⟨false, [w[j]!]⟩] := by
  rw [List.take_succ_eq_append_getElem h2, ofW_snoc, List.map_append, <- getElem!_pos w j h2]; rfl
 have hol : (ofW (w.take j)).length <= 24 := by rw [ofW_len, List.length_take]; omega
 simp only [go_sem, h2, hg, hwj]
 refine ⟨by simp only [roomFor]; omega, ?_⟩
 refine roundK.intro (j + 1) (by omega) (by omega) ?_
 simp only [go_sem, e3]
end Go.AM
namespace Go.AM
theorem mem_app_of : ∀ (n : Nat) (p : List TmD) (u : List Int), p.length + u.length <= n -> ∀ (r : List TmD) (v : List Int), memP p u = true -> memP r v = true -> memP (p ++ r) (u ++ v) = true
 | _, [], [], _, r, v, _, h => h
 | _, [], x :: u, _, r, v, h, _ => by rw [memP_none] at h; cases h
 | 0, t :: p, u, hn, _, _, _, _ => by simp only [List.length_cons] at hn; omega
 | n + 1, t :: p, [], hn, r, v, _, h => by
  simp only [List.length_cons] at hn
  exact memP_put t (mem_app_of n p [] (by simp only [List.length_nil] at hn ⊢; omega) r v (memP_nil p) h)
 | n + 1, t :: p, x :: u, hn, r, v, h1, h => by
  simp only [List.length_cons] at hn
  rw [memP_cons] at h1
  rw [List.cons_append, List.cons_append, memP_cons]
  by_cases hx : x ∈ t.ls
  ·rw [if_pos hx] at h1 ⊢
   cases hs : t.star with
   | true =>
    rw [hs, if_pos rfl] at h1
    rw [if_pos rfl]
    exact mem_app_of n (t :: p) u (by simp only [List.length_cons]; omega) r v h1 h
   | false =>
    rw [hs, if_neg (by simp)] at h1
    rw [if_neg (by simp)]
    exact mem_app_of n p u (by omega) r v h1 h
  ·rw [if_neg hx] at h1 ⊢
   exact mem_app_of n p (x :: u) (by simp only [List.length_cons]; omega) r v h1 h
theorem mem_app_inv : ∀ (n : Nat) (p : List TmD) (w : List Int), p.length + w.length <= n -> ∀ (r : List TmD), memP (p ++ r) w = true -> ∃ u v, w = u ++ v /\ memP p u = true /\ memP r v = true
 | _, [], w, _, r, h => ⟨[], w, rfl, memP_nil _, h⟩
 | _, t :: p, [], _, r, _ => ⟨[], [], rfl, memP_nil _, memP_nil _⟩
 | 0, t :: p, x :: w, hn, _, _ => by simp at hn
 | n + 1, t :: p, x :: w, hn, r, h => by
  simp only [List.length_cons] at hn
  rw [List.cons_append, memP_cons] at h
  by_cases hx : x ∈ t.ls
  ·rw [if_pos hx] at h
   cases hs : t.star with
   | true =>
    rw [hs, if_pos rfl] at h
    obtain ⟨u, v, e, h1, h2⟩ := mem_app_inv n (t :: p) w (by simp only [List.length_cons]; omega) r h
    exact ⟨x :: u, v, by rw [e]; rfl, by rw [memP_in hx hs]; exact h1, h2⟩
   | false =>
    rw [hs, if_neg (by simp)] at h
    obtain ⟨u, v, e, h1, h2⟩ := mem_app_inv n p w (by omega) r h
    exact ⟨x :: u, v, by rw [e]; rfl, by rw [memP_one hx hs]; exact h1, h2⟩
  ·rw [if_neg hx] at h
   obtain ⟨u, v, e, h1, h2⟩ := mem_app_inv n p (x :: w) (by simp only [List.length_cons]; omega) r h
   exact ⟨u, v, e, memP_put t h1, h2⟩
theorem mem_app {p r : List TmD} {w : List Int} : memP (p ++ r) w = true ↔ ∃ u v, w = u ++ v /\ memP p u = true /\ memP r v = true :=
 ⟨mem_app_inv _ p w (Nat.le_refl _) r, fun ⟨u, v, e, h1, h2⟩ => by rw [e]; exact mem_app_of _ p u (Nat.le_refl _) r v h1 h2⟩
theorem EqP.appR {p q : List TmD} (h : EqP p q) (r : List TmD) : EqP (p ++ r) (q ++ r) := fun w => by
 rw [Bool.eq_iff_iff, mem_app, mem_app]
 constructor
 ·rintro ⟨u, v, e, h1, h2⟩; exact ⟨u, v, e, by rw [<- h u]; exact h1, h2⟩
 ·rintro ⟨u, v, e, h1, h2⟩; exact ⟨u, v, e, by rw [h u]; exact h1, h2⟩
theorem mem_left {p : List TmD} (r : List TmD) {w : List Int} (h : memP p w = true) : memP (p ++ r) w = true := mem_app.2 ⟨w, [], by simp, h, memP_nil r⟩
def starT (L : List Int) : TmD := ⟨true, L⟩
def starP (p : List TmD) (L : List Int) : List TmD := if L = [] then normP p else normP (normP p ++ [starT L])
theorem starT_ok {L : List Int} (h : ascI L = true) : (starT L).Ok := ⟨fun h => by simp [starT] at h, h⟩
theorem okP_app {p q : List TmD} (hp : OkP p) (hq : OkP q) : OkP (p ++ q) := fun t ht => (List.mem_append.1 ht).elim (hp t) (hq t)
theorem okP_star {p : List TmD} {L : List Int} (hp : OkP p) (h : ascI L = true) : OkP (p ++ [starT L]) := okP_app hp fun t ht => by rw [List.mem_singleton.1 ht]; exact starT_ok h
theorem starP_ok {p : List TmD} {L : List Int} (hp : OkP p) (h : ascI L = true) : OkP (starP p L) := by
 unfold starP
 split
 ·exact normP_ok hp
 ·exact normP_ok (okP_star (normP_ok hp) h)
theorem starP_red (p : List TmD) (L : List Int) : redP (starP p L) := by
 unfold starP
 split
 ·exact normP_red _
 ·exact normP_red _
theorem starP_eq (p : List TmD) (L : List Int) : EqP (starP p L) (if L = [] then p else p ++ [starT L]) := by
 unfold starP
 split
 ·exact (normP_eq p).symm
 ·exact (normP_eq _).symm.trans ((normP_eq p).symm.appR _)
theorem star_star (p : List TmD) (L : List Int) : EqP (p ++ [starT L] ++ [starT L]) (p ++ [starT L]) := by
 rw [List.append_assoc]
 exact (eq_next (t := starT L) (u := starT L) rfl (by unfold witT starT; simp) []).app p
theorem starP_twice {p : List TmD} {L : List Int} (hp : OkP p) (h : ascI L = true) : starP (starP p L) L = starP p L := by
 refine red_eq (starP_ok (starP_ok hp h) h) (starP_ok hp h) (starP_red _ _) (starP_red _ _) ?_
 have h1 := starP_eq (starP p L) L
 have h2 := starP_eq p L
 by_cases hL : L = []
 ·rw [if_pos hL] at h1; exact h1
 ·rw [if_neg hL] at h1 h2
  exact h1.trans ((h2.appR _).trans ((star_star p L).trans h2.symm))
theorem starP_above {p : List TmD} {L : List Int} (hp : OkP p) (h : ascI L = true) : leqP p (starP p L) = true := (leq_iff hp (starP_ok hp h)).2 fun w hw => by
 rw [starP_eq p L w]
 split
 ·exact hw
 ·exact mem_left _ hw
theorem starP_len (p : List TmD) (L : List Int) : (starP p L).length <= p.length + 1 := by
 unfold starP
 split
 ·have := normP_len p; omega
 ·have h1 := normP_len (normP p ++ [starT L])
  have h2 := normP_len p
  rw [List.length_append] at h1
  simp only [List.length_cons, List.length_nil] at h1; omega
theorem starP_snoc {p : List TmD} {L : List Int} {x : Int} (hp : OkP p) (h : ascI L = true) (hx : x ∈ L) : normP (starP p L ++ [⟨false, [x]⟩]) = starP p L := by
 have hL : L ≠ [] := fun e => by rw [e] at hx; cases hx
 have h2 := starP_eq p L
 rw [if_neg hL] at h2
 refine red_eq (normP_ok (okP_app (starP_ok hp h) fun t ht => by rw [List.mem_singleton.1 ht]; exact one_ok x)) (starP_ok hp h) (normP_red _) (starP_red _ _) ?_
 refine (normP_eq _).symm.trans ((h2.appR _).trans ?_)
 refine EqP.trans ?_ h2.symm
 rw [List.append_assoc]
 exact (eq_prev (t := ⟨false, [x]⟩) (u := starT L) rfl (by unfold witT starT; simp [hx]) []).app p
structure StP (p : List TmD) (L : List Int) (out : List TmD) : Prop where
 red : redP out
 eq : EqP (out ++ [starT L]) (p ++ [starT L])
 sub : ∀ t ∈ out, t ∈ p
theorem StP.start {p : List TmD} (L : List Int) (h : redP p) : StP p L p := ⟨h, EqP.refl _, fun _ ht => ht⟩
theorem StP.pop {p out : List TmD} {L : List Int} (h : StP p L out) (h0 : 0 < out.length) (hw : witT out[out.length - 1]! (starT L) = true) : StP p L (out.take (out.length - 1)) := by
 have e := snoc_last h0
 generalize out[out.length - 1]! = u at hw e
 generalize out.take (out.length - 1) = a at e
 subst e
 refine ⟨red_init h.red, ?_, fun t ht => h.sub t (by simp [ht])⟩
 have he := h.eq
 rw [List.append_assoc] at he
 exact ((eq_next (t := u) (u := starT L) rfl hw []).app a).symm.trans he
theorem StP.ok {p out : List TmD} {L : List Int} (h : StP p L out) (hp : OkP p) : OkP out := fun t ht => hp t (h.sub t ht)
theorem StP.keep {p out : List TmD} {L : List Int} (h : StP p L out) (hp : OkP p) (hL : ascI L = true) (h0 : 0 < out.length) (hs : out[out.length - 1]!.star = true) (hw : witT (starT L) out[out.length - 1]! = true) : out = normP (p ++ [starT L]) := by
 refine red_eq (h.ok hp) (normP_ok (okP_star hp hL)) h.red (normP_red _) ?_
 refine EqP.trans ?_ (h.eq.trans (normP_eq _))
 have e := snoc_last h0
 generalize out[out.length - 1]! = u at hs hw e
 generalize out.take (out.length - 1) = a at e
 subst e
 rw [List.append_assoc]
 exact ((eq_prev (t := starT L) (u := u) hs hw []).app a).symm
theorem StP.put {p out : List TmD} {L : List Int} (h : StP p L out) (hp : OkP p) (hL : ascI L = true) (hn : L ≠ []) (h1 : 0 < out.length -> ¬ witT out[out.length - 1]! (starT L) = true)
  (h2 : 0 < out.length -> ¬ (out[out.length - 1]!.star = true /\ witT (starT L) out[out.length - 1]! = true)) : out ++ [starT L] = normP (p ++ [starT L]) := by
 refine red_eq (okP_star (h.ok hp) hL) (normP_ok (okP_star hp hL)) ?_ (normP_red _) (h.eq.trans (normP_eq _))
 by_cases h0 : 0 < out.length
 ·have e := snoc_last h0
  have k1 := h1 h0
  have k2 := h2 h0
  clear h1 h2
  have hr := h.red
  generalize out[out.length - 1]! = u at k1 k2 e
  generalize out.take (out.length - 1) = a at e
  subst e
  have := red_snoc (t := starT L) hr ⟨fun hc => k1 hc.2, k2⟩ hn
  simpa using this
 ·rw [List.length_eq_zero_iff.1 (by omega : out.length = 0)]; exact red_one hn
end Go.AM
namespace Go.AM
open Go Go.Proofs Go.RowKit
set_option maxRecDepth 100000
set_option maxHeartbeats 8000000
theorem con_lcloneTm (l : List TmD) (hl : l.length <= 1000000) : Con Tryz.prog 139 [vPr l] [] fun r _ => r = .sl 2 2 (l.map vTm) := by
 refine Con.le (post := fun r _ => r = .nil /\ l = [] \/ r = .sl 2 2 (l.map vTm)) ?_ (fun r b h => ⟨.sl 2 2 (l.map vTm), by rcases h with ⟨rfl, rfl⟩ | rfl; exact leV_nil 2 2; exact leV_refl _, rfl⟩)
 refine Con.intro Tryz.func139 rfl Tryz.ntmps139 Tryz.results139 (by kernel_rfl) (by simp) 0 (by simp) ?_
 cases l with
 | nil =>
  simp only [go_sem]
  simp [roomFor]
 | cons x l =>
  simp only [go_sem]
  simp [roomFor]; simp at hl; omega
theorem con_lwithin1 (x : Int) (L : List Int) (hl : L.length <= 1000000) : Con Tryz.prog 221 [vi x, .fp [vs 0 L] 0] [] fun r _ => r = .sc (.bool (!decide (x ∈ L))) := by
 refine Con.intro Tryz.func221 rfl Tryz.ntmps221 Tryz.results221 (by kernel_rfl) (by simp) 0 (by simp) ?_
 have e : (L.any fun y => x == y) = decide (x ∈ L) := by
  rw [Bool.eq_iff_iff, List.any_eq_true, decide_eq_true_eq]
  constructor
  ·rintro ⟨y, hy, h⟩; rw [beq_iff_eq.1 h]; exact hy
  ·intro h; exact ⟨x, h, beq_self_eq_true _⟩
 have hc := con_mxContains L x (by omega)
 rw [e] at hc
 simp only [go_sem]
 refine CallU.free hc (by simp only [go_sem]) (by simp only [go_sem]) ?_
 rintro r bx rfl
 simp only [go_sem]
def allIn (a b : List Int) : Bool := a.all fun x => decide (x ∈ b)
theorem con_lwithin (a L : List Int) (ha : a.length <= 1000000) (hl : L.length <= 1000000) : Con Tryz.prog 140 [vs 0 a, vs 0 L] [] fun r _ => r = vb (allIn a L) := by
 refine Con.intro Tryz.func140 rfl Tryz.ntmps140 Tryz.results140 (by kernel_rfl) (by simp) 0 (by simp) ?_
 have hx := con_containsInt a 221 [.fp [vs 0 L] 0] (fun x => !decide (x ∈ L)) (by simp only [go_sem]) (fun x _ => con_lwithin1 x L hl) (by omega)
 have e : allIn a L = !(a.any fun x => !decide (x ∈ L)) := by
  unfold allIn
  rw [List.not_any_eq_all_not]; congr 1; funext x; simp
 rw [e]
 simp only [go_sem]
 refine CallU.look hx (by simp only [go_sem]) (by simp only [go_sem]) ?_
 rintro r bx rfl
 simp only [go_sem]
theorem wit_allIn (t : TmD) (L : List Int) : witT t (starT L) = allIn t.ls L := by unfold witT starT allIn; rw [if_pos rfl]
theorem allIn_wit {u : TmD} (h : u.star = true) (L : List Int) : witT (starT L) u = allIn L u.ls := by unfold witT starT allIn; rw [if_pos h]
def starF (p : List TmD) (L : List Int) : List TmD := if L = [] then p else normP (p ++ [starT L])
theorem con_lstarred (p : List TmD) (L : List Int) (hp : OkP p) (hr : redP p) (hl : LenP p) (hL : ascI L = true) (hLl : L.length <= 1000000) : Con Tryz.prog 87 [vPr p, vs 0 L] [] fun r _ => r = vPr (starF p L) := by
 refine Con.frozX ?_
 refine Con.intro Tryz.func87 rfl Tryz.ntmps87 Tryz.results87 (by kernel_rfl) (by simp) 0 (by simp) ?_
 have hpl := hl.len
 unfold starF
 by_cases hn : L = []
 ·subst hn
  rw [if_pos rfl]
  simp only [go_sem, List.map_nil, List.length_nil]
  exact leV_refl _
 have hne : ((L.length : Int) == 0) = false := beq_eq_false_iff_ne.2 (by have := List.length_pos_iff.2 hn; omega)
 rw [if_neg hn]
 have hc := con_lcloneTm p hl.len
 simp only [vPr] at hc
 simp only [go_sem, hne, List.length_map]
 refine CallU.free hc (by simp only [go_sem]) (by simp only [go_sem]) ?_
 rintro r bx rfl
 simp only [go_sem]
 refine LoopK.intro (fun out : List TmD => ⟨59, [(0, .sl 770 2 (out.map vTm)), (1, vs 0 L)], []⟩)
  (fun out => out.length) (fun out => StP p L out /\ out.length <= p.length) p ⟨StP.start L hr, Nat.le_refl _⟩ ?_ ?_
 ·simp only [go_sem]
 rintro out ⟨hS, hol⟩
 by_cases h0 : 0 < out.length
 case neg =>
  have e0 : out = [] := List.length_eq_zero_iff.1 (by omega)
  have e := hS.put hp hL hn (fun h => absurd h h0) (fun h => absurd h h0)
  subst e0
  simp only [go_sem, List.map_nil, List.length_nil]
  refine ⟨by simp only [roomFor]; omega, ?_⟩
  rw [<- e]
  exact leV_refl _
 have hgl : (out.map vTm)[out.length - 1]? = some (vTm out[out.length - 1]!) := getTm (by omega)
 have hw1 : IntKind.i64.wrap ((out.length : Int) - 1) = ((out.length - 1 : Nat) : Int) := by rw [wrap_in (by omega) (by omega)]; omega
 have hlt : out.length - 1 < out.length := by omega
 have hle1 : out.length - 1 <= out.length := by omega
 have hul := hl.terms _ (hS.sub _ (mem_bangI hlt))
 have hc1 := con_lwithin out[out.length - 1]!.ls L hul hLl
 have hw := wit_allIn out[out.length - 1]! L
 simp only [go_sem, h0, hgl, hw1, hlt, List.length_map]
 refine CallU.free hc1 (by simp only [go_sem]) (by simp only [go_sem]) ?_
 rintro r bx rfl
 cases hwit : allIn out[out.length - 1]!.ls L with
 | true =>
  simp only [go_sem, hw1, hle1, List.length_map]
  refine roundK.intro (out.take (out.length - 1)) ⟨hS.pop h0 (by rw [hw]; exact hwit), by rw [List.length_take]; omega⟩ (by rw [List.length_take]; omega) ?_
  simp only [go_sem, List.map_take]
 | false =>
  have k1 : 0 < out.length -> ¬ witT out[out.length - 1]! (starT L) = true := fun _ => by rw [hw, hwit]; simp
  cases hs : out[out.length - 1]!.star with
  | false =>
   have e := hS.put hp hL hn k1 (fun _ hc => by rw [hs] at hc; exact absurd hc.1 (by simp))
   simp only [go_sem, h0, hgl, hw1, hlt, hs, List.length_map]
   refine ⟨by simp only [roomFor]; omega, ?_⟩
   rw [<- e, List.map_append]
   exact leV_refl _
  | true =>
   have hw2 := allIn_wit hs L
   have hc2 := con_lwithin L out[out.length - 1]!.ls hLl hul
   simp only [go_sem, h0, hgl, hw1, hlt, hs, List.length_map]
   refine CallU.free hc2 (by simp only [go_sem]) (by simp only [go_sem]) ?_
   rintro r bx rfl
   cases hwit2 : allIn L out[out.length - 1]!.ls with
   | true =>
    have e := hS.keep hp hL h0 hs (by rw [hw2]; exact hwit2)
    simp only [go_sem]
    rw [<- e]
    exact leV_refl _
   | false =>
    have e := hS.put hp hL hn k1 (fun _ hc => by rw [hw2, hwit2] at hc; exact absurd hc.2 (by simp))
    simp only [go_sem, List.length_map]
    refine ⟨by simp only [roomFor]; omega, ?_⟩
    rw [<- e, List.map_append]
    exact leV_refl _
def Below (n : Nat) (l : List Int) : Prop := ∀ x ∈ l, 0 <= x /\ x < n
attribute [go_sem] true_or or_true false_or or_false
@[go_sem] theorem rowsA_killset2 {t i : Nat} {M : List (List Int)} {r : List Int} (h : t < 1048576) : ((rowsA t M).map (killRow t ∘ killRow (subT t i))).set i (.sl (subT t i) 1 (r.map vi)) = rowsA t (M.set i r) := by
 have e : (rowsA t M).map (killRow t ∘ killRow (subT t i)) = (rowsA t M).map (killRow (subT t i)) := by
  apply List.ext_getElem?
  intro j
  simp only [List.getElem?_map, rowsA_at, Option.map_map]
  cases M[j]? with
  | none => rfl
  | some r =>
   simp only [Option.map_some, Function.comp, Option.some.injEq]
   by_cases hji : j = i
   ·subst hji; simp [killRow]
   ·simp [killRow, sub_sub, hji, sub_lit h]
 rw [e, rowsA_killset]
end Go.AM
