/- GH LLo2 CmX0 LoH LoB GI LoC LoI LoM LoN LLo3 LoP LoQ LoJ MxWH LoK LoR -/
import Derived.Test.YtebcmlhgfmkpnaaGreatg16
import Derived.Test.YtebcmlhgfmkpnaaGreatg13
import Derived.Test.YtebcmlhgfmkpnaaGreatg9
import Derived.Test.YtebcmlhgfmkpnaaGreatg12
import Derived.Test.YtebcmlhgfmkpnaaGreatg8
import Derived.Test.YtebcmlhgfmkpnaaGreatg7
namespace Go.AM
open Go Go.Proofs Go.RowKit
set_option maxRecDepth 100000
set_option maxHeartbeats 8000000
def beginsF (m : MD) : Bool := if m.kind = 6 then m.start.n == 0 && m.start.kids.length == 0 else validV (typeM m) m.start
def beginsTree : Tr := .front 2 (.alt (.one 0 (.alt (.one 1 (.one 3 (.one 4 (.one 5 .done)))) (.one 3 (.one 1 (.one 4 (.one 5 .done)))))) (.one 3 (.one 0 (.one 1 (.one 4 (.one 5 .done))))))
theorem TD.Ok.leaf {k s : Int} {r : List Int} (h : r.length <= 1000000) : (TD.mk k s r []).Ok := .mk _ _ _ _ h (by simp) (fun x hx => by cases hx)
theorem TD.Ok.parts1 {k s : Int} {l : List TD} (hl : l.length <= 1000000) (h : ∀ x ∈ l, x.Ok) : (TD.mk k s [] l).Ok := .mk _ _ _ _ (by simp) hl h
theorem label_ok (n : Int) : (labelT n).Ok := .leaf (by simp)
theorem list_ok {k : Int} {t : TD} (h : t.Ok) : (listT k t).Ok := .parts1 (by simp) (fun x hx => by rw [List.mem_singleton] at hx; subst hx; exact h)
theorem prod_ok {l : List TD} (hl : l.length <= 1000000) (h : ∀ x ∈ l, x.Ok) : (prodT l).Ok := .parts1 hl h
theorem two_ok {a b : TD} (ha : a.Ok) (hb : b.Ok) : (prodT [a, b]).Ok := prod_ok (by simp) fun x hx => by
 simp only [List.mem_cons, List.not_mem_nil, or_false] at hx
 rcases hx with rfl | rfl <;> assumption
theorem nodes_ok (a : Int) : ∀ n, (nodesT a n).Ok
 | 0 => list_ok (label_ok a)
 | 1 => list_ok (label_ok a)
 | n + 2 => list_ok (two_ok (label_ok a) (nodes_ok a (n + 1)))
theorem type_ok {m : MD} (h : SizeM m) (hp : m.places.length <= 999999) : (typeM m).Ok := by
 unfold typeM partsM
 refine prod_ok ?_ fun x hx => ?_
 ·rw [List.length_cons]
  split
  ·simp
  ·split
   ·simp
   ·rw [List.length_replicate]; omega
 ·rcases List.mem_cons.1 hx with rfl | hx
  ·exact label_ok _
  ·split at hx
   ·rw [List.mem_singleton] at hx; subst hx; exact nodes_ok _ _
   ·split at hx
    ·rw [List.mem_singleton] at hx; subst hx; exact list_ok (two_ok (label_ok _) (label_ok _))
    ·rw [List.eq_of_mem_replicate hx]
     unfold placeT
     split
     ·exact list_ok (label_ok _)
     ·split
      ·exact .leaf h.ranks
      ·exact .leaf (by simp)
theorem con_typedG (m : MD) (h : SizeM m) : Con Tryz.prog 101 [vM m] [] fun r _ => r = vT (typeM m) := by
 by_cases h4 : m.kind = 4
 ·refine ((con_typed4 m h h4).freezeR fun _ => true).weak fun r b ⟨r1, h3, h6⟩ => ?_
  subst h3; subst h6
  refine ⟨_, rfl, ?_⟩
  have e : typeM m = .mk 3 0 [] [labelT m.states.length, nodesT m.letters.length m.levels.toNat] := by unfold typeM partsM prodT; rw [if_pos h4]
  rw [e]
  exact vT_parts 3 0 [labelT m.states.length, nodesT m.letters.length m.levels.toNat]
 by_cases h5 : m.kind = 5
 ·refine ((con_typed5 m h h5).freezeR fun _ => true).weak fun r b ⟨r1, h3, h6⟩ => ?_
  subst h3; subst h6
  refine ⟨_, rfl, ?_⟩
  have e : typeM m = .mk 3 0 [] [labelT m.states.length, listT 5 (prodT [labelT m.places.length, labelT (m.age + 2)])] := by unfold typeM partsM prodT; rw [if_neg h4, if_pos h5]
  rw [e]
  exact vT_parts 3 0 [labelT m.states.length, listT 5 (prodT [labelT m.places.length, labelT (m.age + 2)])]
 exact con_typedA m h h4 h5
theorem con_beginsG (m : MD) (h : SizeM m) (hp : m.places.length <= 999999) (hs : m.start.Ok) : Con Tryz.prog 160 [vM m] [] fun r _ => r = vb (beginsF m) := by
 refine Con.intro Tryz.func160 rfl Tryz.ntmps160 Tryz.results160 (by kernel_rfl) (by simp) 1 (by simp) ?_
 unfold beginsF
 by_cases h6 : m.kind = 6
 ·have b6 : (m.kind == 6) = true := beq_iff_eq.2 h6
  have hz : ((m.start.kids.length : Int) == 0) = (m.start.kids.length == 0) := zero_len _
  rw [if_pos h6]
  cases h0 : m.start.n == 0
  ·simp only [go_sem, cM, vss, b6, h0, Bool.false_and]
  ·simp only [go_sem, cM, vss, b6, h0, hz, List.length_map, Bool.true_and]
 have b6 : (m.kind == 6) = false := beq_eq_false_iff_ne.2 h6
 rw [if_neg h6]
 have ct := con_typedG m h
 have cv := con_oValid (typeM m) m.start (type_ok h hp) hs
 have e1 := vT_eq (typeM m)
 rw [e1] at ct cv
 rw [vV_eq] at cv
 simp only [go_sem, cM, vss, b6]
 refine DrawK.meet ⟨22, [(1, .pb 0 0), (2, vb (validV (typeM m) m.start))], [cM m]⟩ ?_ ?_
 ·refine DrawK.tree beginsTree mixed (by kernel_rfl) ?_
  unfold beginsTree
  repeat' (first | with_reducible apply andK_mk | (refine CallU.free ct (by simp only [go_sem]) ?_ ?_; (· (simp only [go_sem, vM, cM, vss]; done)); rintro x bx rfl) | (refine CallU.free cv (by simp only [go_sem]) ?_ ?_; (· (simp only [go_sem]; done)); rintro x bx rfl) | simp only [go_sem, cM, vss])
 ·simp only [go_sem]
structure LenM (m : MD) : Prop where
 names : (namesOf m).length <= 1000000
 sizes : ∀ s ∈ namesOf m, s.size <= 9223372036854775806
 ranks : m.ranks.length <= 1000000
 rules : ∀ r ∈ m.rules, LenR r
 start : m.start.Ok
def checkF (m : MD) : Int :=
 if betweenB m.kind 1 6 = false then 15 else if sizedB m = false then 1 else if rankedB m = false then 14 else if namesB (namesOf m) = false then 13
 else if (m.rules.any fun r => !rightR m r) = true then 16 else if beginsF m = false then 17 else 0
theorem names_lens {m : MD} (h : LenM m) : m.states.length <= 1000000 /\ m.places.length <= 1000000 /\ m.letters.length <= 1000000 /\ m.rules.length <= 1000000 := by
 have := h.names
 unfold namesOf at this
 simp only [List.length_append, List.length_map] at this
 omega
theorem sized_lim {m : MD} (h : sizedB m = true) : 1 <= m.states.length /\ (m.kind = 4 -> 0 <= m.levels /\ m.levels <= 100) /\ (m.kind = 5 -> 0 <= m.age /\ m.age <= 100) /\ (m.kind = 3 -> 1 <= m.letters.length) := by
 unfold sizedB betweenB at h
 simp only [Bool.and_eq_true, decide_eq_true_eq] at h
 obtain ⟨⟨⟨⟨⟨h1, h2⟩, h3⟩, h4⟩, h5⟩, h6⟩ := h
 refine ⟨by omega, fun hk => ?_, fun hk => ?_, fun hk => ?_⟩
 ·rw [hk] at h5
  have : lim 4 4 = 1 /\ lim 4 5 = 2 := by decide
  omega
 ·rw [hk] at h6
  have : lim 5 6 = 0 /\ lim 5 7 = 3 := by decide
  omega
 ·rw [hk] at h4
  have : lim 3 2 = 1 := by decide
  omega
theorem sized_size {m : MD} (h : LenM m) (hs : sizedB m = true) (hr : rankedB m = true) : SizeM m /\ m.places.length <= 999999 := by
 have hl := names_lens h
 have hz := sized_lim hs
 refine ⟨⟨hl.1, hl.2.1, hl.2.2.1, h.ranks, hz.2.1, hz.2.2.1, fun hk => ?_⟩, ?_⟩
 ·unfold rankedB at hr
  rw [if_pos hk, Bool.and_eq_true, decide_eq_true_eq] at hr
  have := hz.2.2.2 hk
  omega
 ·unfold sizedB betweenB at hs
  simp only [Bool.and_eq_true, decide_eq_true_eq] at hs
  have h3 := hs.1.1.1.2.2
  have hlim : ∀ k : Int, lim k 1 <= 6 := fun k => by
   unfold lim limF
   split
   ·decide
   ·split
    ·decide
    ·split <;> decide
  have := hlim m.kind
  omega
theorem con_check1G (m : MD) (r : RD) (h : RightM m) (hr : LenR r) : Con Tryz.prog 158 [vRule r, .fp (cM m) 0] [] fun x _ => x = .sc (.bool (!rightR m r)) := by
 refine Con.intro Tryz.func158 rfl Tryz.ntmps158 Tryz.results158 (by kernel_rfl) (by simp) 1 (by simp) ?_
 simp only [go_sem]
 refine CallU.free (con_rightG m r h hr) (by simp only [go_sem]) (by simp only [go_sem]) ?_
 rintro x bx rfl
 simp only [go_sem]
theorem con_CheckG (m : MD) (h : LenM m) : Con Tryz.prog 99 [vM m] [] fun r _ => r = vi (checkF m) := by
 refine Con.intro Tryz.func99 rfl Tryz.ntmps99 Tryz.results99 (by kernel_rfl) (by simp) 1 (by simp) ?_
 have hl := names_lens h
 unfold checkF
 simp only [go_sem]
 refine CallU.free (con_between m.kind 1 6) (by simp only [go_sem]) (by simp only [go_sem]) ?_
 rintro r bx rfl
 cases h1 : betweenB m.kind 1 6
 ·simp only [go_sem, if_true]
 simp only [go_sem, if_false]
 refine CallU.free (con_sized m) (by simp only [go_sem]) (by simp only [go_sem]) ?_
 rintro r bx rfl
 cases h2 : sizedB m
 ·simp only [go_sem, if_true]
 simp only [go_sem, if_false]
 refine CallU.free (con_ranked m (by have := h.ranks; omega)) (by simp only [go_sem]) (by simp only [go_sem]) ?_
 rintro r bx rfl
 cases h3 : rankedB m
 ·simp only [go_sem, if_true]
 have hz := sized_lim h2
 have hsz := sized_size h h2 h3
 have hRM : RightM m := ⟨hl.1, hl.2.1, hl.2.2.1, fun hk => by have := hz.2.2.1 hk; omega⟩
 simp only [go_sem, if_false]
 refine CallU.free (con_named m hz.1 h.names h.sizes) (by simp only [go_sem]) (by simp only [go_sem]) ?_
 rintro r bx rfl
 cases h4 : namesB (namesOf m)
 ·simp only [go_sem, if_true]
 simp only [go_sem, if_false]
 refine CallU.look (con_containsRule m.rules 158 [.fp (cM m) 0] (fun r => !rightR m r) (by simp only [go_sem]) (fun r hr => con_check1G m r hRM (h.rules r hr)) (by omega)) (by simp only [go_sem]) (by simp only [go_sem]) ?_
 rintro r bx rfl
 cases h5 : m.rules.any fun r => !rightR m r
 case true => simp only [go_sem, if_true]
 simp only [go_sem, if_false]
 refine CallU.free (con_beginsG m hsz.1 hsz.2 h.start) (by simp only [go_sem]) (by simp only [go_sem]) ?_
 rintro r bx rfl
 cases h6 : beginsF m
 ·simp only [go_sem, if_true]
 ·simp only [go_sem, Bool.true_eq_false, if_false]
def cStates : List ByteArray := [⟨#[97]⟩, ⟨#[98]⟩, ⟨#[99]⟩]
def cPlaces : List ByteArray := [⟨#[120]⟩, ⟨#[121]⟩]
def cLetters : List ByteArray := [⟨#[112]⟩, ⟨#[113]⟩]
def cRules : List ByteArray := [⟨#[114]⟩, ⟨#[115]⟩, ⟨#[116]⟩, ⟨#[117]⟩]
def chanR (name : ByteArray) (s d c a x : Int) : RD := ⟨name, s, d, [], [], [], c, a, x, [], [], [], [], 0⟩
def wordV (w : List Int) : CV := .mk 0 (w.map fun x => .mk x [])
def chanV (n : Int) (ws : List (List Int)) : CV := .mk 0 (.mk n [] :: ws.map wordV)
def chanM (ns np nl : Nat) (rules : List RD) (ws : List (List Int)) : MD := { kind := 2, states := cStates.take ns, places := cPlaces.take np, letters := cLetters.take nl, rules := rules, start := chanV 0 ws }
structure ChanR (ns np nl : Nat) (r : RD) : Prop where
 eq : r = chanR r.name r.src r.dst r.channel r.act r.letter
 src : 0 <= r.src /\ r.src < ns
 dst : 0 <= r.dst /\ r.dst < ns
 act : 0 <= r.act /\ r.act <= 2
 idle : r.act = 0 -> r.channel = 0 /\ r.letter = 0
 chan : 0 <= r.channel /\ r.channel < np
 letter : 0 <= r.letter /\ r.letter < nl
structure ChanW (np nl : Nat) (ws : List (List Int)) : Prop where
 len : ws.length = np
 few : ∀ w ∈ ws, w.length <= 2 /\ ∀ x ∈ w, 0 <= x /\ x < nl
structure DealC (ns np nl : Nat) (rules : List RD) (ws : List (List Int)) : Prop where
 hns : 1 <= ns /\ ns <= 3
 hnp : 1 <= np /\ np <= 2
 hnl : 1 <= nl /\ nl <= 2
 few : rules.length <= 4
 names : rules.map RD.name = cRules.take rules.length
 rules : ∀ r ∈ rules, ChanR ns np nl r
 start : ChanW np nl ws
def lets (nl : Nat) : List Int := (List.range nl).map Int.ofNat
def words2 (nl : Nat) : List (List Int) := [] :: ((lets nl).map fun x => [x]) ++ (lets nl).flatMap fun x => (lets nl).map fun y => [x, y]
def wss (np nl : Nat) : List (List (List Int)) := if np = 1 then (words2 nl).map fun w => [w] else (words2 nl).flatMap fun w => (words2 nl).map fun v => [w, v]
theorem in_lets {nl : Nat} {x : Int} (h : 0 <= x /\ x < nl) : x ∈ lets nl := List.mem_map.2 ⟨x.toNat, List.mem_range.2 (by omega), by show ((x.toNat : Nat) : Int) = x; omega⟩
theorem in_words2 {nl : Nat} {w : List Int} (h : w.length <= 2) (hx : ∀ x ∈ w, 0 <= x /\ x < nl) : w ∈ words2 nl := by
 unfold words2
 match w, h, hx with
 | [], _, _ => simp
 | [a], _, hx => exact List.mem_cons_of_mem _ (List.mem_append.2 (.inl (List.mem_map.2 ⟨a, in_lets (hx a (by simp)), rfl⟩)))
 | [a, b], _, hx => exact List.mem_cons_of_mem _ (List.mem_append.2 (.inr (List.mem_flatMap.2 ⟨a, in_lets (hx a (by simp)), List.mem_map.2 ⟨b, in_lets (hx b (by simp)), rfl⟩⟩)))
 | _ :: _ :: _ :: _, h, _ => simp only [List.length_cons] at h; omega
theorem in_wss {np nl : Nat} {ws : List (List Int)} (hp : 1 <= np /\ np <= 2) (h : ChanW np nl ws) : ws ∈ wss np nl := by
 have hl := h.len
 unfold wss
 match ws, hl, h.few with
 | [], hl, _ => simp only [List.length_nil] at hl; omega
 | [a], hl, hf =>
  simp only [List.length_cons, List.length_nil] at hl
  rw [if_pos (by omega)]
  exact List.mem_map.2 ⟨a, in_words2 (hf a (by simp)).1 (hf a (by simp)).2, rfl⟩
 | [a, b], hl, hf =>
  simp only [List.length_cons, List.length_nil] at hl
  rw [if_neg (by omega)]
  exact List.mem_flatMap.2 ⟨a, in_words2 (hf a (by simp)).1 (hf a (by simp)).2, List.mem_map.2 ⟨b, in_words2 (hf b (by simp)).1 (hf b (by simp)).2, rfl⟩⟩
 | _ :: _ :: _ :: _, hl, _ => simp only [List.length_cons] at hl; omega
theorem chan_valid {ns np nl : Nat} {n : Int} {ws : List (List Int)} (h1 : 1 <= ns /\ ns <= 3) (h2 : 1 <= np /\ np <= 2) (h3 : 1 <= nl /\ nl <= 2) (hn : 0 <= n /\ n < ns) (h : ChanW np nl ws) (rules : List RD) (ws0 : List (List Int)) : validV (typeM (chanM ns np nl rules ws0)) (chanV n ws) = true := by
 have key : ([1, 2, 3].all fun a => [1, 2].all fun b => [1, 2].all fun c => (lets a).all fun n => (wss b c).all fun ws => validV (typeM (chanM a b c [] [])) (chanV n ws)) = true := by kernel_rfl
 have e : typeM (chanM ns np nl rules ws0) = typeM (chanM ns np nl [] []) := rfl
 rw [e]
 exact List.all_eq_true.1 (List.all_eq_true.1 (List.all_eq_true.1 (List.all_eq_true.1 (List.all_eq_true.1 key ns (by simp; omega)) np (by simp; omega)) nl (by simp; omega)) n (in_lets hn)) ws (in_wss h2 h)
theorem wordV_ok {w : List Int} (h : w.length <= 1000000) : (wordV w).Ok := .mk _ _ (by rw [List.length_map]; omega) fun x hx => by
 obtain ⟨y, _, rfl⟩ := List.mem_map.1 hx
 exact .mk _ _ (by simp) fun z hz => by cases hz
theorem chanV_ok {n : Int} {ws : List (List Int)} (h : ws.length <= 1000000) (hw : ∀ w ∈ ws, w.length <= 1000000) : (chanV n ws).Ok := .mk _ _ (by simp; omega) fun x hx => by
 rcases List.mem_cons.1 hx with rfl | hx
 ·exact .mk _ _ (by simp) fun z hz => by cases hz
 ·obtain ⟨w, hw', rfl⟩ := List.mem_map.1 hx
  exact wordV_ok (hw w hw')
section
variable {ns np nl : Nat} {rules : List RD} {ws : List (List Int)}
theorem chan_lens (h1 : ns <= 3) (h2 : np <= 2) (h3 : nl <= 2) : (chanM ns np nl rules ws).states.length = ns /\ (chanM ns np nl rules ws).places.length = np /\ (chanM ns np nl rules ws).letters.length = nl := by
 refine ⟨?_, ?_, ?_⟩
 ·show (cStates.take ns).length = ns; rw [List.length_take]; show min ns 3 = ns; omega
 ·show (cPlaces.take np).length = np; rw [List.length_take]; show min np 2 = np; omega
 ·show (cLetters.take nl).length = nl; rw [List.length_take]; show min nl 2 = nl; omega
theorem DealC.lens (h : DealC ns np nl rules ws) : (chanM ns np nl rules ws).states.length = ns /\ (chanM ns np nl rules ws).places.length = np /\ (chanM ns np nl rules ws).letters.length = nl :=
 chan_lens h.hns.2 h.hnp.2 h.hnl.2
theorem chan_names (h1 : 1 <= ns /\ ns <= 3) (h2 : np <= 2) (h3 : nl <= 2) {c : Nat} (h4 : c <= 4) : namesB (cStates.take ns ++ cPlaces.take np ++ cLetters.take nl ++ cRules.take c) = true := by
 have key : ([1, 2, 3].all fun a => [0, 1, 2].all fun b => [0, 1, 2].all fun d => [0, 1, 2, 3, 4].all fun c => namesB (cStates.take a ++ cPlaces.take b ++ cLetters.take d ++ cRules.take c)) = true := by kernel_rfl
 exact List.all_eq_true.1 (List.all_eq_true.1 (List.all_eq_true.1 (List.all_eq_true.1 key ns (by simp; omega)) np (by simp; omega)) nl (by simp; omega)) c (by simp; omega)
theorem ChanR.len {r : RD} (h : ChanR ns np nl r) : LenR r := by
 have e := h.eq
 generalize r.name = a at e
 generalize r.src = b at e
 generalize r.dst = c at e
 generalize r.channel = d at e
 generalize r.act = f at e
 generalize r.letter = g at e
 subst e
 exact ⟨⟨by simp [chanR], by simp [chanR], by simp [chanR], by simp [chanR], by simp [chanR], by simp [chanR], by simp [chanR]⟩, by simp [chanR], by simp [chanR]⟩
theorem DealC.len (h : DealC ns np nl rules ws) : LenM (chanM ns np nl rules ws) := by
 have e : namesOf (chanM ns np nl rules ws) = cStates.take ns ++ cPlaces.take np ++ cLetters.take nl ++ cRules.take rules.length := by
  rw [<- h.names]; rfl
 refine ⟨?_, ?_, by show [].length <= _; simp, fun r hr => (h.rules r hr).len, ?_⟩
 ·rw [e]
  simp only [List.length_append, List.length_take]
  have : cStates.length = 3 := rfl
  have : cPlaces.length = 2 := rfl
  have : cLetters.length = 2 := rfl
  have : cRules.length = 4 := rfl
  omega
 ·rw [e]
  have key : ∀ s ∈ cStates ++ cPlaces ++ cLetters ++ cRules, s.size <= 9223372036854775806 := by decide
  intro s hs
  refine key s ?_
  rcases List.mem_append.1 hs with hs | hs
  ·refine List.mem_append.2 (.inl ?_)
   rcases List.mem_append.1 hs with hs | hs
   ·refine List.mem_append.2 (.inl ?_)
    rcases List.mem_append.1 hs with hs | hs
    ·exact List.mem_append.2 (.inl (List.mem_of_mem_take hs))
    ·exact List.mem_append.2 (.inr (List.mem_of_mem_take hs))
   ·exact List.mem_append.2 (.inr (List.mem_of_mem_take hs))
  ·exact List.mem_append.2 (.inr (List.mem_of_mem_take hs))
 ·exact chanV_ok (by have := h.start.len; have := h.hnp; omega) fun w hw => by have := (h.start.few w hw).1; omega
theorem sameB_self31 (r : RD) : sameB r r = true := by unfold sameB; simp
theorem ChanR.right {r : RD} (h : ChanR ns np nl r) (hl : (chanM ns np nl rules ws).states.length = ns /\ (chanM ns np nl rules ws).places.length = np /\ (chanM ns np nl rules ws).letters.length = nl) : rightR (chanM ns np nl rules ws) r = true := by
 unfold rightR
 have h1 : endsR (chanM ns np nl rules ws) r = true := by
  unfold endsR indexB
  rw [hl.1, decide_eq_true h.dst.1, decide_eq_true h.dst.2, decide_eq_true h.src.1, decide_eq_true h.src.2]; rfl
 have h2 : fitsR (chanM ns np nl rules ws) r = true := by
  show actsB (chanM ns np nl rules ws).places.length (chanM ns np nl rules ws).letters.length r = true
  rw [hl.2.1, hl.2.2]
  unfold actsB
  by_cases ha : r.act = 0
  ·obtain ⟨c1, c2⟩ := h.idle ha
   rw [if_pos ha, c1, c2]; rfl
  ·rw [if_neg ha]
   have := h.act
   unfold betweenB indexB
   rw [decide_eq_true (show (1 : Int) <= r.act by omega), decide_eq_true (show r.act <= 2 by omega), decide_eq_true h.chan.1, decide_eq_true h.chan.2, decide_eq_true h.letter.1, decide_eq_true h.letter.2]; rfl
 have h3 : onlyR (chanM ns np nl rules ws).kind r = r := by
  show chanR r.name r.src r.dst r.channel r.act r.letter = r
  exact h.eq.symm
 rw [h1, h2, h3, sameB_self31]; rfl
theorem DealC.check (h : DealC ns np nl rules ws) : checkF (chanM ns np nl rules ws) = 0 := by
 have hl := h.lens
 have h1 : betweenB (chanM ns np nl rules ws).kind 1 6 = true := rfl
 have h2 : sizedB (chanM ns np nl rules ws) = true := by
  have := h.hns; have := h.hnp; have := h.hnl; have := h.few
  unfold sizedB betweenB
  rw [hl.1, hl.2.1, hl.2.2]
  show (decide ((1 : Int) <= ns) && decide ((ns : Int) <= 8) && decide (rules.length <= 12) && (decide (lim 2 0 <= np) && decide ((np : Int) <= lim 2 1)) && (decide (lim 2 2 <= nl) && decide ((nl : Int) <= lim 2 3)) && (decide (lim 2 4 <= 0) && decide (0 <= lim 2 5)) && (decide (lim 2 6 <= 0) && decide (0 <= lim 2 7))) = true
  have e : lim 2 0 = 1 /\ lim 2 1 = 2 /\ lim 2 2 = 1 /\ lim 2 3 = 6 /\ lim 2 4 = 0 /\ lim 2 5 = 0 /\ lim 2 6 = 0 /\ lim 2 7 = 0 := by decide
  simp only [Bool.and_eq_true, decide_eq_true_eq]
  omega
 have h3 : rankedB (chanM ns np nl rules ws) = true := rfl
 have h4 : namesB (namesOf (chanM ns np nl rules ws)) = true := by
  show namesB (cStates.take ns ++ cPlaces.take np ++ cLetters.take nl ++ rules.map RD.name) = true
  rw [h.names]
  exact chan_names h.hns h.hnp.2 h.hnl.2 h.few
 have h5 : ((chanM ns np nl rules ws).rules.any fun r => !rightR (chanM ns np nl rules ws) r) = false := by
  rw [List.any_eq_false]
  intro r hr
  rw [(h.rules r hr).right hl]; decide
 have h6 : beginsF (chanM ns np nl rules ws) = true := by
  unfold beginsF
  rw [if_neg (show ¬ (chanM ns np nl rules ws).kind = 6 from (by decide : ¬ ((2 : Int) = 6)))]
  exact chan_valid h.hns h.hnp h.hnl ⟨by omega, by have := h.hns; omega⟩ h.start rules ws
 unfold checkF
 rw [h1, h2, h3, h4, h5, h6]
 simp only [Bool.true_eq_false, Bool.false_eq_true, if_false]
end
theorem flat_cons (x : AV) (l : List AV) : flat (x :: l) = x.cells ++ flat l := by simp [flat]
theorem kids_pw : ∀ l : List Int, PW Sub (flat (l.map kidN)) (flat ((l.map fun n => CV.mk n []).map vV))
 | [] => PW.nil _
 | n :: l => by
  rw [List.map_cons, List.map_cons, List.map_cons, flat_cons, flat_cons, vV_eq]
  exact PW.append (PW.cons (Sub.refl _) (PW.cons (Sub.nil 2) (PW.nil _))) (kids_pw l)
def ruleN (r : RD) : AV := .ag [vStr r.name, vi r.src, vi r.dst, vs 0 r.need, vs 0 r.give, .nil, vi 0, vi 0, vi 0, .nil, .nil, .nil, .nil, vi 0]
attribute [go_sem] ruleN
def modelN (m : MD) (t s0 : Nat) (v0 : List Int) : AV := .ag [vi 1, vss m.states, vss m.places, .nil, .nil, vi 0, vi 0, .sl t 14 (m.rules.map ruleN), vi 0, .sl t 2 (((s0 : Int) :: v0).map kidN)]
attribute [go_sem] modelN
def chanN (r : RD) : AV := .ag [vStr r.name, vi r.src, vi r.dst, .nil, .nil, .nil, vi r.channel, vi r.act, vi r.letter, .nil, .nil, .nil, .nil, vi 0]
attribute [go_sem] chanN
theorem con_channel0 (l : List Int) (at_ : Nat) (hs : Seeds l) (ha : at_ <= l.length) :
  Con Tryz.prog 10 [.pb 0 0, vi 2] [diceA l at_]
  fun r b => ∃ (ns np nl : Nat) (rules : List RD) (ws : List (List Int)) (at' : Nat), DealC ns np nl rules ws /\ at' <= l.length /\ b = [diceA l at'] /\ r = .ag [vi 2, .sl 2 1 ((cStates.take ns).map vStr), .sl 3 1 ((cPlaces.take np).map vStr), .sl 4 1 ((cLetters.take nl).map vStr), .nil, vi 0, vi 0, .sl 5 14 (rules.map chanN), vi 0, .sl 6 2 (kidN 0 :: ws.map wordN)] := by
 refine Con.intro Tryz.func10 rfl Tryz.ntmps10 Tryz.results10 (by kernel_rfl) (by simp) 1 (by simp) ?_
 have hp1 := pickA_le ha
 have hp2 := pickA_le hp1
 have hp3 := pickA_le hp2
 simp only [go_sem]
 refine DrawK.news0 [(17, 2)] [10] [(9, 13), (9, 24), (14, 18), (14, 24), (19, 23), (19, 24)] 0 [3, 8, 13] [] 18 (.one 18 .done) none (diceA l at_) mixed (by kernel_rfl) (by kernel_rfl) (by kernel_rfl) (by simp only [go_sem]) (by simp only [go_sem]) ⟨by simp only [go_sem], by simp only [go_sem]⟩ ⟨by simp only [go_sem], by simp only [go_sem]⟩ ?_
 simp only [go_sem]
 obtain ⟨ns, ens, hns1, hns2⟩ : ∃ ns : Nat, 1 + pickV l at_ 3 = ns /\ 1 <= ns /\ ns <= 3 := by
  have := pickV_lt (l := l) (at_ := at_) (show (1 : Int) <= 3 by omega)
  exact ⟨(1 + pickV l at_ 3).toNat, by omega, by omega, by omega⟩
 obtain ⟨np, enp, hnp1, hnp2⟩ : ∃ np : Nat, 1 + pickV l (pickA l at_) 2 = np /\ 1 <= np /\ np <= 2 := by
  have := pickV_lt (l := l) (at_ := pickA l at_) (show (1 : Int) <= 2 by omega)
  exact ⟨(1 + pickV l (pickA l at_) 2).toNat, by omega, by omega, by omega⟩
 obtain ⟨nl, enl, hnl1, hnl2⟩ : ∃ nl : Nat, 1 + pickV l (pickA l (pickA l at_)) 2 = nl /\ 1 <= nl /\ nl <= 2 := by
  have := pickV_lt (l := l) (at_ := pickA l (pickA l at_)) (show (1 : Int) <= 2 by omega)
  exact ⟨(1 + pickV l (pickA l (pickA l at_)) 2).toNat, by omega, by omega, by omega⟩
 have hw1 : IntKind.i64.wrap (1 + pickV l at_ 3) = ns := by rw [wrap_in (by omega) (by omega), ens]
 have hw2 : IntKind.i64.wrap (1 + pickV l (pickA l at_) 2) = np := by rw [wrap_in (by omega) (by omega), enp]
 have hw3 : IntKind.i64.wrap (1 + pickV l (pickA l (pickA l at_)) 2) = nl := by rw [wrap_in (by omega) (by omega), enl]
 refine EffK.mk (con_pickF l at_ 3 hs ha (by omega)) (by simp only [go_sem]) (by simp only [go_sem]) (by simp only [go_sem]) (by simp only [go_sem]) ?_
 simp only [go_sem, hw1, hns2]
 refine EffK.mk (con_pickF l (pickA l at_) 2 hs hp1 (by omega)) (by simp only [go_sem]) (by simp only [go_sem]) (by simp only [go_sem]) (by simp only [go_sem]) ?_
 simp only [go_sem, hw2, hnp2]
 refine EffK.mk (con_pickF l (pickA l (pickA l at_)) 2 hs hp2 (by omega)) (by simp only [go_sem]) (by simp only [go_sem]) (by simp only [go_sem]) (by simp only [go_sem]) ?_
 generalize pickA l (pickA l (pickA l at_)) = a0 at hp3
 have hrep : List.replicate 10 AV.any = [.any, .any, .any, .any, .any, .any, .any, .any, .any, .any] := rfl
 have est : List.take ns [AV.sc (Value.string { data := #[97] }), AV.sc (Value.string { data := #[98] }), AV.sc (Value.string { data := #[99] })] = (cStates.take ns).map vStr := by rw [List.map_take]; rfl
 have epl : List.take np [AV.sc (Value.string { data := #[120] }), AV.sc (Value.string { data := #[121] })] = (cPlaces.take np).map vStr := by rw [List.map_take]; rfl
 have ele : List.take nl [AV.sc (Value.string { data := #[112] }), AV.sc (Value.string { data := #[113] })] = (cLetters.take nl).map vStr := by rw [List.map_take]; rfl
 have lst : (cStates.take ns).length = ns := by rw [List.length_take]; simp only [cStates, List.length_cons, List.length_nil]; omega
 have lpl : (cPlaces.take np).length = np := by rw [List.length_take]; simp only [cPlaces, List.length_cons, List.length_nil]; omega
 have lle : (cLetters.take nl).length = nl := by rw [List.length_take]; simp only [cLetters, List.length_cons, List.length_nil]; omega
 simp only [go_sem, hw3, hnl2, hrep, est, epl, ele]
 refine ⟨?_, trivial⟩
 refine LoopK.intro (fun p : List RD × Nat => ⟨92, [(0, .pb 0 0), (1, vi 2), (4, .pb 1 0), (5, .pb 2 0), (6, vi p.1.length)], [diceA l p.2, [.any, .any, .any, .any, .any, .any, .any, .any, .any, .any], [vi 2, .sl 640 1 ((cStates.take ns).map vStr), .sl 960 1 ((cPlaces.take np).map vStr), .sl 1280 1 ((cLetters.take nl).map vStr), .nil, vi 0, vi 0, .sl 4928 14 (p.1.map chanN), vi 0, .nil]] ++ Rk 14 p.1.length⟩)
  (fun p => 4 - p.1.length) (fun p => p.1.length <= 4 /\ p.1.map RD.name = cRules.take p.1.length /\ (∀ r ∈ p.1, ChanR ns np nl r) /\ p.2 <= l.length) ([], a0) ⟨by simp, rfl, by simp, hp3⟩ ?_ ?_
 ·simp only [go_sem, List.length_nil, Rk, List.replicate_zero, List.append_nil, List.map_nil]
 clear hp1 hp2 hp3
 rintro ⟨rules, at1⟩ ⟨h1, h2, h3, h4⟩
 simp only at h1 h2 h3 h4
 have hpk := pickV_lt (l := l) (at_ := at1) (show (1 : Int) <= 4 by omega)
 obtain ⟨k, ek, hk1, hk2⟩ : ∃ k : Nat, 1 + pickV l at1 4 = k /\ 1 <= k /\ k <= 4 := ⟨(1 + pickV l at1 4).toNat, by omega, by omega, by omega⟩
 have hw4 : IntKind.i64.wrap (1 + pickV l at1 4) = k := by rw [wrap_in (by omega) (by omega), ek]
 simp only [go_sem, List.cons_append, List.nil_append]
 refine CallU.boxes (i := 0) (is := []) (bx0 := [diceA l at1]) (con_pickF l at1 4 hs h4 (by omega)) (by simp only [go_sem]) (by simp only [go_sem]) (by simp only [go_sem]) (by simp only [go_sem]) (by simp only [go_sem]) ?_
 rintro r b ⟨rfl, rfl⟩
 have h5 := pickA_le h4
 generalize pickA l at1 = at2 at h5
 by_cases h : rules.length < k
 ·simp only [go_sem, hw4, h]
  obtain ⟨i, hi⟩ : ∃ i, i = rules.length := ⟨_, rfl⟩
  rw [<- hi]
  have : i = 0 \/ i = 1 \/ i = 2 \/ i = 3 := by omega
  have q3 := pickA_le h5
  have q4 := pickA_le q3
  have q5 := pickA_le q4
  have q6 := pickA_le q5
  have q7 := pickA_le q6
  have v1 := pickV_lt (l := l) (at_ := at2) (n := ns) (by omega)
  have v2 := pickV_lt (l := l) (at_ := pickA l at2) (n := ns) (by omega)
  have v3 := pickV_lt (l := l) (at_ := pickA l (pickA l at2)) (n := 3) (by omega)
  have v4 := pickV_lt (l := l) (at_ := pickA l (pickA l (pickA l at2))) (n := np) (by omega)
  have v5 := pickV_lt (l := l) (at_ := pickA l (pickA l (pickA l (pickA l at2)))) (n := nl) (by omega)
  have c1 := con_pickF l at2 ns hs h5 (by omega)
  have c2 := con_pickF l (pickA l at2) ns hs q3 (by omega)
  have c3 := con_pickF l (pickA l (pickA l at2)) 3 hs q4 (by omega)
  have c4 := con_pickF l (pickA l (pickA l (pickA l at2))) np hs q5 (by omega)
  have c5 := con_pickF l (pickA l (pickA l (pickA l (pickA l at2)))) nl hs q6 (by omega)
  generalize pickV l at2 ns = x1 at c1 v1
  generalize pickV l (pickA l at2) ns = x2 at c2 v2
  generalize pickV l (pickA l (pickA l at2)) 3 = x3 at c3 v3
  generalize pickV l (pickA l (pickA l (pickA l at2))) np = x4 at c4 v4
  generalize pickV l (pickA l (pickA l (pickA l (pickA l at2)))) nl = x5 at c5 v5
  generalize pickA l (pickA l (pickA l (pickA l (pickA l at2)))) = a7 at c5 q7
  generalize pickA l (pickA l (pickA l (pickA l at2))) = a6 at c5 c4 q6
  generalize pickA l (pickA l (pickA l at2)) = a5 at c4 c3 q5
  generalize pickA l (pickA l at2) = a4 at c3 c2 q4
  generalize pickA l at2 = a3 at c2 c1 q3
  have hrep : List.replicate 14 AV.any = [.any, .any, .any, .any, .any, .any, .any, .any, .any, .any, .any, .any, .any, .any] := rfl
  have lnn : ∀ x : RD, (rules ++ [x]).length = i + 1 := fun x => by rw [List.length_append, <- hi]; rfl
  rcases this with rfl | rfl | rfl | rfl
  ·have hnm : cRules[0]! = ⟨#[114]⟩ := rfl
   simp only [Rk, List.replicate]
   refine DrawK.news0 [(17, 3)] [14] [(40, 42)] 0 [8, 13, 15] [] 18 (.one 18 .done) none (diceA l at2) mixed (by kernel_rfl) (by kernel_rfl) (by kernel_rfl) (by simp only [go_sem]) (by simp only [go_sem]) ⟨by simp only [go_sem], by simp only [go_sem]⟩ ⟨by simp only [go_sem], by simp only [go_sem]⟩ ?_
   simp only [go_sem, List.length_map, lst]
   refine EffK.mk c1 (by simp only [go_sem]) (by simp only [go_sem]) (by simp only [go_sem]) (by simp only [go_sem]) ?_
   simp only [go_sem, List.length_map, lst]
   refine EffK.mk c2 (by simp only [go_sem]) (by simp only [go_sem]) (by simp only [go_sem]) (by simp only [go_sem]) ?_
   simp only [go_sem]
   refine EffK.mk c3 (by simp only [go_sem]) (by simp only [go_sem]) (by simp only [go_sem]) (by simp only [go_sem]) ?_
   by_cases hx3 : x3 = 0
   ·have hb : (x3 != 0) = false := by rw [hx3]; rfl
    have hr : ChanR ns np nl (chanR cRules[0]! x1 x2 0 x3 0) := ⟨rfl, v1, v2, ⟨by show 0 <= x3; omega, by show x3 <= 2; omega⟩, fun _ => ⟨rfl, rfl⟩, ⟨by show (0 : Int) <= 0; omega, by show (0 : Int) < np; omega⟩, ⟨by show (0 : Int) <= 0; omega, by show (0 : Int) < nl; omega⟩⟩
    simp only [go_sem, hrep, hb, <- hi]
    refine ⟨⟨by unfold roomFor; omega, ?_⟩, trivial⟩
    refine roundK.intro (rules ++ [chanR cRules[0]! x1 x2 0 x3 0], a5) ⟨by rw [lnn]; omega, by rw [lnn, List.map_append, h2, <- hi]; rfl, fun x hx => ?_, q5⟩ (by show 4 - (rules ++ [_]).length < 4 - rules.length; rw [lnn]; omega) ?_
    ·rcases List.mem_append.1 hx with hx | hx
     ·exact h3 x hx
     ·rw [List.mem_singleton] at hx; subst hx; exact hr
    ·simp only [go_sem, lnn, List.replicate, List.map_append, List.map_cons, List.map_nil]
     try exact ⟨leV_int rfl, by rw [hnm]; exact leV_refl _⟩
   ·have hb : (x3 != 0) = true := bne_iff_ne.2 hx3
    have hr : ChanR ns np nl (chanR cRules[0]! x1 x2 x4 x3 x5) := ⟨rfl, v1, v2, ⟨by show 0 <= x3; omega, by show x3 <= 2; omega⟩, fun h => absurd h hx3, v4, v5⟩
    simp only [go_sem, hrep, hb]
    refine ⟨?_, trivial⟩
    refine DrawK.effs0 0 [4, 9] [] 11 (.one 11 (.front 12 (.one 13 .done))) none (diceA l a5) mixed (by kernel_rfl) (by kernel_rfl) (by simp only [go_sem]) (by simp only [go_sem]) ?_
    simp only [go_sem, List.length_map, lpl]
    refine EffK.mk c4 (by simp only [go_sem]) (by simp only [go_sem]) (by simp only [go_sem]) (by simp only [go_sem]) ?_
    simp only [go_sem, List.length_map, lle]
    refine EffK.mk c5 (by simp only [go_sem]) (by simp only [go_sem]) (by simp only [go_sem]) (by simp only [go_sem]) ?_
    simp only [go_sem, <- hi]
    refine ⟨⟨by unfold roomFor; omega, ?_⟩, trivial⟩
    refine roundK.intro (rules ++ [chanR cRules[0]! x1 x2 x4 x3 x5], a7) ⟨by rw [lnn]; omega, by rw [lnn, List.map_append, h2, <- hi]; rfl, fun x hx => ?_, q7⟩ (by show 4 - (rules ++ [_]).length < 4 - rules.length; rw [lnn]; omega) ?_
    ·rcases List.mem_append.1 hx with hx | hx
     ·exact h3 x hx
     ·rw [List.mem_singleton] at hx; subst hx; exact hr
    ·simp only [go_sem, lnn, List.replicate, List.map_append, List.map_cons, List.map_nil]
     try exact ⟨leV_int rfl, by rw [hnm]; exact leV_refl _⟩
  ·have hnm : cRules[1]! = ⟨#[115]⟩ := rfl
   simp only [Rk, List.replicate]
   refine DrawK.news0 [(17, 4)] [14] [(40, 42)] 0 [8, 13, 15] [] 18 (.one 18 .done) none (diceA l at2) mixed (by kernel_rfl) (by kernel_rfl) (by kernel_rfl) (by simp only [go_sem]) (by simp only [go_sem]) ⟨by simp only [go_sem], by simp only [go_sem]⟩ ⟨by simp only [go_sem], by simp only [go_sem]⟩ ?_
   simp only [go_sem, List.length_map, lst]
   refine EffK.mk c1 (by simp only [go_sem]) (by simp only [go_sem]) (by simp only [go_sem]) (by simp only [go_sem]) ?_
   simp only [go_sem, List.length_map, lst]
   refine EffK.mk c2 (by simp only [go_sem]) (by simp only [go_sem]) (by simp only [go_sem]) (by simp only [go_sem]) ?_
   simp only [go_sem]
   refine EffK.mk c3 (by simp only [go_sem]) (by simp only [go_sem]) (by simp only [go_sem]) (by simp only [go_sem]) ?_
   by_cases hx3 : x3 = 0
   ·have hb : (x3 != 0) = false := by rw [hx3]; rfl
    have hr : ChanR ns np nl (chanR cRules[1]! x1 x2 0 x3 0) := ⟨rfl, v1, v2, ⟨by show 0 <= x3; omega, by show x3 <= 2; omega⟩, fun _ => ⟨rfl, rfl⟩, ⟨by show (0 : Int) <= 0; omega, by show (0 : Int) < np; omega⟩, ⟨by show (0 : Int) <= 0; omega, by show (0 : Int) < nl; omega⟩⟩
    simp only [go_sem, hrep, hb, <- hi]
    refine ⟨⟨by unfold roomFor; omega, ?_⟩, trivial⟩
    refine roundK.intro (rules ++ [chanR cRules[1]! x1 x2 0 x3 0], a5) ⟨by rw [lnn]; omega, by rw [lnn, List.map_append, h2, <- hi]; rfl, fun x hx => ?_, q5⟩ (by show 4 - (rules ++ [_]).length < 4 - rules.length; rw [lnn]; omega) ?_
    ·rcases List.mem_append.1 hx with hx | hx
     ·exact h3 x hx
     ·rw [List.mem_singleton] at hx; subst hx; exact hr
    ·simp only [go_sem, lnn, List.replicate, List.map_append, List.map_cons, List.map_nil]
     try exact ⟨leV_int rfl, by rw [hnm]; exact leV_refl _⟩
   ·have hb : (x3 != 0) = true := bne_iff_ne.2 hx3
    have hr : ChanR ns np nl (chanR cRules[1]! x1 x2 x4 x3 x5) := ⟨rfl, v1, v2, ⟨by show 0 <= x3; omega, by show x3 <= 2; omega⟩, fun h => absurd h hx3, v4, v5⟩
    simp only [go_sem, hrep, hb]
    refine ⟨?_, trivial⟩
    refine DrawK.effs0 0 [4, 9] [] 11 (.one 11 (.front 12 (.one 13 .done))) none (diceA l a5) mixed (by kernel_rfl) (by kernel_rfl) (by simp only [go_sem]) (by simp only [go_sem]) ?_
    simp only [go_sem, List.length_map, lpl]
    refine EffK.mk c4 (by simp only [go_sem]) (by simp only [go_sem]) (by simp only [go_sem]) (by simp only [go_sem]) ?_
    simp only [go_sem, List.length_map, lle]
    refine EffK.mk c5 (by simp only [go_sem]) (by simp only [go_sem]) (by simp only [go_sem]) (by simp only [go_sem]) ?_
    simp only [go_sem, <- hi]
    refine ⟨⟨by unfold roomFor; omega, ?_⟩, trivial⟩
    refine roundK.intro (rules ++ [chanR cRules[1]! x1 x2 x4 x3 x5], a7) ⟨by rw [lnn]; omega, by rw [lnn, List.map_append, h2, <- hi]; rfl, fun x hx => ?_, q7⟩ (by show 4 - (rules ++ [_]).length < 4 - rules.length; rw [lnn]; omega) ?_
    ·rcases List.mem_append.1 hx with hx | hx
     ·exact h3 x hx
     ·rw [List.mem_singleton] at hx; subst hx; exact hr
    ·simp only [go_sem, lnn, List.replicate, List.map_append, List.map_cons, List.map_nil]
     try exact ⟨leV_int rfl, by rw [hnm]; exact leV_refl _⟩
  ·have hnm : cRules[2]! = ⟨#[116]⟩ := rfl
   simp only [Rk, List.replicate]
   refine DrawK.news0 [(17, 5)] [14] [(40, 42)] 0 [8, 13, 15] [] 18 (.one 18 .done) none (diceA l at2) mixed (by kernel_rfl) (by kernel_rfl) (by kernel_rfl) (by simp only [go_sem]) (by simp only [go_sem]) ⟨by simp only [go_sem], by simp only [go_sem]⟩ ⟨by simp only [go_sem], by simp only [go_sem]⟩ ?_
   simp only [go_sem, List.length_map, lst]
   refine EffK.mk c1 (by simp only [go_sem]) (by simp only [go_sem]) (by simp only [go_sem]) (by simp only [go_sem]) ?_
   simp only [go_sem, List.length_map, lst]
   refine EffK.mk c2 (by simp only [go_sem]) (by simp only [go_sem]) (by simp only [go_sem]) (by simp only [go_sem]) ?_
   simp only [go_sem]
   refine EffK.mk c3 (by simp only [go_sem]) (by simp only [go_sem]) (by simp only [go_sem]) (by simp only [go_sem]) ?_
   by_cases hx3 : x3 = 0
   ·have hb : (x3 != 0) = false := by rw [hx3]; rfl
    have hr : ChanR ns np nl (chanR cRules[2]! x1 x2 0 x3 0) := ⟨rfl, v1, v2, ⟨by show 0 <= x3; omega, by show x3 <= 2; omega⟩, fun _ => ⟨rfl, rfl⟩, ⟨by show (0 : Int) <= 0; omega, by show (0 : Int) < np; omega⟩, ⟨by show (0 : Int) <= 0; omega, by show (0 : Int) < nl; omega⟩⟩
    simp only [go_sem, hrep, hb, <- hi]
    refine ⟨⟨by unfold roomFor; omega, ?_⟩, trivial⟩
    refine roundK.intro (rules ++ [chanR cRules[2]! x1 x2 0 x3 0], a5) ⟨by rw [lnn]; omega, by rw [lnn, List.map_append, h2, <- hi]; rfl, fun x hx => ?_, q5⟩ (by show 4 - (rules ++ [_]).length < 4 - rules.length; rw [lnn]; omega) ?_
    ·rcases List.mem_append.1 hx with hx | hx
     ·exact h3 x hx
     ·rw [List.mem_singleton] at hx; subst hx; exact hr
    ·simp only [go_sem, lnn, List.replicate, List.map_append, List.map_cons, List.map_nil]
     try exact ⟨leV_int rfl, by rw [hnm]; exact leV_refl _⟩
   ·have hb : (x3 != 0) = true := bne_iff_ne.2 hx3
    have hr : ChanR ns np nl (chanR cRules[2]! x1 x2 x4 x3 x5) := ⟨rfl, v1, v2, ⟨by show 0 <= x3; omega, by show x3 <= 2; omega⟩, fun h => absurd h hx3, v4, v5⟩
    simp only [go_sem, hrep, hb]
    refine ⟨?_, trivial⟩
    refine DrawK.effs0 0 [4, 9] [] 11 (.one 11 (.front 12 (.one 13 .done))) none (diceA l a5) mixed (by kernel_rfl) (by kernel_rfl) (by simp only [go_sem]) (by simp only [go_sem]) ?_
    simp only [go_sem, List.length_map, lpl]
    refine EffK.mk c4 (by simp only [go_sem]) (by simp only [go_sem]) (by simp only [go_sem]) (by simp only [go_sem]) ?_
    simp only [go_sem, List.length_map, lle]
    refine EffK.mk c5 (by simp only [go_sem]) (by simp only [go_sem]) (by simp only [go_sem]) (by simp only [go_sem]) ?_
    simp only [go_sem, <- hi]
    refine ⟨⟨by unfold roomFor; omega, ?_⟩, trivial⟩
    refine roundK.intro (rules ++ [chanR cRules[2]! x1 x2 x4 x3 x5], a7) ⟨by rw [lnn]; omega, by rw [lnn, List.map_append, h2, <- hi]; rfl, fun x hx => ?_, q7⟩ (by show 4 - (rules ++ [_]).length < 4 - rules.length; rw [lnn]; omega) ?_
    ·rcases List.mem_append.1 hx with hx | hx
     ·exact h3 x hx
     ·rw [List.mem_singleton] at hx; subst hx; exact hr
    ·simp only [go_sem, lnn, List.replicate, List.map_append, List.map_cons, List.map_nil]
     try exact ⟨leV_int rfl, by rw [hnm]; exact leV_refl _⟩
  ·have hnm : cRules[3]! = ⟨#[117]⟩ := rfl
   simp only [Rk, List.replicate]
   refine DrawK.news0 [(17, 6)] [14] [(40, 42)] 0 [8, 13, 15] [] 18 (.one 18 .done) none (diceA l at2) mixed (by kernel_rfl) (by kernel_rfl) (by kernel_rfl) (by simp only [go_sem]) (by simp only [go_sem]) ⟨by simp only [go_sem], by simp only [go_sem]⟩ ⟨by simp only [go_sem], by simp only [go_sem]⟩ ?_
   simp only [go_sem, List.length_map, lst]
   refine EffK.mk c1 (by simp only [go_sem]) (by simp only [go_sem]) (by simp only [go_sem]) (by simp only [go_sem]) ?_
   simp only [go_sem, List.length_map, lst]
   refine EffK.mk c2 (by simp only [go_sem]) (by simp only [go_sem]) (by simp only [go_sem]) (by simp only [go_sem]) ?_
   simp only [go_sem]
   refine EffK.mk c3 (by simp only [go_sem]) (by simp only [go_sem]) (by simp only [go_sem]) (by simp only [go_sem]) ?_
   by_cases hx3 : x3 = 0
   ·have hb : (x3 != 0) = false := by rw [hx3]; rfl
    have hr : ChanR ns np nl (chanR cRules[3]! x1 x2 0 x3 0) := ⟨rfl, v1, v2, ⟨by show 0 <= x3; omega, by show x3 <= 2; omega⟩, fun _ => ⟨rfl, rfl⟩, ⟨by show (0 : Int) <= 0; omega, by show (0 : Int) < np; omega⟩, ⟨by show (0 : Int) <= 0; omega, by show (0 : Int) < nl; omega⟩⟩
    simp only [go_sem, hrep, hb, <- hi]
    refine ⟨⟨by unfold roomFor; omega, ?_⟩, trivial⟩
    refine roundK.intro (rules ++ [chanR cRules[3]! x1 x2 0 x3 0], a5) ⟨by rw [lnn]; omega, by rw [lnn, List.map_append, h2, <- hi]; rfl, fun x hx => ?_, q5⟩ (by show 4 - (rules ++ [_]).length < 4 - rules.length; rw [lnn]; omega) ?_
    ·rcases List.mem_append.1 hx with hx | hx
     ·exact h3 x hx
     ·rw [List.mem_singleton] at hx; subst hx; exact hr
    ·simp only [go_sem, lnn, List.replicate, List.map_append, List.map_cons, List.map_nil]
     try exact ⟨leV_int rfl, by rw [hnm]; exact leV_refl _⟩
   ·have hb : (x3 != 0) = true := bne_iff_ne.2 hx3
    have hr : ChanR ns np nl (chanR cRules[3]! x1 x2 x4 x3 x5) := ⟨rfl, v1, v2, ⟨by show 0 <= x3; omega, by show x3 <= 2; omega⟩, fun h => absurd h hx3, v4, v5⟩
    simp only [go_sem, hrep, hb]
    refine ⟨?_, trivial⟩
    refine DrawK.effs0 0 [4, 9] [] 11 (.one 11 (.front 12 (.one 13 .done))) none (diceA l a5) mixed (by kernel_rfl) (by kernel_rfl) (by simp only [go_sem]) (by simp only [go_sem]) ?_
    simp only [go_sem, List.length_map, lpl]
    refine EffK.mk c4 (by simp only [go_sem]) (by simp only [go_sem]) (by simp only [go_sem]) (by simp only [go_sem]) ?_
    simp only [go_sem, List.length_map, lle]
    refine EffK.mk c5 (by simp only [go_sem]) (by simp only [go_sem]) (by simp only [go_sem]) (by simp only [go_sem]) ?_
    simp only [go_sem, <- hi]
    refine ⟨⟨by unfold roomFor; omega, ?_⟩, trivial⟩
    refine roundK.intro (rules ++ [chanR cRules[3]! x1 x2 x4 x3 x5], a7) ⟨by rw [lnn]; omega, by rw [lnn, List.map_append, h2, <- hi]; rfl, fun x hx => ?_, q7⟩ (by show 4 - (rules ++ [_]).length < 4 - rules.length; rw [lnn]; omega) ?_
    ·rcases List.mem_append.1 hx with hx | hx
     ·exact h3 x hx
     ·rw [List.mem_singleton] at hx; subst hx; exact hr
    ·simp only [go_sem, lnn, List.replicate, List.map_append, List.map_cons, List.map_nil]
     try exact ⟨leV_int rfl, by rw [hnm]; exact leV_refl _⟩
 ·simp only [go_sem, hw4, h, List.length_map, lpl, lle]
  refine CallU.boxes (i := 0) (is := []) (bx0 := [diceA l at2]) (con_dwords l at2 np nl 2 hs h5 (by omega) (by omega) (by omega)) (by simp only [go_sem]) (by simp only [go_sem]) (by simp only [go_sem]) (by simp only [go_sem]) (by simp only [go_sem]) ?_
  rintro r b ⟨ws, a8, hws, hwk, h8, rfl, rfl⟩
  have hdc : DealC ns np nl rules ws := ⟨⟨hns1, hns2⟩, ⟨hnp1, hnp2⟩, ⟨hnl1, hnl2⟩, h1, h2, h3, ⟨hws, hwk⟩⟩
  simp only [go_sem, List.length_map]
  refine ⟨by simp only [roomFor]; omega, ?_⟩
  exact ⟨ns, np, nl, rules, ws, a8, hdc, h8, rfl, rfl⟩
structure CloudOk (m : MD) (s : Int) (W : List (List TmD)) : Prop where
 st : 0 <= s /\ s < m.states.length
 len : W.length = m.places.length
 ws : ∀ p ∈ W, ValidP m.letters.length p
 few : m.places.length <= 1000 /\ m.letters.length <= 1000
theorem con_lcheck (m : MD) (s : Int) (W : List (List TmD)) (h : CloudOk m s W) : Con Tryz.prog 74 [vM m, vCl s W] [] fun r _ => r = vi 0 := by
 refine Con.intro Tryz.func74 rfl Tryz.ntmps74 Tryz.results74 (by kernel_rfl) (by simp) 0 (by simp) ?_
 have h1 : ¬ s < 0 := by have := h.st; omega
 have h2 : ¬ (m.states.length : Int) <= s := by have := h.st; omega
 have h3 : ((W.length : Int) != m.places.length) = false := by rw [h.len]; simp
 have hf := h.few
 have hl := h.len
 simp only [go_sem, cM, vss, vCl, h1, h2, h3, List.length_map]
 refine LoopK.intro (fun i : Nat => ⟨44, [(2, .pb 0 0), (3, .pb 1 0), (29, .sl 0 1 (W.map vPr)), (30, vi W.length), (31, vi i)], [cM m, [vi s, .sl 0 1 (W.map vPr)]]⟩)
  (fun i => W.length - i) (fun i => i <= W.length) 0 (Nat.zero_le _) ?_ ?_
 ·simp only [go_sem, cM, vss]
 rintro i hi
 by_cases h4 : i < W.length
 case neg => simp only [go_sem, h4]
 have hg := getPr h4
 have hwi : IntKind.i64.wrap (i + 1) = i + 1 := wrap_in (by omega) (by omega)
 have hv := h.ws _ (mem_bangI h4)
 have hc := con_xCheckL m.letters.length W[i]! hv.lenP
 rw [check_zero.2 hv] at hc
 simp only [vPr] at hc
 simp only [go_sem, h4, hg, cM, vss, List.length_map]
 refine CallU.free hc (by simp only [go_sem]) (by simp only [go_sem]) ?_
 rintro r bx rfl
 simp only [go_sem, hwi]
 refine roundK.intro (i + 1) (by omega) (by omega) ?_
 simp only [go_sem]
theorem con_leq1 (m : MD) (p q : List TmD) (hp : LenP p) (hq : LenP q) : Con Tryz.prog 93 [vPr p, vPr q, .fp (cM m) 0] [] fun r _ => r = .sc (.bool (leqX m.letters.length p q)) := by
 refine Con.intro Tryz.func93 rfl Tryz.ntmps93 Tryz.results93 (by kernel_rfl) (by simp) 0 (by simp) ?_
 have hc := con_xLeq m.letters.length p q hp hq
 simp only [vPr] at hc
 simp only [go_sem, cM, vss, List.length_map]
 refine CallU.free hc (by simp only [go_sem]) (by simp only [go_sem]) ?_
 rintro r bx rfl
 simp only [go_sem]
def eqFn (p : List TmD -> List TmD -> Bool) : List (List TmD) -> List (List TmD) -> Bool
 | [], [] => true
 | x :: a, y :: b => p x y && eqFn p a b
 | _, _ => false
theorem eqFn_iff {p : List TmD -> List TmD -> Bool} : ∀ {a b : List (List TmD)}, a.length = b.length -> (eqFn p a b = true ↔ ∀ j, j < a.length -> p a[j]! b[j]! = true)
 | [], [], _ => by simp [eqFn]
 | [], _ :: _, h => by simp at h
 | _ :: _, [], h => by simp at h
 | x :: a, y :: b, h => by
  rw [eqFn, Bool.and_eq_true, eqFn_iff (by simpa using h)]
  constructor
  ·rintro ⟨h1, h2⟩ j hj
   cases j with
   | zero => exact h1
   | succ j => exact h2 j (by simp only [List.length_cons] at hj; omega)
  ·intro h
   exact ⟨h 0 (by simp), fun j hj => h (j + 1) (by simp only [List.length_cons]; omega)⟩
theorem con_equalPr (a b : List (List TmD)) (f : FuncId) (caps : List AV) (p : List TmD -> List TmD -> Bool) (hc : mapTops (viewV []) caps = caps) (hf : ∀ x ∈ a, ∀ y ∈ b, Con Tryz.prog f ([vPr x, vPr y] ++ caps) [] fun r _ => r = .sc (.bool (p x y))) (hl : a.length <= 1000000) (hab : a.length = b.length) :
  Con Tryz.prog 92 [.sl 0 1 (a.map vPr), .sl 0 1 (b.map vPr), .fn f caps] [] fun r _ => r = .sc (.bool (eqFn p a b)) := by
 refine Con.intro Tryz.func92 rfl Tryz.ntmps92 Tryz.results92 (by kernel_rfl) (by simp) 0 (by simp) ?_
 have hne : ((a.length : Int) != b.length) = false := by rw [hab]; simp
 simp only [go_sem, hne, List.length_map]
 refine LoopK.intro (fun i : Nat => ⟨32, [(1, .sl 0 1 (b.map vPr)), (2, .fn f caps), (15, .sl 0 1 (a.map vPr)), (16, vi a.length), (17, vi i)], []⟩)
  (fun i => a.length - i) (fun i => i <= a.length /\ ∀ j, j < i -> p a[j]! b[j]! = true) 0 ⟨by omega, fun j hj => by omega⟩ ?_ ?_
 ·simp only [go_sem]
  all_goals exact leV_refl _
 rintro i ⟨hi, hb⟩
 by_cases h : i < a.length
 case neg =>
  have e : eqFn p a b = true := (eqFn_iff hab).2 fun j hj => hb j (by omega)
  simp only [go_sem, h, e]
 have h2 : i < b.length := by omega
 have hg := getPr h
 have hg2 := getPr h2
 have hw : IntKind.i64.wrap (i + 1) = i + 1 := wrap_in (by omega) (by omega)
 have hx := hf a[i]! (mem_bangI h) b[i]! (mem_bangI h2)
 simp only [vPr] at hx
 simp only [go_sem, h, h2, hg, hg2, List.length_map]
 refine CallU.look hx (by simp only [go_sem]) (by simp only [go_sem, hc]) ?_
 rintro r bx rfl
 cases hp : p a[i]! b[i]! with
 | true =>
  simp only [go_sem, hw]
  refine roundK.intro (i + 1) ⟨by omega, fun j hj => ?_⟩ (by omega) ?_
  ·by_cases hji : j = i
   ·subst hji; exact hp
   ·exact hb j (by omega)
  simp only [go_sem]
  all_goals exact leV_refl _
 | false =>
  have e : eqFn p a b = false := by
   rw [Bool.eq_false_iff]
   intro hc
   have := (eqFn_iff hab).1 hc i h
   rw [hp] at this; cases this
  simp only [go_sem, e]
def clLeq (n : Int) (a b : Int × List (List TmD)) : Bool := (a.1 == b.1) && eqFn (leqX n) a.2 b.2
theorem con_lleq (m : MD) (a b : Int × List (List TmD)) (ha : CloudOk m a.1 a.2) (hb : CloudOk m b.1 b.2) : Con Tryz.prog 48 [vM m, vCl a.1 a.2, vCl b.1 b.2] [] fun r _ => r = vb (clLeq m.letters.length a b) := by
 refine Con.intro Tryz.func48 rfl Tryz.ntmps48 Tryz.results48 (by kernel_rfl) (by simp) 0 (by simp) ?_
 have hx := con_equalPr a.2 b.2 93 [.fp (cM m) 0] (leqX m.letters.length) (by simp only [go_sem, cM, vss]) (fun x hx y hy => con_leq1 m x y (ha.ws x hx).lenP (hb.ws y hy).lenP) (by have := ha.few; have := ha.len; omega) (ha.len.trans hb.len.symm)
 simp only [cM, vss] at hx
 unfold clLeq
 by_cases h : a.1 = b.1
 ·have hbq : (a.1 == b.1) = true := beq_iff_eq.2 h
  rw [hbq, Bool.true_and]
  simp only [go_sem, vCl, cM, vss, hbq]
  refine CallU.look hx (by simp only [go_sem]) (by simp only [go_sem]) ?_
  rintro r bx rfl
  simp only [go_sem]
 ·have hbq : (a.1 == b.1) = false := beq_eq_false_iff_ne.2 h
  rw [hbq, Bool.false_and]
  simp only [go_sem, vCl, hbq]
theorem con_lnormal (m : MD) (s : Int) (W : List (List TmD)) (h : CloudOk m s W) : Con Tryz.prog 84 [vM m, vCl s W] [] fun r _ => r = .ag [vi s, .sl 2 1 ((W.map normP).map vPr)] := by
 refine Con.intro Tryz.func84 rfl Tryz.ntmps84 Tryz.results84 (by kernel_rfl) (by simp) 0 (by simp) ?_
 have hf := h.few
 have hl := h.len
 simp only [go_sem, cM, vss, vCl]
 refine LoopK.intro (fun i : Nat => ⟨36, [(2, .pb 0 0), (4, .pb 2 0), (5, .pb 3 0), (14, .sl 0 1 (W.map vPr)), (15, vi W.length), (16, vi i)], [cM m, [vi s, .sl 0 1 (W.map vPr)], [.any, .any], [vi s, .sl 2112 1 (((W.take i).map normP).map vPr)]]⟩)
  (fun i => W.length - i) (fun i => i <= W.length) 0 (Nat.zero_le _) ?_ ?_
 ·simp only [go_sem, cM, vss, List.take_zero, List.map_nil]
  try exact ⟨leC_self _, ⟨leV_refl _, leV_refl _, trivial⟩, ⟨leV_any _, leV_any _, trivial⟩, ⟨leV_refl _, leV_nil _ _, trivial⟩, trivial⟩
 rintro i hi
 by_cases h4 : i < W.length
 case neg =>
  have e : W.take i = W := List.take_of_length_le (by omega)
  simp only [go_sem, h4, e]
  try exact leV_refl _
 have hg := getPr h4
 have hwi : IntKind.i64.wrap (i + 1) = i + 1 := wrap_in (by omega) (by omega)
 have hv := h.ws _ (mem_bangI h4)
 have hc := con_xNormal m.letters.length W[i]! hv.lenP
 rw [check_zero.2 hv, if_pos rfl] at hc
 have e : ((W.take (i + 1)).map normP).map vPr = ((W.take i).map normP).map vPr ++ [vPr (normP W[i]!)] := by
  rw [List.take_succ_eq_append_getElem h4, List.map_append, List.map_append, <- getElem!_pos W i h4]; rfl
 have hll : ((W.take i).map normP).length <= 1000 := by rw [List.length_map, List.length_take]; omega
 simp only [vPr] at hc
 simp only [go_sem, h4, hg, cM, vss, List.length_map]
 refine CallU.free hc (by simp only [go_sem]) (by simp only [go_sem]) ?_
 rintro r bx rfl
 simp only [go_sem, hwi, List.length_map]
 refine ⟨by simp only [roomFor, List.length_take]; omega, ?_⟩
 refine roundK.intro (i + 1) (by omega) (by omega) ?_
 simp only [go_sem, cM, vss, e, vPr]
 try exact ⟨leC_self _, ⟨leV_refl _, leV_refl _, trivial⟩, ⟨leV_any _, leV_any _, trivial⟩, ⟨leV_refl _, leV_refl _, trivial⟩, trivial⟩
def confG (m : MD) (c : CV) : Bool := decide (checkF m = 0) && validV (typeM m) c
theorem checkF_zero {m : MD} (h : checkF m = 0) : betweenB m.kind 1 6 = true /\ sizedB m = true /\ rankedB m = true /\ namesB (namesOf m) = true /\ (∀ r ∈ m.rules, rightR m r = true) /\ beginsF m = true := by
 unfold checkF at h
 cases h1 : betweenB m.kind 1 6 <;> simp only [h1, if_true, Bool.true_eq_false, if_false] at h
 ·omega
 cases h2 : sizedB m <;> simp only [h2, if_true, Bool.true_eq_false, if_false] at h
 ·omega
 cases h3 : rankedB m <;> simp only [h3, if_true, Bool.true_eq_false, if_false] at h
 ·omega
 cases h4 : namesB (namesOf m) <;> simp only [h4, if_true, Bool.true_eq_false, if_false] at h
 ·omega
 cases h5 : m.rules.any fun r => !rightR m r <;> simp only [h5, if_true, Bool.false_eq_true, if_false] at h
 ·cases h6 : beginsF m <;> simp only [h6, if_true, Bool.true_eq_false, if_false] at h
  ·omega
  ·refine ⟨rfl, rfl, rfl, rfl, fun r hr => ?_, rfl⟩
   have := List.any_eq_false.1 h5 r hr
   simpa using this
 ·omega
theorem checkF_ne {m : MD} (h : checkF m ≠ 0) : (checkF m == 0) = false := beq_eq_false_iff_ne.2 h
theorem con_ValidG (m : MD) (c : CV) (h : LenM m) (hc : c.Ok) : Con Tryz.prog 55 [vM m, vV c] [] fun r _ => r = vb (confG m c) := by
 have e0 := vV_eq c
 have cc := con_CheckG m h
 by_cases h0 : checkF m = 0
 ·have hz := checkF_zero h0
  have hsz := sized_size h hz.2.1 hz.2.2.1
  have ct := con_typedG m hsz.1
  have cv := con_oValid (typeM m) c (type_ok hsz.1 hsz.2) hc
  have e1 := vT_eq (typeM m)
  have hg : confG m c = validV (typeM m) c := by unfold confG; rw [decide_eq_true h0, Bool.true_and]
  rw [h0] at cc
  rw [e1] at ct cv
  rw [hg]
  rw [e0] at cv ⊢
  refine Con.intro Tryz.func55 rfl Tryz.ntmps55 Tryz.results55 (by kernel_rfl) (by simp) 2 (by simp) ?_
  simp only [go_sem]
  refine DrawK.walk 10 mixed (by kernel_rfl) ?_
  simp only [go_sem]
  refine CallY.mk cc (by simp only [go_sem, vM, cM, vss]) (by simp only [go_sem]) (.inl (by simp only [go_sem])) ?_
  simp only [go_sem]
  refine CallY.mk ct (by simp only [go_sem, vM, cM, vss]) (by simp only [go_sem]) (.inl (by simp only [go_sem])) ?_
  simp only [go_sem]
  refine CallY.mk cv (by simp only [go_sem]) (by simp only [go_sem]) (.inr (by simp only [go_sem])) ?_
  simp only [go_sem]
 ·have hg : confG m c = false := by unfold confG; rw [decide_eq_false h0, Bool.false_and]
  have hn := checkF_ne h0
  rw [hg, e0]
  refine Con.intro Tryz.func55 rfl Tryz.ntmps55 Tryz.results55 (by kernel_rfl) (by simp) 1 (by simp) ?_
  simp only [go_sem]
  refine DrawK.walk 10 mixed (by kernel_rfl) ?_
  simp only [go_sem]
  refine CallY.mk cc (by simp only [go_sem, vM, cM, vss]) (by simp only [go_sem]) (.inl (by simp only [go_sem])) ?_
  simp only [go_sem, hn]
theorem con_llossy (m : MD) (h : LenM m) (h0 : checkF m = 0) (hk : m.kind = 2) : Con Tryz.prog 54 [vM m] [] fun r _ => r = vi 0 := by
 refine Con.intro Tryz.func54 rfl Tryz.ntmps54 Tryz.results54 (by kernel_rfl) (by simp) 0 (by simp) ?_
 have hc := con_CheckG m h
 rw [h0] at hc
 simp only [vM, cM, vss] at hc
 simp only [go_sem, cM, vss]
 refine CallU.free hc (by simp only [go_sem]) (by simp only [go_sem]) ?_
 rintro r bx rfl
 simp only [go_sem, hk]
theorem chan_pw {ns np nl : Nat} : ∀ l : List RD, (∀ r ∈ l, ChanR ns np nl r) -> PW Sub (flat (l.map chanN)) (flat (l.map vRule))
 | [], _ => PW.nil _
 | r :: l, h => by
  rw [List.map_cons, List.map_cons, flat_cons, flat_cons]
  refine PW.append ?_ (chan_pw l fun x hx => h x (List.mem_cons_of_mem _ hx))
  have e := (h r (List.mem_cons_self ..)).eq
  generalize r.name = a at e
  generalize r.src = b at e
  generalize r.dst = c at e
  generalize r.channel = d at e
  generalize r.act = f at e
  generalize r.letter = g at e
  subst e
  have e1 : Sub .nil (vs 0 []) := Sub.nil 1
  have e3 : Sub .nil (.sl 0 3 (([] : List (Int × Int × Int)).map vTake)) := Sub.nil 3
  exact PW.cons (Sub.refl _) (PW.cons (Sub.refl _) (PW.cons (Sub.refl _) (PW.cons e1 (PW.cons e1 (PW.cons e1 (PW.cons (Sub.refl _) (PW.cons (Sub.refl _) (PW.cons (Sub.refl _) (PW.cons e1 (PW.cons e1 (PW.cons e3 (PW.cons e1 (PW.cons (Sub.refl _) (PW.nil _))))))))))))))
theorem words_pw : ∀ ws : List (List Int), PW Sub (flat (ws.map wordN)) (flat ((ws.map wordV).map vV))
 | [] => PW.nil _
 | w :: ws => by
  rw [List.map_cons, List.map_cons, List.map_cons, flat_cons, flat_cons]
  refine PW.append ?_ (words_pw ws)
  rw [vV_eq]
  have e : Sub (.sl 0 2 (w.map kidN)) (.sl 0 2 ((wordV w).kids.map vV)) := Sub.slE (by simp [wordV, CV.kids]) (fun y hy => by
   obtain ⟨x, _, rfl⟩ := List.mem_map.1 hy
   rw [vV_eq]; rfl) (kids_pw w)
  exact PW.cons (Sub.refl _) (PW.cons e (PW.nil _))
theorem conf_pw (n : Int) (ws : List (List Int)) : PW Sub (flat (kidN n :: ws.map wordN)) (flat ((chanV n ws).kids.map vV)) := by
 show PW Sub (flat (kidN n :: ws.map wordN)) (flat (vV (.mk n []) :: (ws.map wordV).map vV))
 rw [flat_cons, flat_cons, vV_eq]
 exact PW.append (PW.cons (Sub.refl _) (PW.cons (Sub.nil 2) (PW.nil _))) (words_pw ws)
theorem kids_le (n : Int) (ws : List (List Int)) : leV (.sl 0 2 (kidN n :: ws.map wordN)) (.sl 0 2 ((chanV n ws).kids.map vV)) :=
 leV_slE (by show _ = ((CV.mk n [] :: ws.map wordV).map vV).length; simp) (fun y hy => by
  obtain ⟨x, _, rfl⟩ := List.mem_map.1 hy
  rw [vV_eq]; rfl) (conf_pw n ws)
theorem chan_le {ns np nl : Nat} {rules : List RD} {ws : List (List Int)} (h : DealC ns np nl rules ws) :
  leV (.ag [vi 2, vss (cStates.take ns), vss (cPlaces.take np), vss (cLetters.take nl), .nil, vi 0, vi 0, .sl 0 14 (rules.map chanN), vi 0, .sl 0 2 (kidN 0 :: ws.map wordN)]) (vM (chanM ns np nl rules ws)) := by
 refine leV_ag ⟨leV_refl _, leV_refl _, leV_refl _, leV_refl _, leV_nil 0 1, leV_refl _, leV_refl _, ?_, leV_refl _, kids_le 0 ws, trivial⟩
 exact leV_slE (by simp [chanM]) (fun y hy => by obtain ⟨x, _, rfl⟩ := List.mem_map.1 hy; rfl) (chan_pw _ h.rules)
theorem con_Channel (l : List Int) (at_ : Nat) (hs : Seeds l) (ha : at_ <= l.length) :
  Con Tryz.prog 10 [.pb 0 0, vi 2] [diceA l at_]
  fun r b => ∃ (ns np nl : Nat) (rules : List RD) (ws : List (List Int)) (at' : Nat), DealC ns np nl rules ws /\ at' <= l.length /\ b = [diceA l at'] /\ r = vM (chanM ns np nl rules ws) :=
 ((con_channel0 l at_ hs ha).freezeB fun _ => true).weak fun r b ⟨r1, b1, ⟨ns, np, nl, rules, ws, at1, hd, h1, h2, h3⟩, h4, h5⟩ => by
  subst h2; subst h3; subst h4; subst h5
  exact ⟨_, ⟨ns, np, nl, rules, ws, at1, hd, h1, rfl, rfl⟩, chan_le hd⟩
theorem con_dealLossy {ns np nl : Nat} {rules : List RD} {ws : List (List Int)} (h : DealC ns np nl rules ws) : Con Tryz.prog 54 [vM (chanM ns np nl rules ws)] [] fun r _ => r = vi 0 :=
 con_llossy _ h.len h.check rfl
theorem chan_kids (n : Int) (ws : List (List Int)) : (chanV n ws).kids.map vV = vV (.mk n []) :: (ws.map wordV).map vV := rfl
theorem getKid {n : Int} {ws : List (List Int)} {i : Nat} (h : i < ws.length) : ((chanV n ws).kids.map vV)[i + 1]? = some (.ag [vi 0, .sl 0 2 ((ws[i]!.map fun x => CV.mk x []).map vV)]) := by
 rw [chan_kids, List.getElem?_cons_succ, List.map_map, List.getElem?_map, List.getElem?_eq_getElem h, getElem!_pos ws i h]
 show some (vV (wordV ws[i])) = _
 rw [vV_eq]; rfl
theorem getLet {w : List Int} {i : Nat} (h : i < w.length) : ((w.map fun x => CV.mk x []).map vV)[i]? = some (.ag [vi w[i]!, .sl 0 2 []]) := by
 rw [List.map_map, List.getElem?_map, List.getElem?_eq_getElem h, getElem!_pos w i h]
 show some (vV (.mk w[i] [])) = _
 rw [vV_eq]; rfl
theorem con_lwordOf (n : Int) (ws : List (List Int)) (i : Nat) (hi : i < ws.length) (hl : ws.length <= 1000) (hw : ws[i]!.length <= 1000) : Con Tryz.prog 83 [vV (chanV n ws), vi i] [] fun r _ => r = vs 0 ws[i]! := by
 refine Con.frozX ?_
 rw [vV_eq]
 refine Con.intro Tryz.func83 rfl Tryz.ntmps83 Tryz.results83 (by kernel_rfl) (by simp) 0 (by simp) ?_
 have hg := getKid (n := n) hi
 have hkl : ((chanV n ws).kids).length = ws.length + 1 := by show (CV.mk n [] :: ws.map wordV).length = _; simp
 have hw1 : IntKind.i64.wrap (1 + (i : Int)) = ((i + 1 : Nat) : Int) := by rw [wrap_in (by omega) (by omega)]; omega
 have hlt : i + 1 < ws.length + 1 := by omega
 have hlt2 : i + 1 < ((chanV n ws).kids).length := by omega
 generalize (chanV n ws).kids = K at hg hkl hlt2
 generalize (chanV n ws).n = z
 generalize ws[i]! = w at hg hw
 have ht : ((i : Int) + 1).toNat = i + 1 := by omega
 have hnn : (0 : Int) <= (i : Int) + 1 := by omega
 have hq : (i : Int) + 1 < (K.length : Int) := by omega
 rw [List.getElem?_map] at hg
 simp only [go_sem, hw1, ht, hnn, hq, hg, List.length_map]
 refine LoopK.intro (fun j : Nat => ⟨27, [(2, .pb 0 0), (5, .sl 1600 1 ((w.take j).map vi)), (14, .sl 0 2 ((w.map fun x => CV.mk x []).map vV)), (15, vi w.length), (16, vi j)], [vi z, .sl 0 2 (K.map vV)] :: Rk 2 j⟩)
  (fun j => w.length - j) (fun j => j <= w.length) 0 (Nat.zero_le _) ?_ ?_
 ·simp only [go_sem, List.take_zero, List.map_nil, Rk, List.replicate_zero]
  all_goals exact leB_self _
 rintro j hj
 have hB := Rk_len 2 j
 have n0 := fun L : List (List AV) => app_at0 (L := L) hB
 have s0 := fun (L : List (List AV)) z => app_set0 (L := L) (z := z) hB
 by_cases h : j < w.length
 case neg =>
  have e : w.take j = w := List.take_of_length_le (by omega)
  simp only [go_sem, h, e]
  exact leV_refl _
 have hgl := getLet h
 rw [List.map_map, List.getElem?_map] at hgl
 have hwj : IntKind.i64.wrap (j + 1) = j + 1 := wrap_in (by omega) (by omega)
 have e : (w.take (j + 1)).map vi = (w.take j).map vi ++ [vi w[j]!] := by
  rw [List.take_succ_eq_append_getElem h, List.map_append, <- getElem!_pos w j h]; rfl
 simp only [go_sem, h, hgl, hB, n0, s0, List.length_map, List.cons_append, List.nil_append, List.length_cons, hwj]
 refine ⟨by simp only [roomFor, List.length_take]; omega, ?_⟩
 refine roundK.intro (j + 1) (by omega) (by omega) ?_
 simp only [go_sem, e, Rk_succ]
 all_goals exact leB_RkA (x := [[_, _]]) (y := [List.replicate 2 .any]) ⟨⟨leV_any _, leV_any _, trivial⟩, trivial⟩
def hasCl (nl : Int) (a : Int × List (List TmD)) (n : Int) (ws : List (List Int)) : Bool := (List.range a.2.length).all (fun c => hasX nl a.2[c]! ws[c]!) && (n == a.1)
theorem con_lhas (m : MD) (a : Int × List (List TmD)) (n : Int) (ws : List (List Int)) (ha : CloudOk m a.1 a.2) (hl : ws.length = m.places.length) (hw : ∀ w ∈ ws, w.length <= 1000) : Con Tryz.prog 57 [vM m, vCl a.1 a.2, vV (chanV n ws)] [] fun r _ => r = vb (hasCl m.letters.length a n ws) := by
 have hwo := fun i hi => con_lwordOf n ws i hi (by have := ha.few; omega)
 rw [vV_eq] at hwo ⊢
 refine Con.intro Tryz.func57 rfl Tryz.ntmps57 Tryz.results57 (by kernel_rfl) (by simp) 0 (by simp) ?_
 have hf := ha.few
 have hal := ha.len
 have hkl : ((chanV n ws).kids).length = ws.length + 1 := by show (CV.mk n [] :: ws.map wordV).length = _; simp
 have hg0 : ((chanV n ws).kids.map vV)[0]? = some (.ag [vi n, .sl 0 2 []]) := by
  rw [chan_kids]
  show some (vV (.mk n [])) = _
  rw [vV_eq]; rfl
 have hpos : 0 < ((chanV n ws).kids).length := by omega
 generalize (chanV n ws).kids = K at hwo hkl hg0 hpos
 rw [List.getElem?_map] at hg0
 generalize (chanV n ws).n = z at hwo
 unfold hasCl
 simp only [go_sem, cM, vss, vCl, List.length_map]
 refine LoopK.intro (fun i : Nat => ⟨35, [(3, .pb 0 0), (4, .pb 1 0), (5, .pb 2 0), (10, .sl 0 1 (a.2.map vPr)), (11, vi a.2.length), (12, vi i)], [cM m, [vi a.1, .sl 0 1 (a.2.map vPr)], [vi z, .sl 0 2 (K.map vV)]]⟩)
  (fun i => a.2.length - i) (fun i => i <= a.2.length /\ ∀ j, j < i -> hasX m.letters.length a.2[j]! ws[j]! = true) 0 ⟨Nat.zero_le _, fun j hj => by omega⟩ ?_ ?_
 ·simp only [go_sem, cM, vss]
 rintro i ⟨hi, hall⟩
 by_cases h : i < a.2.length
 case neg =>
  have e : ((List.range a.2.length).all fun c => hasX m.letters.length a.2[c]! ws[c]!) = true := List.all_eq_true.2 fun c hc => hall c (by have := List.mem_range.1 hc; omega)
  rw [e, Bool.true_and]
  simp only [go_sem, h, cM, vss]
  refine DrawK.walk 8 mixed (by kernel_rfl) ?_
  simp only [go_sem, hpos, hg0, List.length_map]
 have hg := getPr h
 have hwi : IntKind.i64.wrap (i + 1) = i + 1 := wrap_in (by omega) (by omega)
 have hiw : i < ws.length := by omega
 have hwl := hw _ (mem_bang hiw)
 have hc1 := hwo i hiw hwl
 have hv := ha.ws _ (mem_bangI h)
 have hc2 := con_xHas m.letters.length a.2[i]! ws[i]! hv.lenP (by omega)
 simp only [vPr] at hc2
 simp only [go_sem, h, hg, cM, vss, List.length_map]
 refine DrawK.walk 9 mixed (by kernel_rfl) ?_
 simp only [go_sem, List.length_map]
 refine CallY.mk hc1 (by simp only [go_sem]) (by simp only [go_sem]) (.inl (by simp only [go_sem])) ?_
 simp only [go_sem]
 refine CallY.mk hc2 (by simp only [go_sem]) (by simp only [go_sem]) (.inl (by simp only [go_sem])) ?_
 cases hb : hasX m.letters.length a.2[i]! ws[i]! with
 | true =>
  simp only [go_sem, hwi]
  refine roundK.intro (i + 1) ⟨by omega, fun j hj => ?_⟩ (by omega) ?_
  ·by_cases hji : j = i
   ·subst hji; exact hb
   ·exact hall j (by omega)
  simp only [go_sem]
 | false =>
  have e : ((List.range a.2.length).all fun c => hasX m.letters.length a.2[c]! ws[c]!) = false := List.all_eq_false.2 ⟨i, List.mem_range.2 h, by rw [hb]; simp⟩
  simp only [go_sem, e, Bool.false_and]
abbrev ClD := Int × List (List TmD)
def vCP (a : ClD) : AV := vCl a.1 a.2
theorem getCl {l : List ClD} {i : Nat} (h : i < l.length) : (l.map vCP)[i]? = some (.ag [vi l[i]!.1, .sl 0 1 (l[i]!.2.map vPr)]) := by
 rw [List.getElem?_map, List.getElem?_eq_getElem h, getElem!_pos l i h]; rfl
theorem memCl {l : List ClD} {i : Nat} (h : i < l.length) : l[i]! ∈ l := by rw [getElem!_pos l i h]; exact List.getElem_mem h
theorem con_lcheckAll (m : MD) (l : List ClD) (h : ∀ a ∈ l, CloudOk m a.1 a.2) (hl : l.length <= 1000000) : Con Tryz.prog 50 [vM m, .sl 0 2 (l.map vCP)] [] fun r _ => r = vi 0 := by
 refine Con.intro Tryz.func50 rfl Tryz.ntmps50 Tryz.results50 (by kernel_rfl) (by simp) 0 (by simp) ?_
 simp only [go_sem, cM, vss, List.length_map]
 refine LoopK.intro (fun i : Nat => ⟨21, [(2, .pb 0 0), (8, .sl 0 2 (l.map vCP)), (9, vi l.length), (10, vi i)], cM m :: Rk 2 i⟩)
  (fun i => l.length - i) (fun i => i <= l.length) 0 (Nat.zero_le _) ?_ ?_
 ·simp only [go_sem, cM, vss, Rk, List.replicate_zero]
  all_goals try exact leB_self _
 rintro i hi
 have hB := Rk_len 2 i
 have n0 := fun L : List (List AV) => app_at0 (L := L) hB
 have s0 := fun (L : List (List AV)) z => app_set0 (L := L) (z := z) hB
 by_cases h2 : i < l.length
 case neg => simp only [go_sem, h2]
 have hg := getCl h2
 have hwi : IntKind.i64.wrap (i + 1) = i + 1 := wrap_in (by omega) (by omega)
 have hc := con_lcheck m l[i]!.1 l[i]!.2 (h _ (memCl h2))
 simp only [vM, cM, vss, vCl] at hc
 simp only [go_sem, h2, hg, hB, n0, s0, cM, vss, List.length_map, List.cons_append, List.length_cons]
 refine CallU.free hc (by simp only [go_sem]) (by simp only [go_sem]) ?_
 rintro q bx rfl
 simp only [go_sem, hwi]
 refine roundK.intro (i + 1) (by omega) (by omega) ?_
 simp only [go_sem, Rk_succ]
 all_goals exact leB_RkA (x := [[_, _]]) (y := [List.replicate 2 .any]) ⟨⟨leV_any _, leV_any _, trivial⟩, trivial⟩
theorem con_indexCl (l : List ClD) (f : FuncId) (caps : List AV) (p : ClD -> Bool) (_bx : List (List AV)) (hc : mapTops (viewV []) caps = caps) (hf : ∀ x ∈ l, Con Tryz.prog f ([vCP x] ++ caps) [] fun r _ => r = .sc (.bool (p x))) (hl : l.length <= 1000000) : Con Tryz.prog 91 [.sl 0 2 (l.map vCP), .fn f caps] [] fun r _ => r = vi (findI p l) := by
 refine Con.intro Tryz.func91 rfl Tryz.ntmps91 Tryz.results91 (by kernel_rfl) (by simp) 0 (by simp) ?_
 simp only [go_sem]
 refine LoopK.intro (fun i : Nat => ⟨19, [(0, .sl 0 2 (l.map vCP)), (1, .fn f caps), (7, vi l.length), (8, vi i)], []⟩)
  (fun i => l.length - i) (fun i => i <= l.length /\ ∀ j, j < i -> p l[j]! = false) 0 ⟨by omega, fun j hj => by omega⟩ ?_ ?_
 ·simp only [go_sem]
  all_goals exact leV_refl _
 rintro i ⟨hi, hb⟩
 by_cases h : i < l.length
 ·have hg := getCl h
  have hw : IntKind.i64.wrap (i + 1) = i + 1 := wrap_in (by omega) (by omega)
  have hx := hf l[i]! (memCl h)
  simp only [vCP, vCl] at hx
  simp only [go_sem, h, hg, List.length_map]
  refine CallU.look hx (by simp only [go_sem]) (by simp only [go_sem, hc]) ?_
  rintro r bx rfl
  cases hp : p l[i]!
  ·simp only [go_sem, hw]
   refine roundK.intro (i + 1) ⟨by omega, fun j hj => ?_⟩ (by omega) ?_
   ·by_cases hji : j = i
    ·subst hji; exact hp
    ·exact hb j (by omega)
   ·simp only [go_sem]
    all_goals exact leV_refl _
  ·simp only [go_sem]
   rw [findI_stop h hb hp]
 ·simp only [go_sem, h]
  rw [findI_none (fun j hj => hb j (by omega))]
theorem con_containsCl (l : List ClD) (f : FuncId) (caps : List AV) (p : ClD -> Bool) (hc : mapTops (viewV []) caps = caps) (hf : ∀ x ∈ l, Con Tryz.prog f ([vCP x] ++ caps) [] fun r _ => r = .sc (.bool (p x))) (hl : l.length <= 1000000) : Con Tryz.prog 46 [.sl 0 2 (l.map vCP), .fn f caps] [] fun r _ => r = .sc (.bool (l.any p)) := by
 refine Con.intro Tryz.func46 rfl Tryz.ntmps46 Tryz.results46 (by kernel_rfl) (by simp) 0 (by simp) ?_
 have hx := con_indexCl l f caps p [] hc hf hl
 simp only [go_sem]
 refine CallU.look hx (by simp only [go_sem]) (by simp only [go_sem]) ?_
 rintro r bx rfl
 simp only [go_sem, findI_ge]
theorem con_lCheck (m : MD) (a : ClD) (hL : Con Tryz.prog 54 [vM m] [] fun r _ => r = vi 0) (ha : CloudOk m a.1 a.2) : Con Tryz.prog 29 [vM m, vCP a] [] fun r _ => r = vi 0 := by
 refine Con.intro Tryz.func29 rfl Tryz.ntmps29 Tryz.results29 (by kernel_rfl) (by simp) 0 (by simp) ?_
 have c1 := con_lcheck m a.1 a.2 ha
 simp only [vM, cM, vss, vCl] at c1 hL
 simp only [go_sem, cM, vss, vCP, vCl]
 refine CallU.free hL (by simp only [go_sem]) (by simp only [go_sem]) ?_
 rintro q bx rfl
 simp only [go_sem]
 refine CallU.free c1 (by simp only [go_sem]) (by simp only [go_sem]) ?_
 rintro q bx rfl
 simp only [go_sem]
theorem con_lLeq (m : MD) (a b : ClD) (hL : Con Tryz.prog 54 [vM m] [] fun r _ => r = vi 0) (ha : CloudOk m a.1 a.2) (hb : CloudOk m b.1 b.2) : Con Tryz.prog 19 [vM m, vCP a, vCP b] [] fun r _ => r = .tup [vb (clLeq m.letters.length a b), vi 0] := by
 refine Con.intro Tryz.func19 rfl Tryz.ntmps19 Tryz.results19 (by kernel_rfl) (by simp) 0 (by simp) ?_
 have c1 := con_lCheck m a hL ha
 have c2 := con_lCheck m b hL hb
 have c3 := con_lleq m a b ha hb
 simp only [vM, cM, vss, vCP, vCl] at c1 c2 c3
 simp only [go_sem, cM, vss, vCP, vCl]
 refine CallU.free c1 (by simp only [go_sem]) (by simp only [go_sem]) ?_
 rintro q bx rfl
 simp only [go_sem]
 refine CallU.free c2 (by simp only [go_sem]) (by simp only [go_sem]) ?_
 rintro q bx rfl
 simp only [go_sem]
 refine CallU.free c3 (by simp only [go_sem]) (by simp only [go_sem]) ?_
 rintro q bx rfl
 simp only [go_sem]
theorem con_lexcl1 (m : MD) (a : ClD) (n : Int) (ws : List (List Int)) (ha : CloudOk m a.1 a.2) (hl : ws.length = m.places.length) (hw : ∀ w ∈ ws, w.length <= 1000) : Con Tryz.prog 56 [vCP a, .fp (cM m) 0, .fp [vi (chanV n ws).n, .sl 0 2 ((chanV n ws).kids.map vV)] 0] [] fun r _ => r = .sc (.bool (hasCl m.letters.length a n ws)) := by
 refine Con.intro Tryz.func56 rfl Tryz.ntmps56 Tryz.results56 (by kernel_rfl) (by simp) 0 (by simp) ?_
 have c1 := con_lhas m a n ws ha hl hw
 rw [vV_eq] at c1
 simp only [vM, cM, vss, vCl] at c1
 generalize (chanV n ws).kids = K at c1
 generalize (chanV n ws).n = z at c1
 simp only [go_sem, cM, vss, vCP, vCl]
 refine CallU.free c1 (by simp only [go_sem]) (by simp only [go_sem]) ?_
 rintro q bx rfl
 simp only [go_sem]
theorem con_lExcludes (m : MD) (l : List ClD) (n : Int) (ws : List (List Int)) (hL : Con Tryz.prog 54 [vM m] [] fun r _ => r = vi 0) (ha : ∀ a ∈ l, CloudOk m a.1 a.2) (hll : l.length <= 1000000)
  (hV : Con Tryz.prog 55 [vM m, vV (chanV n ws)] [] fun r _ => r = vb true) (hl : ws.length = m.places.length) (hw : ∀ w ∈ ws, w.length <= 1000) :
  Con Tryz.prog 14 [vM m, .sl 0 2 (l.map vCP), vV (chanV n ws)] [] fun r _ => r = .tup [vb (!l.any fun a => hasCl m.letters.length a n ws), vi 0] := by
 have cx := con_containsCl l 56 [.fp (cM m) 0, .fp [vi (chanV n ws).n, .sl 0 2 ((chanV n ws).kids.map vV)] 0] (fun a => hasCl m.letters.length a n ws) (by simp only [go_sem, cM, vss]) (fun a ha' => con_lexcl1 m a n ws (ha a ha') hl hw) hll
 rw [vV_eq] at hV ⊢
 refine Con.intro Tryz.func14 rfl Tryz.ntmps14 Tryz.results14 (by kernel_rfl) (by simp) 0 (by simp) ?_
 have c1 := con_lcheckAll m l ha hll
 simp only [vM, cM, vss] at c1 hL hV cx
 generalize (chanV n ws).kids = K at hV cx
 generalize (chanV n ws).n = z at hV cx
 simp only [go_sem, cM, vss]
 refine CallU.free hL (by simp only [go_sem]) (by simp only [go_sem]) ?_
 rintro q bx rfl
 simp only [go_sem]
 refine CallU.free c1 (by simp only [go_sem]) (by simp only [go_sem]) ?_
 rintro q bx rfl
 simp only [go_sem]
 refine CallU.free hV (by simp only [go_sem]) (by simp only [go_sem]) ?_
 rintro q bx rfl
 simp only [go_sem]
 refine CallU.look cx (by simp only [go_sem]) (by simp only [go_sem]) ?_
 rintro q bx rfl
 simp only [go_sem]
end Go.AM
namespace Go.AM
open Go Go.Proofs
theorem ord_Cl : OrdB (β := ClD) cmpCl := by
 refine ⟨fun a b => ?_, fun a b => ?_, fun a b c h1 h2 => ?_⟩
 ·obtain ⟨a1, a2⟩ := a
  obtain ⟨b1, b2⟩ := b
  unfold cmpCl
  simp only [Prod.mk.injEq]
  by_cases h : a1 = b1
  ·rw [if_neg (by simpa using h), lexBy_zero ord_Pr]; simp [h]
  ·rw [if_pos (by simpa using h)]
   refine ⟨fun e => ?_, fun e => absurd e.1 h⟩
   split at e <;> omega
 ·unfold cmpCl
  by_cases h : a.1 = b.1
  ·rw [if_neg (by simpa using h), if_neg (by simpa using h.symm)]; exact lexBy_anti ord_Pr _ _
  ·rw [if_pos (show a.1 ≠ b.1 from h), if_pos (show b.1 ≠ a.1 from fun e => h e.symm)]
   split <;> split <;> omega
 ·unfold cmpCl at *
  by_cases e1 : a.1 = b.1
  ·by_cases e2 : b.1 = c.1
   ·rw [if_neg (by simpa using e1)] at h1
    rw [if_neg (by simpa using e2)] at h2
    rw [if_neg (by simpa using e1.trans e2)]
    exact lexBy_trans ord_Pr _ _ _ h1 h2
   ·rw [if_pos (by simpa using e2)] at h2
    rw [e1, if_pos (show b.1 ≠ c.1 from e2)]
    exact h2
  ·rw [if_pos (by simpa using e1)] at h1
   by_cases e2 : b.1 = c.1
   ·rw [<- e2, if_pos (show a.1 ≠ b.1 from e1)]
    exact h1
   ·rw [if_pos (by simpa using e2)] at h2
    have p1 : a.1 < b.1 := by split at h1 <;> omega
    have p2 : b.1 < c.1 := by split at h2 <;> omega
    rw [if_pos (show a.1 ≠ c.1 by omega), if_pos (by omega)]; omega
theorem cmpCl_le {a b c : ClD} (h1 : cmpCl a b <= 0) (h2 : cmpCl b c <= 0) : cmpCl a c <= 0 := by
 by_cases e1 : cmpCl a b = 0
 ·rw [(ord_Cl.zero _ _).1 e1]; exact h2
 ·by_cases e2 : cmpCl b c = 0
  ·rw [<- (ord_Cl.zero _ _).1 e2]; exact h1
  ·have := ord_Cl.trans a b c (by omega) (by omega); omega
theorem cmpCl_total (a b : ClD) : cmpCl a b <= 0 \/ cmpCl b a <= 0 := by
 have := ord_Cl.anti a b
 omega
def AscLC (l : List ClD) : Prop := l.Pairwise fun x y => cmpCl x y <= 0
theorem asc_oneC {l l' : List ClD} (h : AscLC l) (h' : AscLC l') (hp : l.Perm l') : l = l' :=
 List.Perm.eq_of_pairwise (fun a b _ _ h1 h2 => (ord_Cl.zero _ _).1 (by have := ord_Cl.anti a b; omega)) h h' hp
def ascFC (l : List ClD) : List ClD := l.mergeSort fun x y => decide (cmpCl x y <= 0)
theorem asc_permC (l : List ClD) : (ascFC l).Perm l := List.mergeSort_perm _ _
theorem asc_ascC (l : List ClD) : AscLC (ascFC l) := by
 have := List.pairwise_mergeSort (le := fun x y => decide (cmpCl x y <= 0)) (fun a b c h1 h2 => by
  simp only [decide_eq_true_eq] at *; exact cmpCl_le h1 h2) (fun a b => by
  rcases cmpCl_total a b with h | h <;> simp [h]) l
 exact this.imp fun h => by simpa using h
theorem asc_eqC {l l' : List ClD} (h : AscLC l') (hp : l'.Perm l) : l' = ascFC l := asc_oneC h (asc_ascC l) (hp.trans (asc_permC l).symm)
theorem bang_setRC {l : List ClD} {q j : Nat} {x : ClD} (h : q < l.length) : (l.set q x)[j]! = if j = q then x else l[j]! := by
 by_cases hj : j < l.length
 ·rw [getElem!_pos _ j (by rw [List.length_set]; exact hj), getElem!_pos l j hj, List.getElem_set]
  by_cases e : q = j
  ·subst e; simp
  ·rw [if_neg e, if_neg (fun h => e h.symm)]
 ·rw [getElem!_neg _ j (by rw [List.length_set]; exact hj), getElem!_neg l j hj, if_neg (by omega)]
def swapRC (l : List ClD) (j : Nat) : List ClD := (l.set (j + 1) l[j]!).set j l[j + 1]!
theorem swapR_lenC (l : List ClD) (j : Nat) : (swapRC l j).length = l.length := by simp [swapRC]
theorem swapR_atC {l : List ClD} {j k : Nat} (h : j + 1 < l.length) : (swapRC l j)[k]! = if k = j then l[j + 1]! else if k = j + 1 then l[j]! else l[k]! := by
 unfold swapRC
 rw [bang_setRC (by rw [List.length_set]; omega), bang_setRC h]
theorem swapR_permC {l : List ClD} {j : Nat} (h : j + 1 < l.length) : (swapRC l j).Perm l := by
 unfold swapRC
 rw [getElem!_pos l j (by omega), getElem!_pos l (j + 1) h]
 exact List.set_set_perm h (by omega)
structure SinkRC (l D : List ClD) (i j : Nat) : Prop where
 perm : D.Perm l
 ji : j <= i
 ord : ∀ p q, p < q -> q <= i -> q ≠ j -> cmpCl D[p]! D[q]! <= 0
theorem SinkRC.len {l D : List ClD} {i j : Nat} (h : SinkRC l D i j) : D.length = l.length := h.perm.length_eq
theorem SinkRC.step {l D : List ClD} {i j : Nat} (h : SinkRC l D i (j + 1)) (hi : i < l.length) (hc : cmpCl D[j + 1]! D[j]! < 0) : SinkRC l (swapRC D j) i j := by
 have hji := h.ji
 have hl : j + 1 < D.length := by rw [h.len]; omega
 refine ⟨(swapR_permC hl).trans h.perm, by omega, fun p q hpq hqi hqj => ?_⟩
 rw [swapR_atC hl, swapR_atC hl, if_neg hqj]
 by_cases e1 : q = j + 1
 ·rw [if_pos e1]
  by_cases e2 : p = j
  ·rw [if_pos e2]; omega
  ·rw [if_neg e2, if_neg (by omega)]
   exact h.ord p j (by omega) (by omega) (by omega)
 ·rw [if_neg e1]
  by_cases e2 : p = j
  ·rw [if_pos e2]
   exact h.ord (j + 1) q (by omega) hqi e1
  ·rw [if_neg e2]
   by_cases e3 : p = j + 1
   ·rw [if_pos e3]
    exact h.ord j q (by omega) hqi e1
   ·rw [if_neg e3]
    exact h.ord p q hpq hqi e1
theorem SinkRC.stop {l D : List ClD} {i j : Nat} (h : SinkRC l D i j) (hs : j = 0 \/ 0 <= cmpCl D[j]! D[j - 1]!) : ∀ p q, p < q -> q <= i -> cmpCl D[p]! D[q]! <= 0 := by
 intro p q hpq hqi
 by_cases e : q = j
 ·subst e
  have hs : 0 <= cmpCl D[q]! D[q - 1]! := hs.elim (fun h => by omega) id
  have h1 : cmpCl D[q - 1]! D[q]! <= 0 := by have := ord_Cl.anti D[q - 1]! D[q]!; omega
  by_cases e2 : p = q - 1
  ·rw [e2]; exact h1
  ·exact cmpCl_le (h.ord p (q - 1) (by omega) (by omega) (by omega)) h1
 ·exact h.ord p q hpq hqi e
theorem SinkRC.start {l D : List ClD} {i : Nat} (hp : D.Perm l) (ho : ∀ p q, p < q -> q < i -> cmpCl D[p]! D[q]! <= 0) : SinkRC l D i i :=
 ⟨hp, Nat.le_refl _, fun p q h1 h2 h3 => ho p q h1 (by omega)⟩
theorem asc_ofC {D : List ClD} (h : ∀ p q, p < q -> q < D.length -> cmpCl D[p]! D[q]! <= 0) : AscLC D := by
 unfold AscLC
 rw [List.pairwise_iff_getElem]
 intro p q hp hq hpq
 have := h p q hpq hq
 rwa [getElem!_pos D p hp, getElem!_pos D q hq] at this
end Go.AM
namespace Go.AM
open Go Go.Proofs Go.RowKit
set_option maxRecDepth 100000
set_option maxHeartbeats 8000000
theorem con_lcompareFunc (p q : List (List TmD)) (hp : ∀ x ∈ p, LenP x) (hq : ∀ x ∈ q, LenP x) (hpl : p.length <= 1000) (_hql : q.length <= 1000) : Con Tryz.prog 151 [.sl 0 1 (p.map vPr), .sl 0 1 (q.map vPr), .fn 152 []] [] fun r _ => r = vi (lexBy cmpPr p q) := by
 refine Con.intro Tryz.func151 rfl Tryz.ntmps151 Tryz.results151 (by kernel_rfl) (by simp) 0 (by simp) ?_
 simp only [go_sem]
 refine LoopK.intro (fun i : Nat => ⟨39, [(0, .sl 0 1 (p.map vPr)), (1, .sl 0 1 (q.map vPr)), (2, .fn 152 []), (11, .sl 0 1 (p.map vPr)), (12, vi p.length), (13, vi i)], []⟩)
  (fun i => p.length - i) (fun i => i <= p.length /\ i <= q.length /\ lexBy cmpPr p q = lexBy cmpPr (p.drop i) (q.drop i)) 0 ⟨Nat.zero_le _, Nat.zero_le _, rfl⟩ ?_ ?_
 ·simp only [go_sem]
 rintro i ⟨hi, hi2, he⟩
 have hwi : IntKind.i64.wrap (i + 1) = i + 1 := wrap_in (by omega) (by omega)
 by_cases h : i < p.length
 case neg =>
  have ep : p.drop i = [] := List.drop_eq_nil_of_le (by omega)
  rw [ep] at he
  by_cases hlt : p.length < q.length
  ·rw [List.drop_eq_getElem_cons (show i < q.length by omega)] at he
   simp only [go_sem, h, hlt, List.length_map]
   rw [he]; rfl
  ·rw [List.drop_eq_nil_of_le (show q.length <= i by omega)] at he
   simp only [go_sem, h, hlt, List.length_map]
   rw [he]; rfl
 have hg := getPr h
 by_cases h2 : i < q.length
 case neg =>
  have h2' : q.length <= i := by omega
  rw [List.drop_eq_getElem_cons h, List.drop_eq_nil_of_le h2'] at he
  simp only [go_sem, h, hg, h2', List.length_map]
  rw [he]; rfl
 have h2' : ¬ q.length <= i := by omega
 have hg2 := getPr h2
 have co := con_xCompare p[i]! q[i]! (hp _ (mem_bangI h)) (hq _ (mem_bangI h2))
 simp only [vPr] at co
 simp only [go_sem, h, hg, h2, h2', hg2, List.length_map]
 refine CallU.free co (by simp only [go_sem]) (by simp only [go_sem]) ?_
 rintro r bx rfl
 by_cases hz : cmpPr p[i]! q[i]! = 0
 ·have hz' : (cmpPr p[i]! q[i]! != 0) = false := by rw [hz]; rfl
  simp only [go_sem, hz', hwi]
  refine roundK.intro (i + 1) ⟨by omega, by omega, by rw [he, lexBy_dropP p q i h h2 hz]⟩ (by omega) ?_
  simp only [go_sem]
 ·have hz' : (cmpPr p[i]! q[i]! != 0) = true := bne_iff_ne.2 hz
  rw [List.drop_eq_getElem_cons h, List.drop_eq_getElem_cons h2, lexBy, <- getElem!_pos p i h, <- getElem!_pos q i h2, if_pos hz] at he
  simp only [go_sem, hz', he]
structure CmpC (a : ClD) : Prop where
 ws : ∀ p ∈ a.2, LenP p
 len : a.2.length <= 1000
theorem con_lcompare (a b : ClD) (ha : CmpC a) (hb : CmpC b) : Con Tryz.prog 96 [vCP a, vCP b] [] fun r _ => r = vi (cmpCl a b) := by
 refine Con.intro Tryz.func96 rfl Tryz.ntmps96 Tryz.results96 (by kernel_rfl) (by simp) 0 (by simp) ?_
 have hc := con_lcompareFunc a.2 b.2 ha.ws hb.ws ha.len hb.len
 have co := con_or [ordI a.1 b.1, lexBy cmpPr a.2 b.2] (by simp)
 simp only [vs, List.map_cons, List.map_nil] at co
 simp only [go_sem, vCP, vCl]
 refine DrawK.walk 10 mixed (by kernel_rfl) ?_
 simp only [go_sem]
 refine CallY.mk (con_cmpI a.1 b.1) (by simp only [go_sem]) (by simp only [go_sem]) (.inl (by simp only [go_sem])) ?_
 simp only [go_sem]
 refine CallY.mk hc (by simp only [go_sem]) (by simp only [go_sem]) (.inl (by simp only [go_sem])) ?_
 simp only [go_sem]
 refine CallU.freeze co (by simp only [go_sem]) (by simp only [go_sem]) ?_
 rintro r bx rfl
 simp only [go_sem]
 congr 2
 unfold cmpCl orF ordI
 by_cases h1 : a.1 = b.1
 ·rw [if_neg (show ¬ (a.1 ≠ b.1) by simpa using h1)]
  by_cases h2 : lexBy cmpPr a.2 b.2 = 0
  ·simp [h1, h2]
  ·simp [h1, h2]
 ·rw [if_pos h1]
  by_cases h2 : a.1 < b.1
  ·simp [h2]
  ·simp [h2, show b.1 < a.1 by omega]
theorem vCP_eq (x : ClD) : vCP x = AV.ag [vi x.1, .sl 0 1 (x.2.map vPr)] := rfl
theorem mod_Cl {D : List ClD} {q : Nat} {x : ClD} (h : q < D.length) : (D.map vCP).modify q (updElem 0 [.sc (.int .i64 x.1), .sl 0 1 (x.2.map vPr)]) = (D.set q x).map vCP := by
 apply List.ext_getElem?
 intro j
 rw [List.getElem?_modify, List.getElem?_map, List.getElem?_map, List.getElem?_set]
 by_cases e : q = j
 ·subst e; simp [h, vCP, vCl, updElem]; rfl
 ·simp [e]
def insSCt : Tr := .front 0 (.front 1 (.front 2 (.front 3 (.front 5 (.front 6 (.front 10 (.front 11 (.front 12 (.alt (.one 4 (.alt (.one 7 (.front 8 (.alt (.one 9 (.one 13 (.front 14 (.one 15 (.front 16 (.one 17 .done)))))) (.one 13 (.one 9 (.front 14 (.one 15 (.front 16 (.one 17 .done))))))))) (.one 13 (.one 7 (.front 8 (.one 9 (.front 14 (.one 15 (.front 16 (.one 17 .done)))))))))) (.alt (.one 7 (.front 8 (.alt (.one 4 (.alt (.one 9 (.one 13 (.front 14 (.one 15 (.front 16 (.one 17 .done)))))) (.one 13 (.one 9 (.front 14 (.one 15 (.front 16 (.one 17 .done)))))))) (.alt (.one 9 (.alt (.one 4 (.one 13 (.front 14 (.one 15 (.front 16 (.one 17 .done)))))) (.one 13 (.front 14 (.alt (.one 4 (.one 15 (.front 16 (.one 17 .done)))) (.one 15 (.one 4 (.front 16 (.one 17 .done))))))))) (.one 13 (.alt (.one 4 (.one 9 (.front 14 (.one 15 (.front 16 (.one 17 .done)))))) (.one 9 (.front 14 (.alt (.one 4 (.one 15 (.front 16 (.one 17 .done)))) (.one 15 (.one 4 (.front 16 (.one 17 .done))))))))))))) (.one 13 (.alt (.one 4 (.one 7 (.front 8 (.one 9 (.front 14 (.one 15 (.front 16 (.one 17 .done)))))))) (.one 7 (.front 8 (.alt (.one 4 (.one 9 (.front 14 (.one 15 (.front 16 (.one 17 .done)))))) (.one 9 (.front 14 (.alt (.one 4 (.one 15 (.front 16 (.one 17 .done)))) (.one 15 (.one 4 (.front 16 (.one 17 .done))))))))))))))))))))))
theorem conw_insertC (l : List ClD) (h0 : 0 < l.length) (hl : l.length <= 12) (hr : ∀ x ∈ l, CmpC x) :
  ConW Tryz.prog 227 [.sl 2 2 (l.map vCP), vi 0, vi l.length, .fn 96 []] fun r ys => r = .tup [] /\ ys = [.sl 2 2 ((ascFC l).map vCP), vi 0, vi l.length, .fn 96 []] := by
 refine ConW.intro Tryz.func227 rfl Tryz.ntmps227 Tryz.results227 (by kernel_rfl) (by simp) ?_
 have w1 : IntKind.i64.wrap 1 = 1 := wrap_in (by omega) (by omega)
 simp only [go_sem, w1]
 refine LoopK.intro (fun p : Nat × List ClD => ⟨53, [(0, .sl 2 2 (p.2.map vCP)), (1, vi 0), (2, vi l.length), (3, .fn 96 []), (8, vi p.1)], [[.sl 2 2 (p.2.map vCP), vi 0, vi l.length, .fn 96 []]]⟩)
  (fun p => l.length - p.1) (fun p => 1 <= p.1 /\ p.1 <= l.length /\ p.2.Perm l /\ ∀ i j, i < j -> j < p.1 -> cmpCl p.2[i]! p.2[j]! <= 0) (1, l) ⟨by show 1 <= 1; omega, by show 1 <= l.length; omega, List.Perm.refl _, fun i j h1 h2 => by simp only at h2; omega⟩ ?_ ?_
 ·simp only [go_sem]
 rintro ⟨i, D⟩ ⟨g1, g2, g3, g4⟩
 simp only at g1 g2 g3 g4
 have hDl := g3.length_eq
 by_cases hi : i < l.length
 case neg =>
  have hil : i = l.length := by omega
  have hasc : D = ascFC l := asc_eqC (asc_ofC fun p q h1 h2 => g4 p q h1 (by omega)) g3
  simp only [go_sem, hi, hasc]
 have hw : IntKind.i64.wrap (i + 1) = i + 1 := wrap_in (by omega) (by omega)
 simp only [go_sem, hi]
 refine LoopK.intro (fun p : Nat × List ClD => ⟨53, [(0, .sl 2 2 (p.2.map vCP)), (1, vi 0), (2, vi l.length), (3, .fn 96 []), (8, vi i), (9, vi p.1)], [[.sl 2 2 (p.2.map vCP), vi 0, vi l.length, .fn 96 []]]⟩)
  (fun p => p.1) (fun p => SinkRC l p.2 i p.1) (i, D) (SinkRC.start g3 g4) ?_ ?_
 ·simp only [go_sem]
 rintro ⟨j, D2⟩ hS
 simp only at hS
 have hl2 := hS.len
 have hji := hS.ji
 simp only [go_sem]
 refine DrawK.walk 17 mixed (by kernel_rfl) ?_
 cases j with
 | zero =>
  have hz : ¬ (0 : Int) < ((0 : Nat) : Int) := by omega
  simp only [go_sem, hw]
  refine roundK.intro (i + 1, D2) ⟨by show 1 <= i + 1; omega, by show i + 1 <= l.length; omega, hS.perm, fun p q h1 h2 => hS.stop (.inl rfl) p q h1 (by simp only at h2; omega)⟩ (by show l.length - (i + 1) < l.length - i; omega) ?_
  simp only [go_sem]
 | succ k =>
  have h1 : k + 1 < D2.length := by omega
  have h2 : k < D2.length := by omega
  have hz : (0 : Int) < (k : Int) + 1 := by omega
  have hwk : IntKind.i64.wrap ((k : Int) + 1 - 1) = (k : Int) := by rw [wrap_in (by omega) (by omega)]; omega
  have ht : ((k : Int) + 1).toNat = k + 1 := by omega
  have hnn : (0 : Int) <= (k : Int) + 1 := by omega
  have hq : (k : Int) + 1 < (D2.length : Int) := by omega
  have q1 := getCl h1
  have q2 := getCl h2
  have hc := con_lcompare D2[k + 1]! D2[k]! (hr _ (hS.perm.subset (memCl h1))) (hr _ (hS.perm.subset (memCl h2)))
  simp only [vCP_eq] at hc
  simp only [go_sem, hz, hwk, ht, hnn, hq, h2, q1, q2]
  refine CallY.mk hc (by simp only [go_sem]) (by simp only [go_sem]) (.inl (by simp only [go_sem])) ?_
  by_cases hneg : cmpCl D2[k + 1]! D2[k]! < 0
  ·have sl := swapR_lenC D2 k
   have hs1 := mod_Cl (x := D2[k]!) h1
   have hs2 := mod_Cl (D := D2.set (k + 1) D2[k]!) (x := D2[k + 1]!) (q := k) (by rw [List.length_set]; exact h2)
   have hsw : (D2.set (k + 1) D2[k]!).set k D2[k + 1]! = swapRC D2 k := rfl
   rw [hsw] at hs2
   simp only [go_sem, hneg]
   refine DrawK.meet ⟨53, [(0, .sl 2 2 ((swapRC D2 k).map vCP)), (1, vi 0), (2, vi l.length), (3, .fn 96 []), (8, vi i), (9, vi ((k : Int) + 1))], [[.sl 2 2 ((swapRC D2 k).map vCP), vi 0, vi l.length, .fn 96 []]]⟩ ?_ ?_
   ·refine DrawK.tree insSCt mixed (by kernel_rfl) ?_
    unfold insSCt
    repeat' (first | with_reducible apply andK_mk | exact trivial | simp only [go_sem, hwk, ht, hnn, hq, h2, q1, q2, hs1, hs2, List.length_set, List.length_map])
   ·simp only [go_sem, hwk]
    refine roundK.intro (k, swapRC D2 k) (hS.step (by omega) hneg) (by show k < k + 1; omega) ?_
    simp only [go_sem]
  ·simp only [go_sem, hneg, hw]
   refine roundK.intro (i + 1, D2) ⟨by show 1 <= i + 1; omega, by show i + 1 <= l.length; omega, hS.perm, fun p q h1 h2 => hS.stop (.inr (by simp only [Nat.add_sub_cancel]; omega)) p q h1 (by simp only at h2; omega)⟩ (by show l.length - (i + 1) < l.length - i; omega) ?_
   simp only [go_sem]
theorem conw_pdqC (l : List ClD) (h0 : 0 < l.length) (hl : l.length <= 12) (hr : ∀ x ∈ l, CmpC x) (v : Int) :
  ConW Tryz.prog 148 [.sl 2 2 (l.map vCP), vi 0, vi l.length, vi v, .fn 96 []] fun r ys => r = .tup [] /\ ys = [.sl 2 2 ((ascFC l).map vCP), vi 0, vi l.length, vi v, .fn 96 []] := by
 refine ConW.intro Tryz.func148 rfl Tryz.ntmps148 Tryz.results148 (by kernel_rfl) (by simp) ?_
 simp only [go_sem]
 refine LoopK.intro (fun _ : Unit => ⟨148, [(0, .sl 2 2 (l.map vCP)), (1, vi 0), (2, vi l.length), (3, vi v), (4, .fn 96 [])], [[.sl 2 2 (l.map vCP), vi 0, vi l.length, vi v, .fn 96 []]]⟩) (fun _ => 0) (fun _ => True) () trivial ?_ ?_
 ·simp only [go_sem]
 rintro ⟨⟩ _
 have hw : IntKind.i64.wrap ((l.length : Int) - 0) = l.length := by rw [wrap_in (by omega) (by omega)]; omega
 have h12 : (l.length : Int) <= 12 := by omega
 simp only [go_sem, hw, h12]
 refine CallU.back (conw_insertC l h0 hl hr) (by simp only [go_sem]) (by simp only [go_sem]) ?_
 rintro r ys ⟨rfl, rfl⟩
 simp only [go_sem]
 have := (asc_permC l).length_eq
 simpa [this] using h0
theorem conw_sortC (l : List ClD) (h0 : 0 < l.length) (hl : l.length <= 12) (hr : ∀ x ∈ l, CmpC x) :
  ConW Tryz.prog 95 [.sl 2 2 (l.map vCP), .fn 96 []] fun r ys => r = .tup [] /\ ys = [.sl 2 2 ((ascFC l).map vCP), .fn 96 []] := by
 refine ConW.intro Tryz.func95 rfl Tryz.ntmps95 Tryz.results95 (by kernel_rfl) (by simp) ?_
 have w2 : IntKind.u64.wrap (l.length : Int) = l.length := by rw [IntKind.wrap_u64]; omega
 have hc := con_lenS l.length hl
 simp only [vqC] at hc
 simp only [go_sem, w2]
 refine CallU.free hc (by simp only [go_sem]) (by simp only [go_sem]) ?_
 rintro r bx ⟨v, rfl⟩
 simp only [go_sem]
 refine CallU.back (conw_pdqC l h0 hl hr v) (by simp only [go_sem]) (by simp only [go_sem]) ?_
 rintro r ys ⟨rfl, rfl⟩
 simp only [go_sem]
 have := (asc_permC l).length_eq
 simpa [this] using h0
end Go.AM
namespace Go.Proofs
open Go.Shelf
set_option maxRecDepth 100000
def Tryz.laysSort_ren : Go.Shelf.Ren := ⟨fun | 189 => 86 | 125 => 138 | 257 => 137 | 128 => 218 | 129 => 219 | 294 => 209 | 295 => 210 | 296 => 211 | 297 => 212 | 298 => 213 | 299 => 214 | 216 => 215 | 300 => 216 | 301 => 217 | 328 => 285 | 329 => 286 | 330 => 287 | 331 => 288 | 332 => 289 | 215 => 235 | 343 => 331 | n => n, fun | 28 => 27 | 3 => 3 | 46 => 165 | 0 => 0 | 51 => 222 | 53 => 224 | 4 => 4 | 183 => 214 | 182 => 213 | 131 => 219 | 5 => 5 | 9 => 9 | 218 => 261 | 222 => 265 | 228 => 289 | 229 => 290 | n => n, fun | n => n⟩
theorem Tryz.laysSort : Go.Proofs.Lays.n189 Tryz.prog Tryz.laysSort_ren where
 mixed := by kernel_rfl
 f125 := Tryz.func138.trans (congrArg some (by kernel_rfl))
 f128 := Tryz.func218.trans (congrArg some (by kernel_rfl))
 f129 := Tryz.func219.trans (congrArg some (by kernel_rfl))
 f189 := Tryz.func86.trans (congrArg some (by kernel_rfl))
 f215 := Tryz.func235.trans (congrArg some (by kernel_rfl))
 f216 := Tryz.func215.trans (congrArg some (by kernel_rfl))
 f257 := Tryz.func137.trans (congrArg some (by kernel_rfl))
 f294 := Tryz.func209.trans (congrArg some (by kernel_rfl))
 f295 := Tryz.func210.trans (congrArg some (by kernel_rfl))
 f296 := Tryz.func211.trans (congrArg some (by kernel_rfl))
 f297 := Tryz.func212.trans (congrArg some (by kernel_rfl))
 f298 := Tryz.func213.trans (congrArg some (by kernel_rfl))
 f299 := Tryz.func214.trans (congrArg some (by kernel_rfl))
 f300 := Tryz.func216.trans (congrArg some (by kernel_rfl))
 f301 := Tryz.func217.trans (congrArg some (by kernel_rfl))
 f328 := Tryz.func285.trans (congrArg some (by kernel_rfl))
 f329 := Tryz.func286.trans (congrArg some (by kernel_rfl))
 f330 := Tryz.func287.trans (congrArg some (by kernel_rfl))
 f331 := Tryz.func288.trans (congrArg some (by kernel_rfl))
 f332 := Tryz.func289.trans (congrArg some (by kernel_rfl))
 f343 := Tryz.func331.trans (congrArg some (by kernel_rfl))
 t0 := Tryz.underlying0
 a0 := Tryz.isAgg0
 z0 := Tryz.sizeOf0
 v0 := Tryz.zeroValue0
 t3 := Tryz.underlying3
 a3 := Tryz.isAgg3
 z3 := Tryz.sizeOf3
 v3 := Tryz.zeroValue3
 t4 := Tryz.underlying4
 a4 := Tryz.isAgg4
 z4 := Tryz.sizeOf4
 v4 := Tryz.zeroValue4
 t5 := Tryz.underlying5
 a5 := Tryz.isAgg5
 z5 := Tryz.sizeOf5
 v5 := Tryz.zeroValue5
 t9 := Tryz.underlying9
 a9 := Tryz.isAgg9
 z9 := Tryz.sizeOf9
 v9 := Tryz.zeroValue9
 t28 := Tryz.underlying27
 a28 := Tryz.isAgg27
 z28 := Tryz.sizeOf27
 v28 := Tryz.zeroValue27
 t46 := Tryz.underlying165
 a46 := Tryz.isAgg165
 z46 := Tryz.sizeOf165
 v46 := Tryz.zeroValue165
 t51 := Tryz.underlying222
 a51 := Tryz.isAgg222
 z51 := Tryz.sizeOf222
 v51 := Tryz.zeroValue222
 t53 := Tryz.underlying224
 a53 := Tryz.isAgg224
 z53 := Tryz.sizeOf224
 v53 := Tryz.zeroValue224
 t131 := Tryz.underlying219
 a131 := Tryz.isAgg219
 z131 := Tryz.sizeOf219
 v131 := Tryz.zeroValue219
 t182 := Tryz.underlying213
 a182 := Tryz.isAgg213
 z182 := Tryz.sizeOf213
 v182 := Tryz.zeroValue213
 t183 := Tryz.underlying214
 a183 := Tryz.isAgg214
 z183 := Tryz.sizeOf214
 v183 := Tryz.zeroValue214
 t218 := Tryz.underlying261
 a218 := Tryz.isAgg261
 z218 := Tryz.sizeOf261
 v218 := Tryz.zeroValue261
 t222 := Tryz.underlying265
 a222 := Tryz.isAgg265
 z222 := Tryz.sizeOf265
 v222 := Tryz.zeroValue265
 t228 := Tryz.underlying289
 a228 := Tryz.isAgg289
 z228 := Tryz.sizeOf289
 v228 := Tryz.zeroValue289
 t229 := Tryz.underlying290
 a229 := Tryz.isAgg290
 z229 := Tryz.sizeOf290
 v229 := Tryz.zeroValue290
end Go.Proofs
namespace Go.AM
open Go Go.Proofs Go.RowKit
theorem callable_pdq : Callable Tryz.prog 137 := ⟨_, Tryz.func137, by kernel_rfl, by kernel_rfl⟩
theorem callable_len : Callable Tryz.prog 138 := ⟨_, Tryz.func138, by kernel_rfl, by kernel_rfl⟩
theorem con_llen (n : Nat) (hn : n < 4611686018427387904) : Con Tryz.prog 138 [.sc (.int .u64 n)] [] fun r _ => r = vi (Go.Sort.bitsLen n : Nat) := con_bitsLen Tryz.laysSort callable_len n hn
theorem conw_lpdq (l : List Int) (h0 : 0 < l.length) (hl : l.length < 4611686018427387904) :
  ConW Tryz.prog 137 [.sl 2 1 (l.map vi), vi 0, vi l.length, vi (Go.Sort.bitsLen l.length : Nat)] fun r ys => r = .tup [] /\ ys = [.sl 2 1 ((sortI l).map vi), vi 0, vi l.length, vi (Go.Sort.bitsLen l.length : Nat)] := conw_pdq Tryz.laysSort callable_pdq l h0 hl
theorem conw_lsort (l : List Int) (h0 : 0 < l.length) (hl : l.length < 4611686018427387904) :
  ConW Tryz.prog 86 [.sl 2 1 (l.map vi)] fun r ys => r = .tup [] /\ ys = [.sl 2 1 ((sortI l).map vi)] := by
 refine ConW.intro Tryz.func86 rfl Tryz.ntmps86 Tryz.results86 (by kernel_rfl) (by simp) ?_
 have w2 : IntKind.u64.wrap (l.length : Int) = l.length := by rw [IntKind.wrap_u64]; omega
 simp only [go_sem, w2]
 refine CallU.free (con_llen l.length hl) (by simp only [go_sem]) (by simp only [go_sem]) ?_
 rintro r bx rfl
 simp only [go_sem]
 refine CallU.back (conw_lpdq l h0 hl) (by simp only [go_sem]) (by simp only [go_sem]) ?_
 rintro r ys ⟨rfl, rfl⟩
 simp only [go_sem]
 simpa using h0
end Go.AM
namespace Go.AM
open Go Go.Proofs Go.RowKit
def rowsA (t : Nat) (M : List (List Int)) : List AV := M.mapIdx fun i r => .sl (subT t i) 1 (r.map vi)
def vt (t : Nat) (M : List (List Int)) : AV := .so t (rowsA t M)
attribute [go_sem] vt
@[go_sem] theorem rowsA_len {t : Nat} {M : List (List Int)} : (rowsA t M).length = M.length := by simp [rowsA]
theorem rowsA_at {t i : Nat} {M : List (List Int)} : (rowsA t M)[i]? = (M[i]?).map fun r => .sl (subT t i) 1 (r.map vi) := by simp [rowsA, List.getElem?_mapIdx]
theorem gett {t i : Nat} {M : List (List Int)} (h : i < M.length) : (rowsA t M)[i]? = some (.sl (subT t i) 1 (M[i]!.map vi)) := by rw [rowsA_at]; simp [h]
@[go_sem] theorem rowsA_nil {t : Nat} : rowsA t [] = [] := rfl
theorem rowsA_ext {t : Nat} {M : List (List Int)} {l : List AV} (hl : l.length = M.length) (h : ∀ i, i < M.length -> l[i]? = some (.sl (subT t i) 1 (M[i]!.map vi))) : l = rowsA t M := by
 apply List.ext_getElem?
 intro i
 by_cases hi : i < M.length
 ·rw [h i hi, gett hi]
 ·rw [List.getElem?_eq_none (by omega), List.getElem?_eq_none (by rw [rowsA_len]; omega)]
theorem rowsA_frz {t : Nat} {M : List (List Int)} {f : AV -> AV} (h : ∀ i r, f (.sl (subT t i) 1 (List.map vi r)) = .sl 0 1 (List.map vi r)) : (rowsA t M).map f = M.map (vs 0) := by
 apply List.ext_getElem?
 intro j
 rw [List.getElem?_map, rowsA_at, List.getElem?_map]
 cases M[j]? with
 | none => rfl
 | some r => simp [h, vs]
theorem rowsA_freeze {t : Nat} {p : Nat -> Bool} {M : List (List Int)} (h : p (root t) = true) : (rowsA t M).map (freezeRow p) = M.map (vs 0) := rowsA_frz fun i r => by simp only [freezeRow, sub_two, root_sub, h, and_self, if_true]
@[go_sem] theorem rowsA_freezeT {t : Nat} {M : List (List Int)} : (rowsA t M).map (freezeRow fun _ => true) = M.map (vs 0) := rowsA_freeze rfl
theorem rowsA_killset {t i : Nat} {M : List (List Int)} {r : List Int} : ((rowsA t M).map (killRow (subT t i))).set i (.sl (subT t i) 1 (r.map vi)) = rowsA t (M.set i r) := by
 refine rowsA_ext (by simp [rowsA_len]) fun j hj => ?_
 rw [List.length_set] at hj
 rw [List.getElem?_set]
 by_cases h : i = j
 ·subst h
  rw [if_pos rfl, if_pos (by simp [rowsA_len]; exact hj)]
  simp [hj]
 ·rw [if_neg h, List.getElem?_map, gett hj, Option.map_some]
  simp only [killRow, sub_sub, true_and, if_neg (Ne.symm h)]
  rw [getElem!_pos M j hj, getElem!_pos (M.set i r) j (by simpa using hj), List.getElem_set_ne h]
theorem rowsLe_nils {t n : Nat} : rowsLe (root t) (List.replicate n .nil) (rowsA t (List.replicate n [])) := by
 refine ⟨by simp [rowsA_len], fun j x y hx hy => ?_⟩
 have hj : j < n := by have := (List.getElem?_eq_some_iff.1 hx).1; simpa using this
 rw [gett (by simpa using hj)] at hy
 simp only [Option.some.injEq] at hy
 simp [hj] at hx
 subst hx; subst hy
 have e : (List.replicate n ([] : List Int))[j]! = [] := by rw [getElem!_pos _ _ (by simpa using hj)]; simp
 rw [e]
 exact ⟨rfl, .inr (.inr ⟨rfl, subT t j, 1, by have := sub_big t j; omega, root_sub t j, rfl⟩)⟩
set_option maxRecDepth 100000
theorem conc_lcompact (l : List Int) (hl : l.length <= 1000000000000) : ConC Tryz.prog 88 [.sl 2 1 (l.map vi)] fun r => r = .sl 2 1 ((uniq l).map vi) := by
 refine ConC.intro Tryz.func88 rfl Tryz.ntmps88 Tryz.results88 (by kernel_rfl) (by simp) ?_
 by_cases h : (l.length : Int) < 2
 ·have e := uniq_short (l := l) (by omega)
  simp only [go_sem, h, e]
 simp only [go_sem, h]
 refine LoopK.intro (fun k : Nat => ⟨61, [(0, .sl 2 1 (l.map vi)), (3, .sc (.int .i64 k))], []⟩) (fun k => l.length - k) (fun k => 1 <= k /\ k <= l.length /\ ∀ j, j < k -> keepsL l j = true) 1 ⟨by omega, by omega, keeps_one⟩ ?_ ?_
 ·simp only [go_sem]
 rintro k ⟨h1, h2, hall⟩
 by_cases hk : k < l.length
 case neg =>
  obtain rfl : k = l.length := by omega
  have e : uniq l = l := by unfold uniq; rw [upTo_all h2 hall, List.take_length]
  simp only [go_sem, hk, e]
 have hw : IntKind.i64.wrap (k + 1) = k + 1 := wrap_in (by omega) (by omega)
 have hw2 : IntKind.i64.wrap ((k : Int) - 1) = (k - 1 : Nat) := by rw [wrap_in (by omega) (by omega)]; omega
 have hk2 : k - 1 < l.length := by omega
 have g1 := getv hk
 have g2 := getv hk2
 by_cases hne : l[k]! = l[k - 1]!
 case neg =>
  have hne' : (l[k]! == l[k - 1]!) = false := by simpa using hne
  simp only [go_sem, hk]
  refine DrawK.walk 10 mixed (by kernel_rfl) ?_
  simp only [go_sem, hk, g1, g2, hw2, hk2, hne', hw]
  refine roundK.intro (k + 1) ⟨by omega, by omega, fun j hj => ?_⟩ (by omega) ?_
  ·by_cases hjk : j = k
   ·subst hjk; unfold keepsL; rw [decide_eq_true (p := l[j]! ≠ l[j - 1]!) hne, Bool.or_true]
   ·exact hall j (by omega)
  ·simp only [go_sem]
 have hne' : (l[k]! == l[k - 1]!) = true := by simpa using hne
 simp only [go_sem, hk]
 refine DrawK.walk 10 mixed (by kernel_rfl) ?_
 simp only [go_sem, hk, g1, g2, hw2, hk2, hne']
 have e0 : upTo l (k + 1) = l.take k := by
  have h0 : keepsL l k = false := by unfold keepsL; rw [decide_eq_false (p := l[k]! ≠ l[k - 1]!) (by simpa using hne), decide_eq_false (by omega)]; rfl
  rw [upTo_succ, h0, upTo_all h2 hall]; simp
 refine LoopK.intro (fun p : List Int × Nat × Nat => ⟨61, [(0, .sl 2 1 (p.1.map vi)), (3, .sc (.int .i64 p.2.1)), (4, .tl 2 1 (p.1.map vi) k), (5, .sc (.int .i64 p.2.2))], []⟩) (fun p => l.length - (k + p.2.2))
  (fun p => p.1.length = l.length /\ 1 <= p.2.2 /\ k + p.2.2 <= l.length /\ p.2.1 < k + p.2.2 /\ p.1.take p.2.1 = upTo l (k + p.2.2) /\ ∀ j, p.2.1 <= j -> p.1[j]! = l[j]!) (l, k, 1) ⟨rfl, Nat.le_refl 1, by show k + 1 <= l.length; omega, by show k < k + 1; omega, e0.symm, fun _ _ => rfl⟩ ?_ ?_
 ·simp only [go_sem]
 rintro ⟨Z, q, m⟩ ⟨c1, c2, c3, c4, c5, c6⟩
 simp only at c1 c2 c3 c4 c5 c6
 have hql : q < Z.length := by omega
 by_cases hm : k + m < l.length
 case neg =>
  obtain hme : m = l.length - k := by omega
  have hm1 : ¬ ((m : Int) < ((Z.length - k : Nat) : Int)) := by omega
  have e : (setSeg (Z.map vi) q (List.replicate (Z.length - q) (AV.sc (.int .i64 0)))).take q = (uniq l).map vi := by
   rw [setSeg_take, setSeg_out _ _ _ (by simp; omega), <- List.map_take, c5]
   unfold uniq; rw [show k + m = l.length by omega]
  simp only [go_sem, hm1, hql]
  exact ⟨by rw [setSeg_length, List.length_map]; omega, by rw [e]⟩
 have hm1 : (m : Int) < ((Z.length - k : Nat) : Int) := by omega
 have hz1 : k + m < Z.length := by omega
 have hz2 : k + (m - 1) < Z.length := by omega
 have gz1 := getv hz1
 have gz2 := getv hz2
 have hwm : IntKind.i64.wrap (m + 1) = m + 1 := wrap_in (by omega) (by omega)
 have hwm2 : IntKind.i64.wrap ((m : Int) - 1) = (m - 1 : Nat) := by rw [wrap_in (by omega) (by omega)]; omega
 have hwq : IntKind.i64.wrap (q + 1) = q + 1 := wrap_in (by omega) (by omega)
 have ez1 : Z[k + m]! = l[k + m]! := c6 _ (by omega)
 have ez2 : Z[k + (m - 1)]! = l[k + m - 1]! := by rw [c6 _ (by omega)]; congr 1; omega
 have hsucc : k + (m + 1) = (k + m) + 1 := by omega
 by_cases hne2 : l[k + m]! = l[k + m - 1]!
 ·have hb : (Z[k + m]! != Z[k + (m - 1)]!) = false := by rw [ez1, ez2]; simpa using hne2
  simp only [go_sem, hm1]
  refine DrawK.walk 10 mixed (by kernel_rfl) ?_
  simp only [go_sem, gz1, gz2, hwm2, hb, hwm]
  have hk0 : keepsL l (k + m) = false := by unfold keepsL; rw [decide_eq_false (p := l[k + m]! ≠ l[k + m - 1]!) (by simpa using hne2), decide_eq_false (by omega)]; rfl
  refine ⟨by omega, by omega, roundK.intro (Z, q, m + 1) ⟨c1, by show 1 <= m + 1; omega, by show k + (m + 1) <= l.length; omega, by show q < k + (m + 1); omega, ?_, c6⟩ (by show l.length - (k + (m + 1)) < l.length - (k + m); omega) ?_⟩
  ·show Z.take q = upTo l (k + (m + 1))
   rw [hsucc, upTo_succ, hk0, c5]; simp
  ·simp only [go_sem]
 ·have hb : (Z[k + m]! != Z[k + (m - 1)]!) = true := by rw [ez1, ez2]; simpa using hne2
  simp only [go_sem, hm1]
  refine DrawK.walk 10 mixed (by kernel_rfl) ?_
  simp only [go_sem, gz1, gz2, hwm2, hb, hwm, hql, hwq]
  have hk0 : keepsL l (k + m) = true := by unfold keepsL; rw [decide_eq_true (p := l[k + m]! ≠ l[k + m - 1]!) hne2, Bool.or_true]
  refine ⟨by omega, by omega, by omega, roundK.intro (Z.set q Z[k + m]!, q + 1, m + 1) ⟨by show (Z.set q Z[k + m]!).length = l.length; rw [List.length_set]; exact c1, by show 1 <= m + 1; omega, by show k + (m + 1) <= l.length; omega, by show q + 1 < k + (m + 1); omega, ?_, fun j hj => ?_⟩ (by show l.length - (k + (m + 1)) < l.length - (k + m); omega) ?_⟩
  ·show (Z.set q Z[k + m]!).take (q + 1) = upTo l (k + (m + 1))
   rw [hsucc, upTo_succ, hk0, <- c5, ez1, take_snoc (by rw [List.length_set]; exact hql)]
   rw [if_pos rfl, List.take_set_of_le (Nat.le_refl q), getElem!_pos (Z.set q l[k + m]!) q (by rw [List.length_set]; exact hql), List.getElem_set_self]
  ·show (Z.set q Z[k + m]!)[j]! = l[j]!
   have hj' : q + 1 <= j := hj
   rw [<- c6 j (by omega)]
   simp only [getElem!_def, List.getElem?_set_ne (show q ≠ j by omega)]
  ·simp only [go_sem, modify_vi]
theorem uniq_mem (l : List Int) (x : Int) : x ∈ uniq l ↔ x ∈ l := by
 unfold uniq upTo
 constructor
 ·intro h
  obtain ⟨j, hj, rfl⟩ := List.mem_map.1 h
  exact mem_bangI (List.mem_range.1 (List.mem_filter.1 hj).1)
 ·intro h
  have key : ∀ j, j < l.length -> ∃ i, i <= j /\ keepsL l i = true /\ l[i]! = l[j]! := by
   intro j
   induction j with
   | zero => intro hj; exact ⟨0, Nat.le_refl _, rfl, rfl⟩
   | succ j ih =>
    intro hj
    by_cases hk : keepsL l (j + 1) = true
    ·exact ⟨j + 1, Nat.le_refl _, hk, rfl⟩
    ·obtain ⟨i, h1, h2, h3⟩ := ih (by omega)
     unfold keepsL at hk
     simp only [Nat.add_sub_cancel, Bool.or_eq_true, decide_eq_true_eq, not_or, Nat.add_one_ne_zero, not_false_eq_true, true_and, ne_eq, Decidable.not_not] at hk
     exact ⟨i, by omega, h2, by rw [h3, hk]⟩
  obtain ⟨j, hj, rfl⟩ := List.getElem_of_mem h
  obtain ⟨i, h1, h2, h3⟩ := key j hj
  rw [getElem!_pos l j hj] at h3
  rw [<- h3]
  exact List.mem_map.2 ⟨i, List.mem_filter.2 ⟨List.mem_range.2 (by omega), h2⟩, rfl⟩
theorem uniq_asc {l : List Int} (h : l.Pairwise (· <= ·)) : (uniq l).Pairwise (· < ·) := by
 unfold uniq upTo
 rw [List.pairwise_map]
 have hr : (List.range l.length).Pairwise (· < ·) := List.pairwise_lt_range
 refine (hr.filter (keepsL l)).imp_of_mem fun {a b} ha hb hab => ?_
 have hbl := List.mem_range.1 (List.mem_filter.1 hb).1
 have hbk := (List.mem_filter.1 hb).2
 have hle : ∀ i j, i < j -> j < l.length -> l[i]! <= l[j]! := fun i j hij hj => by
  rw [getElem!_pos l i (by omega), getElem!_pos l j hj]
  exact List.pairwise_iff_getElem.1 h i j (by omega) hj hij
 unfold keepsL at hbk
 have hne : l[b]! ≠ l[b - 1]! := by
  simp only [Bool.or_eq_true, decide_eq_true_eq] at hbk
  exact hbk.resolve_left (by omega)
 have h1 := hle (b - 1) b (by omega) hbl
 by_cases e : a = b - 1
 ·rw [e]; omega
 ·have h2 := hle a (b - 1) (by omega) (by omega)
  omega
theorem ascI_of : ∀ {l : List Int}, l.Pairwise (· < ·) -> ascI l = true
 | [], _ => rfl
 | [_], _ => rfl
 | a :: b :: l, h => by
  show (decide (a < b) && ascI (b :: l)) = true
  have h' := List.pairwise_cons.1 h
  rw [decide_eq_true (h'.1 b (by simp)), Bool.true_and]
  exact ascI_of h'.2
def lettersF (l : List Int) : List Int := uniq (sortI l)
theorem letters_asc (l : List Int) : ascI (lettersF l) = true := by
 refine ascI_of (uniq_asc ?_)
 have := List.pairwise_mergeSort (le := fun x y : Int => decide (x <= y)) (fun a b c h1 h2 => by simp only [decide_eq_true_eq] at *; omega) (fun a b => by simp only [Bool.or_eq_true, decide_eq_true_eq]; omega) l
 exact this.imp fun h => by simpa using h
theorem letters_mem (l : List Int) (x : Int) : x ∈ lettersF l ↔ x ∈ l := by
 unfold lettersF
 rw [uniq_mem]
 exact (List.mergeSort_perm _ _).mem_iff
theorem letters_len (l : List Int) : (lettersF l).length <= l.length := by
 unfold lettersF uniq upTo
 rw [List.length_map]
 refine Nat.le_trans (List.length_filter_le _ _) ?_
 rw [List.length_range]
 exact Nat.le_of_eq (List.mergeSort_perm _ _).length_eq
set_option maxHeartbeats 8000000
def keepsC (l : List ClD) (j : Nat) : Bool := decide (j = 0) || decide (l[j]! ≠ l[j - 1]!)
def upToC (l : List ClD) (m : Nat) : List ClD := ((List.range m).filter (keepsC l)).map fun j => l[j]!
def uniqC (l : List ClD) : List ClD := upToC l l.length
theorem upToC_succ (l : List ClD) (m : Nat) : upToC l (m + 1) = upToC l m ++ (if keepsC l m = true then [l[m]!] else []) := by
 unfold upToC
 rw [List.range_succ, List.filter_append, List.map_append]
 cases h : keepsC l m <;> simp [h]
theorem take_snocC {l : List ClD} {m : Nat} (h : m < l.length) : l.take (m + 1) = l.take m ++ [l[m]!] := by
 rw [List.take_succ_eq_append_getElem h, getElem!_pos l m h]
theorem upToC_all {l : List ClD} : ∀ {m : Nat}, m <= l.length -> (∀ j, j < m -> keepsC l j = true) -> upToC l m = l.take m
 | 0, _, _ => by simp [upToC]
 | m + 1, hm, h => by
  rw [upToC_succ, upToC_all (by omega) fun j hj => h j (by omega), h m (by omega), take_snocC (by omega)]; simp
theorem keepsC_one {l : List ClD} : ∀ j, j < 1 -> keepsC l j = true := fun j hj => by
 have : j = 0 := by omega
 subst this; rfl
theorem uniqC_short {l : List ClD} (h : l.length < 2) : uniqC l = l := by
 match l, h with
 | [], _ => rfl
 | [x], _ => rfl
theorem con_lmax1 (a b : ClD) (ha : CmpC a) (hb : CmpC b) : Con Tryz.prog 98 [vCP a, vCP b] [] fun r _ => r = vb (decide (a = b)) := by
 refine Con.intro Tryz.func98 rfl Tryz.ntmps98 Tryz.results98 (by kernel_rfl) (by simp) 0 (by simp) ?_
 have hc := con_lcompare a b ha hb
 simp only [vCP, vCl] at hc
 simp only [go_sem, vCP, vCl]
 refine CallU.free hc (by simp only [go_sem]) (by simp only [go_sem]) ?_
 rintro r bx rfl
 have e : (cmpCl a b == 0) = decide (a = b) := by
  rw [Bool.eq_iff_iff, beq_iff_eq, decide_eq_true_eq]; exact ord_Cl.zero a b
 simp only [go_sem, e]
theorem conc_lcompactF (l : List ClD) (hl : l.length <= 1000) (hr : ∀ x ∈ l, CmpC x) : ConC Tryz.prog 97 [.sl 2 2 (l.map vCP), .fn 98 []] fun r => r = .sl 2 2 ((uniqC l).map vCP) := by
 refine ConC.intro Tryz.func97 rfl Tryz.ntmps97 Tryz.results97 (by kernel_rfl) (by simp) ?_
 by_cases h : (l.length : Int) < 2
 ·have e := uniqC_short (l := l) (by omega)
  simp only [go_sem, h, e]
 simp only [go_sem, h]
 refine LoopK.intro (fun k : Nat => ⟨66, [(0, .sl 2 2 (l.map vCP)), (1, .fn 98 []), (5, .sc (.int .i64 k))], []⟩) (fun k => l.length - k) (fun k => 1 <= k /\ k <= l.length /\ ∀ j, j < k -> keepsC l j = true) 1 ⟨by omega, by omega, keepsC_one⟩ ?_ ?_
 ·simp only [go_sem]
 rintro k ⟨h1, h2, hall⟩
 by_cases hk : k < l.length
 case neg =>
  obtain rfl : k = l.length := by omega
  have e : uniqC l = l := by unfold uniqC; rw [upToC_all h2 hall, List.take_length]
  simp only [go_sem, hk, e]
 have hw : IntKind.i64.wrap (k + 1) = k + 1 := wrap_in (by omega) (by omega)
 have hw2 : IntKind.i64.wrap ((k : Int) - 1) = (k - 1 : Nat) := by rw [wrap_in (by omega) (by omega)]; omega
 have hk2 : k - 1 < l.length := by omega
 have g1 := getCl hk
 have g2 := getCl hk2
 have hc := con_lmax1 l[k]! l[k - 1]! (hr _ (memCl hk)) (hr _ (memCl hk2))
 simp only [vCP, vCl] at hc
 by_cases hne : l[k]! = l[k - 1]!
 case neg =>
  have hne' : decide (l[k]! = l[k - 1]!) = false := by simpa using hne
  rw [hne'] at hc
  simp only [go_sem, hk]
  refine DrawK.walk 11 mixed (by kernel_rfl) ?_
  simp only [go_sem, hk, g1, g2, hw2, hk2]
  refine CallY.mk hc (by simp only [go_sem]) (by simp only [go_sem]) (.inl (by simp only [go_sem])) ?_
  simp only [go_sem, hw]
  refine roundK.intro (k + 1) ⟨by omega, by omega, fun j hj => ?_⟩ (by omega) ?_
  ·by_cases hjk : j = k
   ·subst hjk; unfold keepsC; rw [decide_eq_true (p := l[j]! ≠ l[j - 1]!) hne, Bool.or_true]
   ·exact hall j (by omega)
  ·simp only [go_sem]
 have hne' : decide (l[k]! = l[k - 1]!) = true := by simpa using hne
 rw [hne'] at hc
 simp only [go_sem, hk]
 refine DrawK.walk 11 mixed (by kernel_rfl) ?_
 simp only [go_sem, hk, g1, g2, hw2, hk2]
 refine CallY.mk hc (by simp only [go_sem]) (by simp only [go_sem]) (.inl (by simp only [go_sem])) ?_
 simp only [go_sem]
 have e0 : upToC l (k + 1) = l.take k := by
  have h0 : keepsC l k = false := by unfold keepsC; rw [decide_eq_false (p := l[k]! ≠ l[k - 1]!) (by simpa using hne), decide_eq_false (by omega)]; rfl
  rw [upToC_succ, h0, upToC_all h2 hall]; simp
 refine ⟨hk, ?_⟩
 refine LoopK.intro (fun p : List ClD × Nat × Nat => ⟨66, [(0, .sl 2 2 (p.1.map vCP)), (1, .fn 98 []), (5, .sc (.int .i64 p.2.1)), (6, .tl 2 2 (p.1.map vCP) k), (7, .sc (.int .i64 p.2.2))], []⟩) (fun p => l.length - (k + p.2.2))
  (fun p => p.1.length = l.length /\ 1 <= p.2.2 /\ k + p.2.2 <= l.length /\ p.2.1 < k + p.2.2 /\ p.1.take p.2.1 = upToC l (k + p.2.2) /\ ∀ j, p.2.1 <= j -> p.1[j]! = l[j]!) (l, k, 1) ⟨rfl, Nat.le_refl 1, by show k + 1 <= l.length; omega, by show k < k + 1; omega, e0.symm, fun _ _ => rfl⟩ ?_ ?_
 ·simp only [go_sem]
 rintro ⟨Z, q, m⟩ ⟨c1, c2, c3, c4, c5, c6⟩
 simp only at c1 c2 c3 c4 c5 c6
 have hql : q < Z.length := by omega
 by_cases hm : k + m < l.length
 case neg =>
  obtain hme : m = l.length - k := by omega
  have hm1 : ¬ ((m : Int) < ((Z.length - k : Nat) : Int)) := by omega
  have e : ((Z.map vCP).take q ++ List.replicate (Z.length - q) (AV.ag (List.replicate 2 AV.any))).take q = (uniqC l).map vCP := by
   rw [List.take_append_of_le_length (by rw [List.length_take, List.length_map]; omega), List.take_take, Nat.min_self, <- List.map_take, c5]
   unfold uniqC; rw [show k + m = l.length by omega]
  simp only [go_sem, hm1, hql]
  exact ⟨by rw [List.length_append, List.length_take, List.length_map]; omega, by rw [e]⟩
 have hm1 : (m : Int) < ((Z.length - k : Nat) : Int) := by omega
 have hz1 : k + m < Z.length := by omega
 have hz2 : k + (m - 1) < Z.length := by omega
 have gz1 := getCl hz1
 have gz2 := getCl hz2
 have hwm : IntKind.i64.wrap (m + 1) = m + 1 := wrap_in (by omega) (by omega)
 have hwm2 : IntKind.i64.wrap ((m : Int) - 1) = (m - 1 : Nat) := by rw [wrap_in (by omega) (by omega)]; omega
 have hwq : IntKind.i64.wrap (q + 1) = q + 1 := wrap_in (by omega) (by omega)
 have ez1 : Z[k + m]! = l[k + m]! := c6 _ (by omega)
 have ez2 : Z[k + (m - 1)]! = l[k + m - 1]! := by rw [c6 _ (by omega)]; congr 1; omega
 have hsucc : k + (m + 1) = (k + m) + 1 := by omega
 have hcz := con_lmax1 Z[k + m]! Z[k + (m - 1)]! (by rw [ez1]; exact hr _ (memCl (by omega))) (by rw [ez2]; exact hr _ (memCl (by omega)))
 simp only [vCP, vCl] at hcz
 by_cases hne2 : l[k + m]! = l[k + m - 1]!
 ·have hb : decide (Z[k + m]! = Z[k + (m - 1)]!) = true := by rw [ez1, ez2]; simpa using hne2
  rw [hb] at hcz
  simp only [go_sem, hm1]
  refine DrawK.walk 12 mixed (by kernel_rfl) ?_
  simp only [go_sem, gz1, gz2, hwm2]
  have hk0 : keepsC l (k + m) = false := by unfold keepsC; rw [decide_eq_false (p := l[k + m]! ≠ l[k + m - 1]!) (by simpa using hne2), decide_eq_false (by omega)]; rfl
  refine ⟨by omega, by omega, ?_⟩
  refine CallY.mk hcz (by simp only [go_sem]) (by simp only [go_sem]) (.inl (by simp only [go_sem])) ?_
  simp only [go_sem, hwm]
  refine roundK.intro (Z, q, m + 1) ⟨c1, by show 1 <= m + 1; omega, by show k + (m + 1) <= l.length; omega, by show q < k + (m + 1); omega, ?_, c6⟩ (by show l.length - (k + (m + 1)) < l.length - (k + m); omega) ?_
  ·show Z.take q = upToC l (k + (m + 1))
   rw [hsucc, upToC_succ, hk0, c5]; simp
  ·simp only [go_sem]
 ·have hb : decide (Z[k + m]! = Z[k + (m - 1)]!) = false := by rw [ez1, ez2]; simpa using hne2
  rw [hb] at hcz
  simp only [go_sem, hm1]
  refine DrawK.walk 12 mixed (by kernel_rfl) ?_
  simp only [go_sem, gz1, gz2, hwm2]
  have hk0 : keepsC l (k + m) = true := by unfold keepsC; rw [decide_eq_true (p := l[k + m]! ≠ l[k + m - 1]!) hne2, Bool.or_true]
  refine ⟨by omega, by omega, ?_⟩
  refine CallY.mk hcz (by simp only [go_sem]) (by simp only [go_sem]) (.inl (by simp only [go_sem])) ?_
  have hmod := mod_Cl (D := Z) (q := q) (x := Z[k + m]!) hql
  simp only [go_sem, hwm, hql, hwq, gz1, hmod]
  refine ⟨by omega, ?_⟩
  refine roundK.intro (Z.set q Z[k + m]!, q + 1, m + 1) ⟨by show (Z.set q Z[k + m]!).length = l.length; rw [List.length_set]; exact c1, by show 1 <= m + 1; omega, by show k + (m + 1) <= l.length; omega, by show q + 1 < k + (m + 1); omega, ?_, fun j hj => ?_⟩ (by show l.length - (k + (m + 1)) < l.length - (k + m); omega) ?_
  ·show (Z.set q Z[k + m]!).take (q + 1) = upToC l (k + (m + 1))
   rw [hsucc, upToC_succ, hk0, <- c5, ez1, take_snocC (by rw [List.length_set]; exact hql)]
   rw [if_pos rfl, List.take_set_of_le (Nat.le_refl q), getElem!_pos (Z.set q l[k + m]!) q (by rw [List.length_set]; exact hql), List.getElem_set_self]
  ·show (Z.set q Z[k + m]!)[j]! = l[j]!
   have hj' : q + 1 <= j := hj
   rw [<- c6 j (by omega)]
   simp only [getElem!_def, List.getElem?_set_ne (show q ≠ j by omega)]
  ·simp only [go_sem]
end Go.AM
