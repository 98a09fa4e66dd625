/- LConf QE2 RA RB RC RD RE RF RG Am6 QR Closed1V Closed1Vz -/
import Derived.Test.YtpmodjodfimejaaGreath20
import Derived.Test.YtpmodjodfimejaaGreath19
import Derived.Test.YtpmodjodfimejaaGreath25
import Derived.Test.YtpmodjodfimejaaGreath7
import Derived.Test.YtpmodjodfimejaaGreath18
import Derived.Test.YtpmodjodfimejaaGreath8
import Derived.Test.YtpmodjodfimejaaGreath9
import Derived.Test.YtpmodjodfimejaaGreath13
import Derived.Test.YtpmodjodfimejaaGreath23
import Derived.Test.YtpmodjodfimejaaGreath5
namespace Go.AM
open Go Go.Proofs Go.RowKit
theorem cmpV_self (a : CV) : cmpV a a = 0 := by have := cmpV_anti a a; omega
theorem valid_with {m : MD} {c : CV} (h : validV (typeM m) c = true) : c = withC c.kids[0]!.n (c.kids.drop 1) /\ 0 <= c.kids[0]!.n /\ c.kids[0]!.n < m.states.length /\ (c.kids.drop 1).length + 1 = (partsM m).length := by
 unfold validV at h
 simp only [Bool.and_eq_true] at h
 have ho := h.2
 obtain ⟨n, kids⟩ := c
 unfold typeM prodT at ho
 rw [oneT] at ho
 simp only [TD.kind, TD.size, TD.parts] at ho
 rw [if_pos trivial, if_neg (by omega), if_neg (by omega)] at ho
 simp only [Bool.and_eq_true, beq_iff_eq] at ho
 obtain ⟨⟨h1, h2⟩, h3⟩ := ho
 have hp : partsM m = labelT m.states.length :: (partsM m).tail := rfl
 rw [hp] at h2 h3
 cases kids with
 | nil => simp at h2
 | cons k l =>
  rw [zipT, Bool.and_eq_true] at h3
  obtain ⟨kn, kk⟩ := k
  have h4 := h3.1
  unfold labelT at h4
  rw [oneT] at h4
  simp only [TD.kind, TD.size] at h4
  rw [if_pos trivial, if_neg (by omega)] at h4
  simp only [Bool.and_eq_true, beq_iff_eq, decide_eq_true_eq, List.length_eq_zero_iff] at h4
  obtain ⟨⟨h5, h6⟩, h7⟩ := h4
  subst h7; subst h1
  refine ⟨rfl, h5, of_decide_eq_true h6, ?_⟩
  rw [hp]
  exact of_decide_eq_true h2
theorem DealtG.kids {k : Int} {ns np nl : Nat} {ra : List Int} {lv ag : Int} {rules : List RD} {st : CV} (h : DealtG k ns np nl ra lv ag rules st) : st.kids.length <= 1000 := by
 have hs := h.start
 split at hs
 ·rw [hs]; exact Nat.zero_le _
 ·have hO : OwnX (dealtG k ns np nl ra lv ag [] zeroV) := h.num.own
  have hw := valid_with hs
  have hp := partsM_len hO
  have h4 := hw.2.2.2
  rw [List.length_drop] at h4
  omega
theorem con_dModelI (l : List Int) (s : DS) (k : Int) (hd : Dk l s) (hk : 0 <= k /\ k <= 6) : Con Tryz.prog 19 [.pb 0 0, vi k] [deckA l s] fun r b => ∃ m s', ModI m /\ Dk l s' /\ r = vM m /\ b = [deckA l s'] := by
 by_cases h0 : k = 0
 ·subst h0
  exact (con_dModel0 l s hd).mono fun r b ⟨k, ns, np, nl, ra, lv, ag, rules, st, s', h1, h2, h3, h4⟩ => ⟨_, s', h1.modI h1.kids, h2, h3, h4⟩
 ·exact (con_dModelX l s k hd (by omega)).mono fun r b ⟨ns, np, nl, ra, lv, ag, rules, st, s', h1, h2, h3, h4⟩ => ⟨_, s', h1.modI h1.kids, h2, h3, h4⟩
theorem con_dBent (l : List Int) (s : DS) (k : Int) (hd : Dk l s) (hk : 0 <= k /\ k <= 6) : Con Tryz.prog 20 [.pb 0 0, vi k] [deckA l s] fun r b => ∃ m s', ModE m /\ Dk l s' /\ r = vM m /\ b = [deckA l s'] :=
 ((con_dBentS l s k hd (con_dModelI l s k hd hk)).freezeB fun _ => true).weak fun r b ⟨r1, b1, ⟨m, s', h1, h2, h3, h4⟩, h7, h8⟩ => by
  subst h4; subst h7; subst h8
  exact ⟨_, ⟨m, s', h1, h2, rfl, rfl⟩, h3⟩
theorem zip_nats : ∀ (n : Nat) (l : List CV), l.length = n -> zipT l (List.replicate n (.mk 1 0 [] [])) = true -> l.all (fun k => decide (0 <= k.n) && decide (k.n <= 1048576) && k.kids.length == 0) = true
 | 0, [], _, _ => rfl
 | n + 1, .mk x k :: l, hl, h => by
  rw [List.replicate_succ, zipT, Bool.and_eq_true] at h
  have h1 := h.1
  rw [oneT] at h1
  simp only [TD.kind] at h1
  rw [if_pos trivial] at h1
  rw [List.all_cons, zip_nats n l (by simpa using hl) h.2, Bool.and_true]
  exact h1
theorem valid_conf {m : MD} (hk : m.kind = 1) {c : CV} (h : validV (typeM m) c = true) : confB m.states.length m.places.length c = true := by
 unfold validV at h
 simp only [Bool.and_eq_true] at h
 have ho := h.2
 obtain ⟨n, kids⟩ := c
 unfold typeM prodT at ho
 rw [oneT] at ho
 simp only [TD.kind, TD.size, TD.parts] at ho
 rw [if_neg (by omega), if_neg (by omega), if_pos trivial] at ho
 simp only [Bool.and_eq_true, beq_iff_eq] at ho
 obtain ⟨⟨h1, h2⟩, h3⟩ := ho
 have hp : partsM m = labelT m.states.length :: List.replicate m.places.length (.mk 1 0 [] []) := by
  unfold partsM placeT
  rw [if_neg (by omega), if_neg (by omega), if_neg (by omega), if_neg (by omega)]
 rw [hp] at h2 h3
 have h2 := of_decide_eq_true h2
 cases kids with
 | nil => simp at h2
 | cons k l =>
  rw [zipT, Bool.and_eq_true] at h3
  obtain ⟨kn, kk⟩ := k
  have h4 := h3.1
  unfold labelT at h4
  rw [oneT] at h4
  simp only [TD.kind, TD.size] at h4
  rw [if_neg (by omega), if_pos trivial] at h4
  simp only [Bool.and_eq_true, beq_iff_eq, decide_eq_true_eq] at h4
  obtain ⟨⟨h5, h6⟩, h7⟩ := h4
  have hl : l.length = m.places.length := by simpa using h2
  have := zip_nats _ l hl h3.2
  unfold confB
  simp only [Bool.and_eq_true, beq_iff_eq, CV.n, CV.kids]
  exact ⟨⟨⟨⟨⟨h1, decide_eq_true h5⟩, h6⟩, h7⟩, hl⟩, this⟩
theorem good_of {m : MD} (h0 : checkF m = 0) (hk : m.kind = 1) : GoodM m := by
 have hz := checkF_zero h0
 have hn := sized_nums hz.2.1
 have e : lim 1 0 = 1 /\ lim 1 1 = 6 /\ lim 1 2 = 0 /\ lim 1 3 = 0 /\ lim 1 4 = 0 /\ lim 1 5 = 0 /\ lim 1 6 = 0 /\ lim 1 7 = 0 := by decide
 rw [hk] at hn
 have hr := hz.2.2.1
 unfold rankedB at hr
 rw [if_neg (by omega)] at hr
 have hb := hz.2.2.2.2.2
 unfold beginsF at hb
 rw [if_neg (by omega)] at hb
 refine ⟨hk, hn.1, by omega, hn.2.2.2.1, List.eq_nil_of_length_eq_zero (by omega), List.eq_nil_of_length_eq_zero (by simpa using hr), by omega, by omega, hz.2.2.2.1, fun r hr => ?_, valid_conf hk hb⟩
 have h := hz.2.2.2.2.1 r hr
 unfold rightR endsR fitsR at h
 rw [hk, if_pos rfl, same_only1] at h
 simp only [Bool.and_eq_true, Bool.or_eq_true] at h
 obtain ⟨⟨⟨h1, h2⟩, h3, h4⟩, ⟨⟨⟨h5, h6⟩, h7⟩, h8⟩⟩ := h
 constructor
 ·unfold ruleB
  rw [h1, h3, h4]
  rcases h2 with h2 | h2
  ·rw [h2]; rfl
  ·simp at h2
 ·unfold z4 at h5
  unfold z5 at h6
  unfold z6 at h7
  simp only [Bool.and_eq_true] at h5 h6 h7
  unfold bareB
  rw [h5.1.1, h5.1.2, h5.2, h6.1, h6.2, h7.1, h7.2, h8]; rfl
theorem conf_c {m : MD} {c : CV} (h : confB m.states.length m.places.length c = true) : ∃ (s : Nat) (v : List Int), c = cfgC s v /\ GoodC m s v := by
 obtain ⟨n, kids⟩ := c
 cases kids with
 | nil => cases h
 | cons x l =>
  obtain ⟨xn, xk⟩ := x
  unfold confB at h
  simp only [Bool.and_eq_true, beq_iff_eq, CV.n, CV.kids, List.all_eq_true] at h
  obtain ⟨⟨⟨⟨⟨h1, h2⟩, h3⟩, h4⟩, h5⟩, h6⟩ := h
  have h2 : 0 <= xn := of_decide_eq_true h2
  have h3 : xn < m.states.length := of_decide_eq_true h3
  have hx : xk = [] := List.eq_nil_of_length_eq_zero h4
  subst h1; subst hx
  refine ⟨xn.toNat, l.map CV.n, ?_, by omega, by rw [List.length_map]; exact h5, fun y hy => ?_⟩
  ·unfold cfgC
   have e1 : ((xn.toNat : Nat) : Int) = xn := by omega
   rw [e1, List.map_map]
   congr 2
   refine (List.map_id l).symm.trans (List.map_congr_left fun k hk => ?_)
   have hk := (h6 k hk).2
   obtain ⟨kn, kk⟩ := k
   have : kk = [] := List.eq_nil_of_length_eq_zero hk
   subst this; rfl
  ·obtain ⟨k, hk, rfl⟩ := List.mem_map.1 hy
   have h := (h6 k hk).1
   exact ⟨of_decide_eq_true h.1, of_decide_eq_true h.2⟩
set_option maxRecDepth 100000
def checkE (m : MD) (rule : Int) (c : CV) : Int := if checkF m ≠ 0 then checkF m else if m.kind ≠ 1 then 15 else if rule < 0 \/ (m.rules.length : Int) <= rule then 16 else if confG m c = true then 0 else 17
theorem checkE_zero {m : MD} {rule : Int} {c : CV} (h : checkE m rule c = 0) : GoodM m /\ (0 <= rule /\ rule < m.rules.length) /\ ∃ (s : Nat) (v : List Int), c = cfgC s v /\ GoodC m s v := by
 unfold checkE at h
 by_cases h0 : checkF m ≠ 0
 ·rw [if_pos h0] at h; exact absurd h h0
 rw [if_neg h0] at h
 have h0 := Classical.not_not.1 h0
 by_cases h1 : m.kind ≠ 1
 ·rw [if_pos h1] at h; omega
 rw [if_neg h1] at h
 have h1 := Classical.not_not.1 h1
 by_cases h2 : rule < 0 \/ (m.rules.length : Int) <= rule
 ·rw [if_pos h2] at h; omega
 rw [if_neg h2] at h
 by_cases h3 : confG m c = true
 ·unfold confG at h3
  rw [Bool.and_eq_true] at h3
  exact ⟨good_of h0 h1, by omega, conf_c (valid_conf h1 h3.2)⟩
 ·rw [if_neg h3] at h; omega
def cS (c : CV) : Nat := c.kids[0]!.n.toNat
def cV (c : CV) : List Int := (c.kids.drop 1).map CV.n
theorem cS_cfg (s : Nat) (v : List Int) : cS (cfgC s v) = s := rfl
theorem cV_cfg (s : Nat) (v : List Int) : cV (cfgC s v) = v := cfg_nums v
def enE (m : MD) (rule : Int) (c : CV) : Bool × Int := if checkE m rule c ≠ 0 then (false, checkE m rule c) else (enF m.rules[rule.toNat]! (cS c) (cV c), 0)
def apE (m : MD) (rule : Int) (c : CV) : CV × Int :=
 if checkE m rule c ≠ 0 then (noV, checkE m rule c)
 else if enF m.rules[rule.toNat]! (cS c) (cV c) = true then (if okV (moveV m.rules[rule.toNat]! (cV c)) = true then (cfgC m.rules[rule.toNat]!.dst.toNat (moveV m.rules[rule.toNat]! (cV c)), 0) else (noV, 1)) else (noV, 18)
theorem con_ccheckG (m : MD) (rule : Int) (c : CV) (hm : LenM m) (hc : c.Ok) : Con Tryz.prog 98 [vM m, vi rule, vV c] [] fun x _ => x = vi (checkE m rule c) := by
 have e1 : vM m = .ag [vi m.kind, vss m.states, vss m.places, vss m.letters, vs 0 m.ranks, vi m.levels, vi m.age, .sl 0 14 (m.rules.map vRule), vi m.start.n, .sl 0 2 (m.start.kids.map vV)] := rfl
 have c1 := con_CheckG m hm
 have c2 := con_ValidG m c hm hc
 rw [vV_eq] at c2 ⊢
 rw [e1] at c1 c2 ⊢
 refine Con.intro Tryz.func98 rfl Tryz.ntmps98 Tryz.results98 (by kernel_rfl) (by simp) 0 (by simp) ?_
 simp only [go_sem, vss]
 refine CallU.free c1 (by simp only [go_sem]) (by simp only [go_sem, vss]) ?_
 rintro r bx rfl
 unfold checkE
 by_cases h0 : checkF m = 0
 case neg =>
  have hn : (checkF m != 0) = true := bne_iff_ne.2 h0
  rw [if_pos h0]
  simp only [go_sem, hn]
 have hn : (checkF m != 0) = false := by rw [h0]; rfl
 rw [if_neg (fun h => h h0)]
 by_cases h1 : m.kind = 1
 case neg =>
  have hk : (m.kind != 1) = true := bne_iff_ne.2 h1
  rw [if_pos h1]
  simp only [go_sem, hn, hk]
 have hk : (m.kind != 1) = false := by rw [h1]; rfl
 rw [if_neg (fun h => h h1)]
 by_cases h2 : rule < 0
 ·rw [if_pos (.inl h2)]
  simp only [go_sem, hn, hk, h2]
 by_cases h3 : (m.rules.length : Int) <= rule
 ·rw [if_pos (.inr h3)]
  simp only [go_sem, hn, hk, h2, h3, List.length_map]
 rw [if_neg (fun h => h.elim h2 h3)]
 simp only [go_sem, hn, hk, h2, h3, List.length_map]
 refine CallU.free c2 (by simp only [go_sem]) (by simp only [go_sem, vss]) ?_
 rintro r bx rfl
 cases confG m c
 ·simp only [go_sem, Bool.false_eq_true, if_false]
 ·simp only [go_sem, if_true]
theorem con_cEnabledG (m : MD) (rule : Int) (c : CV) (hm : LenM m) (hc : c.Ok) : Con Tryz.prog 44 [vM m, vi rule, vV c] [] fun x _ => x = .tup [vb (enE m rule c).1, vi (enE m rule c).2] := by
 by_cases h0 : checkE m rule c = 0
 ·obtain ⟨hG, hr, s, v, rfl, hC⟩ := checkE_zero h0
  obtain ⟨i, rfl⟩ : ∃ i : Nat, rule = i := ⟨rule.toNat, by omega⟩
  have e : enE m i (cfgC s v) = (enF m.rules[i]! s v, 0) := by
   unfold enE
   rw [if_neg (fun h => h h0), cS_cfg, cV_cfg]; rfl
  rw [e]
  exact con_cEnabled m i s v hG (by omega) hC
 have e : enE m rule c = (false, checkE m rule c) := by unfold enE; rw [if_pos h0]
 rw [e]
 have e1 : vM m = .ag [vi m.kind, vss m.states, vss m.places, vss m.letters, vs 0 m.ranks, vi m.levels, vi m.age, .sl 0 14 (m.rules.map vRule), vi m.start.n, .sl 0 2 (m.start.kids.map vV)] := rfl
 have c1 := con_ccheckG m rule c hm hc
 rw [vV_eq] at c1 ⊢
 rw [e1] at c1 ⊢
 have hn : (checkE m rule c != 0) = true := bne_iff_ne.2 h0
 refine Con.intro Tryz.func44 rfl Tryz.ntmps44 Tryz.results44 (by kernel_rfl) (by simp) 0 (by simp) ?_
 simp only [go_sem, vss]
 refine CallU.free c1 (by simp only [go_sem]) (by simp only [go_sem, vss]) ?_
 rintro r bx rfl
 simp only [go_sem, hn]
theorem con_cApplyG (m : MD) (rule : Int) (c : CV) (hm : LenM m) (hc : c.Ok) : Con Tryz.prog 46 [vM m, vi rule, vV c] [] fun x _ => x = .tup [ownV 0 (apE m rule c).1, vi (apE m rule c).2] := by
 have hno : leV (.ag [vi 0, .nil]) (ownV 0 noV) := leV_ag ⟨leV_refl _, leV_nil _ _, trivial⟩
 have key : Con Tryz.prog 46 [vM m, vi rule, vV c] [] fun x _ => leV (x.freeze fun _ => true) (.tup [ownV 0 (apE m rule c).1, vi (apE m rule c).2]) := by
  by_cases h0 : checkE m rule c = 0
  ·obtain ⟨hG, hr, s, v, rfl, hC⟩ := checkE_zero h0
   obtain ⟨i, rfl⟩ : ∃ i : Nat, rule = i := ⟨rule.toNat, by omega⟩
   refine (con_capply m i s v hG (by omega) hC).mono fun x b hx => ?_
   subst hx
   have e : apE m i (cfgC s v) = if enF m.rules[i]! s v = true then (if okV (moveV m.rules[i]! v) = true then (cfgC m.rules[i]!.dst.toNat (moveV m.rules[i]! v), 0) else (noV, 1)) else (noV, 18) := by
    unfold apE
    rw [if_neg (fun h => h h0), cS_cfg, cV_cfg]; rfl
   rw [e]
   unfold appA
   split
   ·split
    ·refine leV_tup ⟨?_, leV_refl _, trivial⟩
     rw [ownV_zero]
     exact cfg_le _ _
    ·exact leV_tup ⟨hno, leV_refl _, trivial⟩
   ·exact leV_tup ⟨hno, leV_refl _, trivial⟩
  have e : apE m rule c = (noV, checkE m rule c) := by unfold apE; rw [if_pos h0]
  rw [e]
  have e1 : vM m = .ag [vi m.kind, vss m.states, vss m.places, vss m.letters, vs 0 m.ranks, vi m.levels, vi m.age, .sl 0 14 (m.rules.map vRule), vi m.start.n, .sl 0 2 (m.start.kids.map vV)] := rfl
  have c1 := con_ccheckG m rule c hm hc
  rw [vV_eq] at c1 ⊢
  rw [e1] at c1 ⊢
  have hn : (checkE m rule c != 0) = true := bne_iff_ne.2 h0
  refine Con.intro Tryz.func46 rfl Tryz.ntmps46 Tryz.results46 (by kernel_rfl) (by simp) 0 (by simp) ?_
  simp only [go_sem, vss]
  refine CallU.free c1 (by simp only [go_sem]) (by simp only [go_sem, vss]) ?_
  rintro r bx rfl
  simp only [go_sem, hn]
  exact leV_tup ⟨hno, leV_refl _, trivial⟩
 exact (Con.freezeR (fun _ => true) key).weak fun r b ⟨r0, h0, h1⟩ => by
  subst h1
  exact ⟨_, rfl, h0⟩
set_option maxHeartbeats 8000000
theorem con_renabled17 (r : RD) (s : Nat) (v : List Int) (hl : r.need.length = v.length) (h6 : v.length <= 6) : Con Tryz.prog 101 [vRule r, vV (cfgC s v)] [] fun x _ => x = vb (enF r s v) := by
 rw [cfgZ_eq]
 refine Con.intro Tryz.func101 rfl Tryz.ntmps101 Tryz.results101 (by kernel_rfl) (by simp) 0 (by simp) ?_
 have hpos : (0 : Int) < (v.length : Int) + 1 := by omega
 simp only [go_sem]
 refine DrawK.walk 8 mixed (by kernel_rfl) ?_
 simp only [go_sem, hpos]
 by_cases hs : (s : Int) = r.src
 case neg =>
  have hn : ((s : Int) != r.src) = true := bne_iff_ne.2 hs
  have e : enF r s v = false := by unfold enF; rw [beq_eq_false_iff_ne.2 hs]; rfl
  simp only [go_sem, hn, e]
 have hn : ((s : Int) != r.src) = false := by rw [hs]; simp
 simp only [go_sem, hn]
 refine LoopK.intro (fun i : Nat => ⟨34, [(2, .pb 0 0), (3, .pb 1 0), (5, vi i)], [[vStr r.name, vi r.src, vi r.dst, vs 0 r.need, vs 0 r.give, vs 0 r.move, vi r.channel, vi r.act, vi r.letter, vs 0 r.path, vs 0 r.next, .sl 0 3 (r.takes.map vTake), vs 0 r.makes, vi r.second], [vi 0, .sl 0 2 (kidZ s :: v.map kidZ)]]⟩)
  (fun i => r.need.length - i) (fun i => i <= r.need.length /\ ∀ j, j < i -> r.need[j]! <= v[j]!) 0 ⟨by omega, fun j hj => by omega⟩ ?_ ?_
 ·simp only [go_sem]
  all_goals exact leB_self _
 rintro i ⟨hi, hb⟩
 by_cases h : i < r.need.length
 ·have hg := getv h
  have hv : i < v.length := by omega
  have hz := getZ hv
  have hw : IntKind.i64.wrap (i + 1) = i + 1 := wrap_in (by omega) (by omega)
  have hw1 : IntKind.i64.wrap (1 + (i : Int)) = (i : Int) + 1 := by rw [wrap_in (by omega) (by omega)]; omega
  have hz1 : (AV.ag [AV.sc (Value.int IntKind.i64 s), AV.sl 0 2 []] :: List.map kidZ v)[((i : Int) + 1).toNat]? = some (.ag [.sc (.int .i64 v[i]!), .sl 0 2 []]) := by
   rw [show ((i : Int) + 1).toNat = i + 1 by omega, List.getElem?_cons_succ]; exact hz
  have hi0 : (0 : Int) <= (i : Int) + 1 := by omega
  have hi1 : (i : Int) + 1 < (v.length : Int) + 1 := by omega
  simp only [go_sem, h, List.length_map]
  refine DrawK.walk 13 mixed (by kernel_rfl) ?_
  simp only [go_sem, h, hg, hz1, hw1, hi1, List.length_cons, List.length_map]
  refine ⟨hi0, ?_⟩
  by_cases hq : v[i]! < r.need[i]!
  ·have e : enF r s v = false := by
    unfold enF
    rw [Bool.and_eq_false_iff]
    right
    rw [List.all_eq_false]
    exact ⟨i, List.mem_range.2 h, by rw [decide_eq_false (by omega)]; simp⟩
   simp only [go_sem, hq, e]
  ·simp only [go_sem, hq, hw]
   refine roundK.intro (i + 1) ⟨by omega, fun j hj => ?_⟩ (by omega) ?_
   ·by_cases hji : j = i
    ·subst hji; omega
    ·exact hb j (by omega)
   ·simp only [go_sem]
 ·have e : enF r s v = true := by
   unfold enF
   rw [beq_iff_eq.2 hs, Bool.true_and, List.all_eq_true]
   intro j hj
   have := List.mem_range.1 hj
   exact decide_eq_true (hb j (by omega))
  simp only [go_sem, h, e, List.length_map]
def faultE (m : MD) (rule : Int) : Int := if checkF m ≠ 0 then checkF m else if m.kind ≠ 1 then 15 else if rule < 0 \/ (m.rules.length : Int) <= rule then 16 else 0
theorem fault_check {m : MD} {rule : Int} {c : CV} : checkE m rule c = if faultE m rule ≠ 0 then faultE m rule else if confG m c = true then 0 else 17 := by
 unfold checkE faultE
 by_cases h0 : checkF m ≠ 0
 ·rw [if_pos h0, if_pos h0, if_pos h0]
 rw [if_neg h0, if_neg h0]
 by_cases h1 : m.kind ≠ 1
 ·rw [if_pos h1, if_pos h1]; rfl
 rw [if_neg h1, if_neg h1]
 by_cases h2 : rule < 0 \/ (m.rules.length : Int) <= rule
 ·rw [if_pos h2, if_pos h2]; rfl
 rw [if_neg h2, if_neg h2]; rfl
theorem con_rfault17 (m : MD) (rule : Int) (hm : LenM m) : Con Tryz.prog 100 [vM m, vi rule] [] fun x _ => x = vi (faultE m rule) := by
 have e1 : vM m = .ag [vi m.kind, vss m.states, vss m.places, vss m.letters, vs 0 m.ranks, vi m.levels, vi m.age, .sl 0 14 (m.rules.map vRule), vi m.start.n, .sl 0 2 (m.start.kids.map vV)] := rfl
 have c1 := con_rCheckG m hm
 rw [e1] at c1 ⊢
 refine Con.intro Tryz.func100 rfl Tryz.ntmps100 Tryz.results100 (by kernel_rfl) (by simp) 0 (by simp) ?_
 simp only [go_sem, vss]
 refine CallU.free c1 (by simp only [go_sem]) (by simp only [go_sem, vss]) ?_
 rintro r bx rfl
 unfold faultE
 by_cases h0 : checkF m = 0
 case neg =>
  have hn : (checkF m != 0) = true := bne_iff_ne.2 h0
  rw [if_pos h0]
  simp only [go_sem, hn]
 have hn : (checkF m != 0) = false := by rw [h0]; rfl
 rw [if_neg (fun h => h h0)]
 by_cases h1 : m.kind = 1
 case neg =>
  have hk : (m.kind != 1) = true := bne_iff_ne.2 h1
  rw [if_pos h1]
  simp only [go_sem, hn, hk]
 have hk : (m.kind != 1) = false := by rw [h1]; rfl
 rw [if_neg (fun h => h h1)]
 by_cases h2 : rule < 0
 ·rw [if_pos (.inl h2)]
  simp only [go_sem, hn, hk, h2]
 by_cases h3 : (m.rules.length : Int) <= rule
 ·rw [if_pos (.inr h3)]
  simp only [go_sem, hn, hk, h2, h3, List.length_map]
 rw [if_neg (fun h => h.elim h2 h3)]
 simp only [go_sem, hn, hk, h2, h3, List.length_map]
theorem con_rEnabledG (m : MD) (rule : Int) (c : CV) (hm : LenM m) (hc : c.Ok) : Con Tryz.prog 45 [vM m, vi rule, vV c] [] fun x _ => x = .tup [vb (enE m rule c).1, vi (enE m rule c).2] := by
 have e1 : vM m = .ag [vi m.kind, vss m.states, vss m.places, vss m.letters, vs 0 m.ranks, vi m.levels, vi m.age, .sl 0 14 (m.rules.map vRule), vi m.start.n, .sl 0 2 (m.start.kids.map vV)] := rfl
 have c1 := con_rfault17 m rule hm
 have c2 := con_rValidG m c hm hc
 have ec := vV_eq c
 rw [ec] at c2 ⊢
 rw [e1] at c1 c2 ⊢
 refine Con.intro Tryz.func45 rfl Tryz.ntmps45 Tryz.results45 (by kernel_rfl) (by simp) 0 (by simp) ?_
 simp only [go_sem, vss]
 refine CallU.free c1 (by simp only [go_sem]) (by simp only [go_sem, vss]) ?_
 rintro r bx rfl
 have hch := fault_check (m := m) (rule := rule) (c := c)
 by_cases h0 : faultE m rule = 0
 case neg =>
  have hn : (faultE m rule != 0) = true := bne_iff_ne.2 h0
  rw [if_pos h0] at hch
  have e : enE m rule c = (false, faultE m rule) := by unfold enE; rw [hch, if_pos h0]
  rw [e]
  simp only [go_sem, hn]
 have hn : (faultE m rule != 0) = false := by rw [h0]; rfl
 rw [if_neg (fun h => h h0)] at hch
 simp only [go_sem, hn]
 refine CallU.free c2 (by simp only [go_sem]) (by simp only [go_sem, vss]) ?_
 rintro r bx rfl
 cases hv : confG m c
 ·rw [hv, if_neg (by decide)] at hch
  have e : enE m rule c = (false, 17) := by unfold enE; rw [hch]; rfl
  rw [e]
  simp only [go_sem]
 rw [hv, if_pos rfl] at hch
 obtain ⟨hG, hr, s, v, rfl, hC⟩ := checkE_zero hch
 obtain ⟨i, rfl⟩ : ∃ i : Nat, rule = i := ⟨rule.toNat, by omega⟩
 have hi : i < m.rules.length := by omega
 have e : enE m i (cfgC s v) = (enF m.rules[i]! s v, 0) := by
  unfold enE
  rw [if_neg (fun h => h hch), cS_cfg, cV_cfg]; rfl
 rw [e]
 have h2 := hG.places
 have hrc := rule_c (hG.rules _ (mem_bangI hi)).1
 have hlen := hC.len
 have hg := getRule hi
 have hen := con_renabled17 m.rules[i]! s v (by rw [hrc.need.1, hlen]) (by omega)
 rw [ec] at hen
 simp only [go_sem]
 refine DrawK.walk 7 mixed (by kernel_rfl) ?_
 simp only [go_sem, hi, hg, List.length_map]
 refine CallY.mk hen (by simp only [go_sem]) (by simp only [go_sem]) (.inl (by simp only [go_sem])) ?_
 simp only [go_sem]
def noG (r : RD) : RD := { r with give := List.replicate r.need.length 0 }
theorem noG_moved (r : RD) (i : Nat) : movedF (noG r) i = movedF r i := rfl
theorem noG_rule {ns np : Nat} {r : RD} (h : RuleC ns np r) : RuleC ns np (noG r) :=
 ⟨h.src, h.dst, h.need, ⟨by show (List.replicate r.need.length (0 : Int)).length = np; rw [List.length_replicate]; exact h.need.1, fun x hx => by
  have : x = 0 := List.eq_of_mem_replicate hx
  omega⟩, h.move⟩
theorem noG_len {ns np : Nat} {r : RD} {v : List Int} (h : RuleC ns np r) (i : Nat) : (moveN (noG r) v i).length = np := by
 rw [moveN_len]
 show (List.replicate r.need.length (0 : Int)).length = np
 rw [List.length_replicate]; exact h.need.1
theorem noG_add {ns np : Nat} {r : RD} {v : List Int} (h : RuleC ns np r) : ∀ i : Nat, ∀ j, j < np -> (moveN r v i)[j]! = (moveN (noG r) v i)[j]! + r.give[j]!
 | 0, j, hj => by
  have h1 : r.need.length = np := h.need.1
  have : (List.replicate r.need.length (0 : Int))[j]! = 0 := by rw [getElem!_pos _ j (by rw [List.length_replicate]; omega), List.getElem_replicate]
  show r.give[j]! = (List.replicate r.need.length (0 : Int))[j]! + r.give[j]!
  omega
 | i + 1, j, hj => by
  have ih := noG_add (v := v) h i
  have l1 : (moveN r v i).length = np := by rw [moveN_len]; exact h.give.1
  have l2 := noG_len (v := v) h i
  unfold moveN
  rw [noG_moved]
  by_cases h0 : 0 <= movedF r i
  ·rw [if_pos h0, if_pos h0]
   by_cases e : (movedF r i).toNat = j
   ·subst e
    have e2 : ∀ (L : List Int) (x : Int), (movedF r i).toNat < L.length -> (L.set (movedF r i).toNat x)[(movedF r i).toNat]! = x := fun L x hL => by
     rw [getElem!_pos _ _ (by rw [List.length_set]; exact hL), List.getElem_set_self]
    rw [e2 _ _ (by omega), e2 _ _ (by omega)]
    have := ih _ hj
    show (moveN r v i)[_]! + (v[i]! - r.need[i]!) = (moveN (noG r) v i)[_]! + (v[i]! - r.need[i]!) + _
    omega
   ·have e1 : ∀ (L : List Int) (x : Int), j < L.length -> (L.set (movedF r i).toNat x)[j]! = L[j]! := fun L x hL => by
     rw [getElem!_pos _ j (by rw [List.length_set]; exact hL), List.getElem_set_ne e, getElem!_pos L j hL]
    rw [e1 _ _ (by omega), e1 _ _ (by omega)]
    exact ih j hj
  ·rw [if_neg h0, if_neg h0]
   exact ih j hj
theorem con_rApplyG (m : MD) (rule : Int) (c : CV) (hm : LenM m) (hc : c.Ok) : Con Tryz.prog 47 [vM m, vi rule, vV c] [] fun x _ => x = .tup [ownV 0 (apE m rule c).1, vi (apE m rule c).2] := by
 have hno : leV (.ag [vi 0, .nil]) (ownV 0 noV) := leV_ag ⟨leV_refl _, leV_nil _ _, trivial⟩
 have key : Con Tryz.prog 47 [vM m, vi rule, vV c] [] fun x _ => leV (x.freeze fun _ => true) (.tup [ownV 0 (apE m rule c).1, vi (apE m rule c).2]) := by
  have e1 : vM m = .ag [vi m.kind, vss m.states, vss m.places, vss m.letters, vs 0 m.ranks, vi m.levels, vi m.age, .sl 0 14 (m.rules.map vRule), vi m.start.n, .sl 0 2 (m.start.kids.map vV)] := rfl
  have c1 := con_rEnabledG m rule c hm hc
  by_cases h0 : checkE m rule c = 0
  case neg =>
   have e : apE m rule c = (noV, checkE m rule c) := by unfold apE; rw [if_pos h0]
   have e2 : enE m rule c = (false, checkE m rule c) := by unfold enE; rw [if_pos h0]
   rw [e2] at c1
   rw [e]
   rw [vV_eq] at c1 ⊢
   rw [e1] at c1 ⊢
   have hn : (checkE m rule c != 0) = true := bne_iff_ne.2 h0
   refine Con.intro Tryz.func47 rfl Tryz.ntmps47 Tryz.results47 (by kernel_rfl) (by simp) 0 (by simp) ?_
   simp only [go_sem, vss]
   refine CallU.free c1 (by simp only [go_sem]) (by simp only [go_sem, vss]) ?_
   rintro r bx rfl
   simp only [go_sem, hn]
   exact leV_tup ⟨hno, leV_refl _, trivial⟩
  obtain ⟨hG, hr', s, v, rfl, hC⟩ := checkE_zero h0
  obtain ⟨i, rfl⟩ : ∃ i : Nat, rule = i := ⟨rule.toNat, by omega⟩
  have hi : i < m.rules.length := by omega
  have e2 : enE m i (cfgC s v) = (enF m.rules[i]! s v, 0) := by
   unfold enE
   rw [if_neg (fun h => h h0), cS_cfg, cV_cfg]; rfl
  have e : apE m i (cfgC s v) = if enF m.rules[i]! s v = true then (if okV (moveV m.rules[i]! v) = true then (cfgC m.rules[i]!.dst.toNat (moveV m.rules[i]! v), 0) else (noV, 1)) else (noV, 18) := by
   unfold apE
   rw [if_neg (fun h => h h0), cS_cfg, cV_cfg]; rfl
  rw [e2] at c1
  rw [e]
  have e0 := cfgZ_eq s v
  have h2 := hG.places
  have hr := rule_c (hG.rules _ (mem_bangI hi)).1
  have hlen := hC.len
  have hg := getRule hi
  generalize m.rules[i]! = r at hr hg c1 ⊢
  rw [e0] at c1 ⊢
  rw [e1] at c1 ⊢
  refine Con.intro Tryz.func47 rfl Tryz.ntmps47 Tryz.results47 (by kernel_rfl) (by simp) 0 (by simp) ?_
  simp only [go_sem, vss]
  refine CallU.free c1 (by simp only [go_sem]) (by simp only [go_sem, vss]) ?_
  rintro x bx rfl
  cases he : enF r s v
  case false =>
   rw [if_neg (by decide)]
   simp only [go_sem]
   exact leV_tup ⟨hno, leV_refl _, trivial⟩
  rw [if_pos rfl]
  have hle := (en_le he).2
  have hV : ∀ j, j < m.places.length -> 0 <= v[j]! - r.need[j]! /\ v[j]! - r.need[j]! <= 1048576 := fun j hj => by
   have a1 := hle j (by rw [hr.need.1]; exact hj)
   have a2 := hC.low _ (mem_bangI (show j < v.length by omega))
   have a3 := hr.need.2 _ (mem_bangI (show j < r.need.length by rw [hr.need.1]; exact hj))
   omega
  have hbnd := moveN_bnd (v := v) (noG_rule hr) hV
  have hnl : r.need.length = m.places.length := hr.need.1
  have er : List.replicate r.need.length (AV.sc (Value.int IntKind.i64 0)) = List.map vi (moveN (noG r) v 0) := by
   show _ = List.map vi (List.replicate r.need.length 0)
   rw [List.map_replicate]; rfl
  simp only [go_sem, hi, hg, er, List.length_map]
  refine ⟨Nat.le_refl _, by omega, by omega, ?_⟩
  refine LoopK.intro (fun k : Nat => ⟨116, [(3, .pb 0 0), (5, .pb 1 0), (6, .pb 2 0), (10, .pb 3 0), (11, vs 2496 (moveN (noG r) v k)), (12, vi k)], cM m :: [vi 0, .sl 0 2 (kidZ s :: v.map kidZ)] :: [vi 0, .nil] :: [vStr r.name, vi r.src, vi r.dst, vs 0 r.need, vs 0 r.give, vs 0 r.move, vi r.channel, vi r.act, vi r.letter, vs 0 r.path, vs 0 r.next, .sl 0 3 (r.takes.map vTake), vs 0 r.makes, vi r.second] :: []⟩)
   (fun k => v.length - k) (fun k => k <= v.length) 0 (by omega) ?_ ?_
  ·simp only [go_sem, cM, vss]
   all_goals exact leB_self _
  rintro k hk
  have hml : (moveN (noG r) v k).length = m.places.length := noG_len hr k
  by_cases hkv : k < v.length
  ·have hz := getZ hkv
   have hw : IntKind.i64.wrap (k + 1) = k + 1 := wrap_in (by omega) (by omega)
   have hww : IntKind.i64.wrap (1 + (k : Int)) = (k : Int) + 1 := by rw [wrap_in (by omega) (by omega)]; omega
   have hz1 : (AV.ag [AV.sc (Value.int IntKind.i64 s), AV.sl 0 2 []] :: List.map kidZ v)[((k : Int) + 1).toNat]? = some (.ag [.sc (.int .i64 v[k]!), .sl 0 2 []]) := by
    rw [show ((k : Int) + 1).toNat = k + 1 by omega, List.getElem?_cons_succ]; exact hz
   have hk0 : (0 : Int) <= (k : Int) + 1 := by omega
   have hk1 : (k : Int) + 1 < (v.length : Int) + 1 := by omega
   obtain ⟨m1, m2, m3⟩ := moved_lt hr (show k < m.places.length by omega)
   have hkn : k < r.need.length := by omega
   have hkm : k < (moveN (noG r) v k).length := by omega
   have hgn := getv hkn
   by_cases hq0 : r.move.length = 0
   ·have hmv : movedF r k = k := by unfold movedF; rw [if_pos hq0]
    have hq0' : ¬ 0 < r.move.length := by omega
    simp only [go_sem, hkm, hq0', List.length_map]
    have hql : k < (moveN (noG r) v k).length := by omega
    have hgq := getv hql
    have b1 := hbnd k (by omega) k
    have b2 := hV k (by omega)
    have hk6 : (k : Int) * 1048576 <= 6 * 1048576 := by omega
    have hw1 : IntKind.i64.wrap (v[k]! - r.need[k]!) = v[k]! - r.need[k]! := wrap_in (by omega) (by omega)
    have hw2 : IntKind.i64.wrap ((moveN (noG r) v k)[k]! + (v[k]! - r.need[k]!)) = (moveN (noG r) v k)[k]! + (v[k]! - r.need[k]!) := wrap_in (by omega) (by omega)
    have hmod := modv (x := (moveN (noG r) v k)[k]! + (v[k]! - r.need[k]!)) hql
    have enx : moveN (noG r) v (k + 1) = (moveN (noG r) v k).set k ((moveN (noG r) v k)[k]! + (v[k]! - r.need[k]!)) := by
     rw [moveN, noG_moved, hmv, if_pos (by omega)]; rfl
    refine DrawK.walk 19 mixed (by kernel_rfl) ?_
    simp only [go_sem, hkn, hgn, hql, hgq, hz1, hww, hk1, hw1, hw2, hmod, List.length_cons, List.length_map]
    refine ⟨hk0, ?_⟩
    simp only [go_sem, hw]
    refine roundK.intro (k + 1) (by omega) (by omega) ?_
    simp only [go_sem, enx]
   ·have hmv : movedF r k = r.move[k]! := by unfold movedF; rw [if_neg hq0]
    have hq0' : 0 < r.move.length := by omega
    have hkmv : k < r.move.length := by omega
    have hgm := getv hkmv
    simp only [go_sem, hkm, hq0', hkmv, hgm, List.length_map]
    by_cases hto : 0 <= r.move[k]!
    ·obtain ⟨q, hq⟩ : ∃ q : Nat, r.move[k]! = q := ⟨(r.move[k]!).toNat, by omega⟩
     have hmv : movedF r k = (q : Int) := by rw [hmv, hq]
     rw [hmv] at m2
     have hto' : (0 : Int) <= (q : Int) := by omega
     simp only [go_sem, hq, hto']
     have hql : q < (moveN (noG r) v k).length := by omega
     have hgq := getv hql
     have b1 := hbnd k (by omega) q
     have b2 := hV k (by omega)
     have hk6 : (k : Int) * 1048576 <= 6 * 1048576 := by omega
     have hw1 : IntKind.i64.wrap (v[k]! - r.need[k]!) = v[k]! - r.need[k]! := wrap_in (by omega) (by omega)
     have hw2 : IntKind.i64.wrap ((moveN (noG r) v k)[q]! + (v[k]! - r.need[k]!)) = (moveN (noG r) v k)[q]! + (v[k]! - r.need[k]!) := wrap_in (by omega) (by omega)
     have hmod := modv (x := (moveN (noG r) v k)[q]! + (v[k]! - r.need[k]!)) hql
     have enx : moveN (noG r) v (k + 1) = (moveN (noG r) v k).set q ((moveN (noG r) v k)[q]! + (v[k]! - r.need[k]!)) := by
      rw [moveN, noG_moved, hmv, if_pos (by omega)]; rfl
     refine DrawK.walk 19 mixed (by kernel_rfl) ?_
     simp only [go_sem, hkn, hgn, hql, hgq, hz1, hww, hk1, hw1, hw2, hmod, List.length_cons, List.length_map]
     refine ⟨hk0, ?_⟩
     simp only [go_sem, hw]
     refine roundK.intro (k + 1) (by omega) (by omega) ?_
     simp only [go_sem, enx]
    ·have enx : moveN (noG r) v (k + 1) = moveN (noG r) v k := by rw [moveN, noG_moved, hmv, if_neg hto]
     simp only [go_sem, hto, hw]
     refine roundK.intro (k + 1) (by omega) (by omega) ?_
     simp only [go_sem, enx]
  ·have ek : k = v.length := by omega
   subst ek
   have hkm : ¬ v.length < (moveN (noG r) v v.length).length := by omega
   simp only [go_sem, hkm, List.length_map]
   have hvl : (moveV r v).length = m.places.length := by unfold moveV; rw [moveN_len, hr.give.1]
   have hgvl : r.give.length = m.places.length := hr.give.1
   have hadd : ∀ j, j < m.places.length -> (moveV r v)[j]! = (moveN (noG r) v v.length)[j]! + r.give[j]! := noG_add hr v.length
   generalize moveN (noG r) v v.length = W at hml hadd ⊢
   have hWb : ∀ j, j < m.places.length -> -100000000 <= (moveV r v)[j]! /\ (moveV r v)[j]! <= 100000000 := fun j hj => by
    have := moveN_bnd (v := v) hr hV v.length (by omega) j
    unfold moveV
    have h6 : (v.length : Int) * 1048576 <= 6 * 1048576 := by omega
    omega
   generalize hMV : moveV r v = MV at hvl hadd hWb ⊢
   refine LoopK.intro (fun k : Nat => ⟨116, [(6, .pb 2 0), (10, .pb 3 0), (11, vs 2496 W), (14, .pb 4 0), (15, vi k)], cM m :: [vi 0, .sl 0 2 (kidZ s :: v.map kidZ)] :: [vi 0, .nil] :: [vStr r.name, vi r.src, vi r.dst, vs 0 r.need, vs 0 r.give, vs 0 r.move, vi r.channel, vi r.act, vi r.letter, vs 0 r.path, vs 0 r.next, .sl 0 3 (r.takes.map vTake), vs 0 r.makes, vi r.second] :: [[vi 0, .sl 5120 2 (kidN r.dst :: (MV.take k).map kidN)]]⟩)
    (fun k => MV.length - k) (fun k => k <= MV.length /\ ∀ j, j < k -> MV[j]! <= 1048576) 0 ⟨by omega, fun j hj => by omega⟩ ?_ ?_
   ·simp only [go_sem, cM, vss, List.take_zero, List.map_nil]
    all_goals exact leB_self _
   rintro k ⟨hk1, hb⟩
   by_cases hkl : k < MV.length
   ·have hkW : k < W.length := by omega
    have hkG : k < r.give.length := by omega
    have hgk := getv hkW
    have hgg := getv hkG
    have hw : IntKind.i64.wrap (k + 1) = k + 1 := wrap_in (by omega) (by omega)
    have hs1 := hadd k (by omega)
    have hs2 := hWb k (by omega)
    have hsum : IntKind.i64.wrap (W[k]! + r.give[k]!) = MV[k]! := by rw [<- hs1]; exact wrap_in (by omega) (by omega)
    simp only [go_sem, hkW, List.length_map]
    refine DrawK.walk 11 mixed (by kernel_rfl) ?_
    simp only [go_sem, hkW, hkG, hgk, hgg, hsum, List.length_map]
    by_cases hq : 1048576 < MV[k]!
    ·rw [okV_bad hkl hq, if_neg (by decide)]
     simp only [go_sem, hq]
     exact leV_tup ⟨hno, leV_refl _, trivial⟩
    ·have e : MV.take (k + 1) = MV.take k ++ [MV[k]!] := by rw [List.take_add_one, List.getElem?_eq_getElem hkl, getElem!_pos _ k hkl]; rfl
     simp only [go_sem, hq]
     refine DrawK.walk 14 mixed (by kernel_rfl) ?_
     simp only [go_sem, hkW, hkG, hgk, hgg, hsum, hw, List.length_map]
     refine ⟨by simp only [roomFor, List.length_take]; omega, ?_⟩
     refine roundK.intro (k + 1) ⟨by omega, fun j hj => ?_⟩ (by omega) ?_
     ·by_cases hji : j = k
      ·subst hji; omega
      ·exact hb j (by omega)
     ·simp only [go_sem, e, List.map_append, List.map_cons, List.map_nil]
   ·have hok := okV_ok (l := MV) fun j hj => hb j (by omega)
    have e : MV.take k = MV := List.take_of_length_le (by omega)
    have ed : ((r.dst.toNat : Nat) : Int) = r.dst := by have := hr.dst; omega
    have hkW : ¬ k < W.length := by omega
    rw [hok, if_pos rfl]
    have hcl := cfg_le r.dst.toNat MV
    unfold cfgN at hcl
    rw [ed, List.map_cons, <- ownV_zero] at hcl
    simp only [go_sem, hkW, e, List.length_map]
    exact leV_tup ⟨hcl, leV_refl _, trivial⟩
 exact (Con.freezeR (fun _ => true) key).weak fun r b ⟨r0, h0, h1⟩ => by
  subst h1
  exact ⟨_, rfl, h0⟩
def efE (m : MD) (c : List Int) : List Int × List Int × Int :=
 if checkF m ≠ 0 then ([], [], checkF m) else if m.kind ≠ 1 then ([], [], 15) else if m.rules.all stillB = false then ([], [], 15)
 else if 64 < c.length then ([], [], 1) else if c.any (badRule m.rules.length) = true then ([], [], 16) else (needL m.places.length m.rules c, chgL m.places.length m.rules c, 0)
theorem rules_ok {m : MD} {c : List Int} (h : c.any (badRule m.rules.length) = false) : RulesOk m.rules c := fun k hk => by
 have := List.any_eq_false.1 h k hk
 unfold badRule at this
 simp at this
 omega
def errA (e : Int) : AV := .tup [.nil, .nil, vi e]
theorem err_le (e : Int) : leV (errA e) (.tup [vs 0 [], vs 0 [], vi e]) := leV_tup ⟨leV_nil 0 1, leV_nil 0 1, leV_refl _, trivial⟩
theorem con_cEffectG (m : MD) (c : List Int) (hm : LenM m) (hl : c.length <= 1000000) : Con Tryz.prog 49 [vM m, vs 0 c] [] fun r _ => r = .tup [vs 0 (efE m c).1, vs 0 (efE m c).2.1, vi (efE m c).2.2] := by
 have key : Con Tryz.prog 49 [vM m, vs 0 c] [] fun r _ => leV (r.freeze fun _ => true) (.tup [vs 0 (efE m c).1, vs 0 (efE m c).2.1, vi (efE m c).2.2]) := by
  have e1 : vM m = .ag [vi m.kind, vss m.states, vss m.places, vss m.letters, vs 0 m.ranks, vi m.levels, vi m.age, .sl 0 14 (m.rules.map vRule), vi m.start.n, .sl 0 2 (m.start.kids.map vV)] := rfl
  have hln := names_lens hm
  have c1 := con_CheckG m hm
  by_cases h0 : checkF m = 0
  case neg =>
   have e : efE m c = ([], [], checkF m) := by unfold efE; rw [if_pos h0]
   have hn : (checkF m != 0) = true := bne_iff_ne.2 h0
   rw [e]
   rw [e1] at c1 ⊢
   refine Con.intro Tryz.func49 rfl Tryz.ntmps49 Tryz.results49 (by kernel_rfl) (by simp) 0 (by simp) ?_
   simp only [go_sem, vss]
   refine CallU.free c1 (by simp only [go_sem]) (by simp only [go_sem, vss]) ?_
   rintro x bx rfl
   simp only [go_sem, hn]
   exact err_le _
  have hn : (checkF m != 0) = false := by rw [h0]; rfl
  by_cases h1 : m.kind = 1
  case neg =>
   have e : efE m c = ([], [], 15) := by unfold efE; rw [if_neg (fun h => h h0), if_pos h1]
   have hk : (m.kind == 1) = false := beq_eq_false_iff_ne.2 h1
   have hp : Con Tryz.prog 86 [vM m] [] fun x _ => x = vb false := by
    rw [e1]
    refine Con.intro Tryz.func86 rfl Tryz.ntmps86 Tryz.results86 (by kernel_rfl) (by simp) 1 (by simp) ?_
    simp only [go_sem, vss, hk]
   rw [e]
   rw [e1] at c1 hp ⊢
   refine Con.intro Tryz.func49 rfl Tryz.ntmps49 Tryz.results49 (by kernel_rfl) (by simp) 0 (by simp) ?_
   simp only [go_sem, vss]
   refine CallU.free c1 (by simp only [go_sem]) (by simp only [go_sem, vss]) ?_
   rintro x bx rfl
   simp only [go_sem, hn]
   refine CallU.free hp (by simp only [go_sem]) (by simp only [go_sem, vss]) ?_
   rintro x bx rfl
   simp only [go_sem]
   exact err_le _
  have hp := con_mplain m h1 (by omega)
  have hG := good_of h0 h1
  by_cases hok : m.rules.all stillB = true /\ c.length <= 64 /\ c.any (badRule m.rules.length) = false
  ·have e : efE m c = (needL m.places.length m.rules c, chgL m.places.length m.rules c, 0) := by
    unfold efE
    rw [if_neg (fun h => h h0), if_neg (fun h => h h1), if_neg (by rw [hok.1]; decide), if_neg (by omega), if_neg (by rw [hok.2.2]; decide)]
   rw [e]
   exact (con_cEffect m c hG hok.1 (rules_ok hok.2.2) hok.2.1).mono fun x b hx => by subst hx; exact leV_refl _
  rw [e1] at c1 hp ⊢
  refine Con.intro Tryz.func49 rfl Tryz.ntmps49 Tryz.results49 (by kernel_rfl) (by simp) 0 (by simp) ?_
  simp only [go_sem, vss]
  refine CallU.free c1 (by simp only [go_sem]) (by simp only [go_sem, vss]) ?_
  rintro x bx rfl
  simp only [go_sem, hn]
  refine CallU.free hp (by simp only [go_sem]) (by simp only [go_sem, vss]) ?_
  rintro x bx rfl
  cases hst : m.rules.all stillB
  ·have e : efE m c = ([], [], 15) := by unfold efE; rw [if_neg (fun h => h h0), if_neg (fun h => h h1), if_pos hst]
   rw [e]
   simp only [go_sem]
   exact err_le _
  by_cases h64 : 64 < c.length
  ·have e : efE m c = ([], [], 1) := by unfold efE; rw [if_neg (fun h => h h0), if_neg (fun h => h h1), if_neg (by rw [hst]; decide), if_pos h64]
   rw [e]
   simp only [go_sem, h64, List.length_map]
   exact err_le _
  have hany : c.any (badRule m.rules.length) = true := by
   cases ha : c.any (badRule m.rules.length)
   ·exact absurd ⟨hst, by omega, ha⟩ hok
   ·rfl
  have e : efE m c = ([], [], 16) := by unfold efE; rw [if_neg (fun h => h h0), if_neg (fun h => h h1), if_neg (by rw [hst]; decide), if_neg h64, if_pos hany]
  rw [e]
  simp only [go_sem, h64, List.length_map]
  refine CallU.look (con_containsInt c 105 [.fp (cM m) 0] (badRule m.rules.length) (by simp only [go_sem]) (fun x _ => con_eff1 m x) (by omega)) (by simp only [go_sem]) (by simp only [go_sem, cM, vss]) ?_
  rintro x bx rfl
  simp only [go_sem, hany]
  exact err_le _
 exact (Con.freezeR (fun _ => true) key).weak fun r b ⟨r0, h0, h1⟩ => by
  subst h1
  exact ⟨_, rfl, h0⟩
theorem con_rEffectG (m : MD) (c : List Int) (hm : LenM m) (hl : c.length <= 1000000) : Con Tryz.prog 50 [vM m, vs 0 c] [] fun r _ => r = .tup [vs 0 (efE m c).1, vs 0 (efE m c).2.1, vi (efE m c).2.2] := by
 have key : Con Tryz.prog 50 [vM m, vs 0 c] [] fun r _ => leV (r.freeze fun _ => true) (.tup [vs 0 (efE m c).1, vs 0 (efE m c).2.1, vi (efE m c).2.2]) := by
  have e1 : vM m = .ag [vi m.kind, vss m.states, vss m.places, vss m.letters, vs 0 m.ranks, vi m.levels, vi m.age, .sl 0 14 (m.rules.map vRule), vi m.start.n, .sl 0 2 (m.start.kids.map vV)] := rfl
  have hln := names_lens hm
  have c1 := con_rCheckG m hm
  rw [e1] at c1 ⊢
  refine Con.intro Tryz.func50 rfl Tryz.ntmps50 Tryz.results50 (by kernel_rfl) (by simp) 0 (by simp) ?_
  simp only [go_sem, vss]
  refine CallU.free c1 (by simp only [go_sem]) (by simp only [go_sem, vss]) ?_
  rintro x bx rfl
  by_cases h0 : checkF m = 0
  case neg =>
   have e : efE m c = ([], [], checkF m) := by unfold efE; rw [if_pos h0]
   have hn : (checkF m != 0) = true := bne_iff_ne.2 h0
   rw [e]
   simp only [go_sem, hn]
   exact err_le _
  have hn : (checkF m != 0) = false := by rw [h0]; rfl
  by_cases h1 : m.kind = 1
  case neg =>
   have e : efE m c = ([], [], 15) := by unfold efE; rw [if_neg (fun h => h h0), if_pos h1]
   have hk : (m.kind != 1) = true := bne_iff_ne.2 h1
   rw [e]
   simp only [go_sem, hn, hk]
   exact err_le _
  have hk : (m.kind != 1) = false := by rw [h1]; rfl
  have hG := good_of h0 h1
  have h2 := hG.places
  have h3 := hG.few
  have hsm := good_small hG
  simp only [go_sem, hn, hk]
  refine LoopK.intro (fun i : Nat => ⟨120, [(1, vs 0 c), (2, .pb 0 0), (8, vi i)], [cM m]⟩)
   (fun i => m.rules.length - i) (fun i => i <= m.rules.length /\ ∀ j, j < i -> stillB m.rules[j]! = true) 0 ⟨by omega, fun j hj => by omega⟩ ?_ ?_
  ·simp only [go_sem, cM, vss]
   all_goals exact leB_self _
  rintro i ⟨hi, hb⟩
  by_cases h : i < m.rules.length
  ·have hg := getRule h
   have hw : IntKind.i64.wrap (i + 1) = i + 1 := wrap_in (by omega) (by omega)
   by_cases hq : 0 < m.rules[i]!.move.length
   ·have hs : m.rules.all stillB = false := by
     rw [List.all_eq_false]
     exact ⟨_, mem_bangI h, by unfold stillB; rw [beq_eq_false_iff_ne.2 (by omega)]; decide⟩
    have e : efE m c = ([], [], 15) := by unfold efE; rw [if_neg (fun h => h h0), if_neg (fun h => h h1), if_pos hs]
    rw [e]
    simp only [go_sem, cM, vss, h, hg, hq, List.length_map]
    exact err_le _
   ·simp only [go_sem, cM, vss, h, hg, hq, hw, List.length_map]
    refine roundK.intro (i + 1) ⟨by omega, fun j hj => ?_⟩ (by omega) ?_
    ·by_cases e : j = i
     ·subst e; unfold stillB; exact beq_iff_eq.2 (by omega)
     ·exact hb j (by omega)
    simp only [go_sem]
  have hst : m.rules.all stillB = true := List.all_eq_true.2 fun x hx => by
   obtain ⟨j, hj, rfl⟩ := List.getElem_of_mem hx
   have := hb j (by omega)
   rw [getElem!_pos _ j hj] at this; exact this
  by_cases h64 : 64 < c.length
  ·have e : efE m c = ([], [], 1) := by unfold efE; rw [if_neg (fun h => h h0), if_neg (fun h => h h1), if_neg (by rw [hst]; decide), if_pos h64]
   rw [e]
   simp only [go_sem, cM, vss, h, h64, List.length_map]
   exact err_le _
  have e16 : c.any (badRule m.rules.length) = true -> efE m c = ([], [], 16) := fun ha => by
   unfold efE; rw [if_neg (fun h => h h0), if_neg (fun h => h h1), if_neg (by rw [hst]; decide), if_neg h64, if_pos ha]
  have eok : c.any (badRule m.rules.length) = false -> efE m c = (needL m.places.length m.rules c, chgL m.places.length m.rules c, 0) := fun ha => by
   unfold efE; rw [if_neg (fun h => h h0), if_neg (fun h => h h1), if_neg (by rw [hst]; decide), if_neg h64, if_neg (by rw [ha]; decide)]
  simp only [go_sem, cM, vss, h, h64, List.length_map]
  refine DrawK.walk 10 mixed (by kernel_rfl) ?_
  simp only [go_sem, List.length_map]
  refine ⟨Nat.le_refl _, by omega, by omega, Nat.le_refl _, by omega, by omega, ?_⟩
  obtain ⟨np, hnp⟩ : ∃ np, np = m.places.length := ⟨_, rfl⟩
  rw [<- hnp] at h2 hsm eok ⊢
  have hrep : List.replicate np (AV.sc (.int .i64 0)) = (needL np m.rules (c.take 0)).map vi := by unfold needL; simp [tksF, needA, effFold, List.map_const']; exact .inr rfl
  have hrep2 : List.replicate np (AV.sc (.int .i64 0)) = (chgL np m.rules (c.take 0)).map vi := by unfold chgL; simp [tksF, chg, List.map_const']; exact .inr rfl
  refine LoopK.intro (fun j : Nat => ⟨120, [(1, vs 0 c), (2, .pb 0 0), (9, vs 2816 (needL np m.rules (c.take j))), (10, vs 3072 (chgL np m.rules (c.take j))), (11, vi j)], [cM m]⟩)
   (fun j => c.length - j) (fun j => j <= c.length /\ ∀ i, i < j -> badRule m.rules.length c[i]! = false) 0 ⟨by omega, fun i hi => by omega⟩ ?_ ?_
  ·simp only [go_sem, cM, vss]
   exact ⟨by rw [hrep]; exact leV_refl _, by rw [hrep2]; exact leV_refl _⟩
  rintro j ⟨hj, hbj⟩
  have nl := needL_len np m.rules (c.take j)
  have cl := chgL_len np m.rules (c.take j)
  by_cases hjl : j < c.length
  case neg =>
   have e1 : c.take j = c := List.take_of_length_le (by omega)
   have ha : c.any (badRule m.rules.length) = false := List.any_eq_false.2 fun x hx => by
    obtain ⟨q, hq, rfl⟩ := List.getElem_of_mem hx
    have := hbj q (by omega)
    rw [getElem!_pos _ q hq] at this; rw [this]; decide
   rw [eok ha]
   simp only [go_sem, cM, vss, hjl, e1, List.length_map]
   exact leV_refl _
  have hg := getv hjl
  have hw : IntKind.i64.wrap (j + 1) = j + 1 := wrap_in (by omega) (by omega)
  simp only [go_sem, cM, vss, hjl, List.length_map]
  refine DrawK.walk 15 mixed (by kernel_rfl) ?_
  by_cases hneg : c[j]! < 0
  ·have ha : c.any (badRule m.rules.length) = true := List.any_eq_true.2 ⟨_, mem_bangI hjl, by unfold badRule; rw [decide_eq_true hneg]; rfl⟩
   rw [e16 ha]
   simp only [go_sem, hjl, hg, hneg, List.length_map]
   exact err_le _
  by_cases hbig : (m.rules.length : Int) <= c[j]!
  ·have ha : c.any (badRule m.rules.length) = true := List.any_eq_true.2 ⟨_, mem_bangI hjl, by unfold badRule; rw [decide_eq_true hbig, Bool.or_true]⟩
   rw [e16 ha]
   simp only [go_sem, hjl, hg, hneg, hbig, List.length_map]
   exact err_le _
  obtain ⟨k, ek, hk⟩ : ∃ k : Nat, c[j]! = k /\ k < m.rules.length := ⟨c[j]!.toNat, by omega, by omega⟩
  have hgr := getRule hk
  have hrk := hsm _ (mem_bangI hk)
  rw [ek] at hg hneg hbig
  simp only [go_sem, hjl, hg, hneg, hbig, List.length_map]
  refine DrawK.walk 9 mixed (by kernel_rfl) ?_
  simp only [go_sem, hjl, hg, hgr, hk, List.length_map]
  obtain ⟨r, er⟩ : ∃ r, r = m.rules[k]! := ⟨_, rfl⟩
  rw [<- er] at hrk ⊢
  have hcs : ∀ q, q < j -> 0 <= c[q]! /\ c[q]! < m.rules.length := fun q hq => by
   have := hbj q hq
   unfold badRule at this
   rw [Bool.or_eq_false_iff] at this
   have a1 := of_decide_eq_false this.1
   have a2 := of_decide_eq_false this.2
   omega
  have hct : ∀ x ∈ c.take j, 0 <= x /\ x < (m.rules.length : Int) := fun x hx => by
   obtain ⟨q, hq, rfl⟩ := List.getElem_of_mem hx
   rw [List.length_take] at hq
   have := hcs q (by omega)
   rw [getElem!_pos c q (by omega)] at this
   rw [List.getElem_take]
   exact this
  have hbnd : ∀ p, p < np -> 0 <= needA (tksF m.rules (c.take j) p) /\ needA (tksF m.rules (c.take j) p) <= 1040 /\ -1024 <= chg (tksF m.rules (c.take j) p) /\ chg (tksF m.rules (c.take j) p) <= 1024 := fun p hp => by
   have h5 := tks_bnd hsm hct hp
   have h6 := needA_bnd h5 (by omega)
   have h7 := chg_bnd h5 (by omega)
   have h8 := tks_len m.rules (c.take j) p
   have h9 : (c.take j).length <= 64 := by rw [List.length_take]; omega
   have h10 := needA_nonneg (tksF m.rules (c.take j) p)
   rw [h8] at h6 h7
   omega
  have hnx : ∀ p, needA (tksF m.rules (c.take (j + 1)) p) = if needA (tksF m.rules (c.take j) p) <= r.need[p]! - chg (tksF m.rules (c.take j) p) then r.need[p]! - chg (tksF m.rules (c.take j) p) else needA (tksF m.rules (c.take j) p) := fun p => by
   have := need_take (rules := m.rules) (p := p) hjl
   rw [ek, Int.toNat_natCast, <- er] at this; exact this
  have hcx : ∀ p, chg (tksF m.rules (c.take (j + 1)) p) = chg (tksF m.rules (c.take j) p) + (r.give[p]! - r.need[p]!) := fun p => by
   have := chg_take (rules := m.rules) (p := p) hjl
   rw [ek, Int.toNat_natCast, <- er] at this; exact this
  obtain ⟨f1, e1⟩ : ∃ f1 : Nat -> Int, f1 = fun p => needA (tksF m.rules (c.take (j + 1)) p) := ⟨_, rfl⟩
  obtain ⟨f0, e0⟩ : ∃ f0 : Nat -> Int, f0 = fun p => needA (tksF m.rules (c.take j) p) := ⟨_, rfl⟩
  obtain ⟨g1, e3⟩ : ∃ g1 : Nat -> Int, g1 = fun p => chg (tksF m.rules (c.take (j + 1)) p) := ⟨_, rfl⟩
  obtain ⟨g0, e2⟩ : ∃ g0 : Nat -> Int, g0 = fun p => chg (tksF m.rules (c.take j) p) := ⟨_, rfl⟩
  have n0 : needL np m.rules (c.take j) = mixL np 0 f1 f0 := by rw [mixL_zero, e0]; rfl
  have n1 : needL np m.rules (c.take (j + 1)) = mixL np np f1 f0 := by rw [mixL_full, e1]; rfl
  have c0 : chgL np m.rules (c.take j) = mixL np 0 g1 g0 := by rw [mixL_zero, e2]; rfl
  have c1 : chgL np m.rules (c.take (j + 1)) = mixL np np g1 g0 := by rw [mixL_full, e3]; rfl
  rw [n0, c0]
  refine LoopK.intro (fun i : Nat => ⟨120, [(1, vs 0 c), (2, .pb 0 0), (9, vs 2816 (mixL np i f1 f0)), (10, vs 3072 (mixL np i g1 g0)), (11, vi j), (12, .pe 832 14 [.ag [vStr r.name, vi r.src, vi r.dst, vs 0 r.need, vs 0 r.give, vs 0 r.move, vi r.channel, vi r.act, vi r.letter, vs 0 r.path, vs 0 r.next, .sl 0 3 (r.takes.map vTake), vs 0 r.makes, vi r.second]] 0 0), (13, vi i)], [cM m]⟩)
   (fun i => np - i) (fun i => i <= np) 0 (by omega) ?_ ?_
  ·simp only [go_sem, cM, vss]
  rintro i hi
  have ml := mixL_len np i f1 f0
  have ml2 := mixL_len np i g1 g0
  by_cases hil : i < np
  ·have hb := hbnd i hil
   have hw2 : IntKind.i64.wrap (i + 1) = i + 1 := wrap_in (by omega) (by omega)
   have q1 := getv (l := mixL np i f1 f0) (i := i) (by omega)
   have q2 := getv (l := mixL np i g1 g0) (i := i) (by omega)
   have q3 := getv (l := r.need) (i := i) (by rw [hrk.1]; exact hil)
   have q4 := getv (l := r.give) (i := i) (by rw [hrk.2.1]; exact hil)
   have l3 : i < r.need.length := by rw [hrk.1]; exact hil
   have l4 : i < r.give.length := by rw [hrk.2.1]; exact hil
   have b3 := hrk.2.2.1 _ (mem_bangI l3)
   have b4 := hrk.2.2.2 _ (mem_bangI l4)
   have f0i : f0 i = needA (tksF m.rules (c.take j) i) := by rw [e0]
   have g0i : g0 i = chg (tksF m.rules (c.take j) i) := by rw [e2]
   have hf1 := hnx i
   have hg1 := hcx i
   have f1i : f1 i = if f0 i <= r.need[i]! - g0 i then r.need[i]! - g0 i else f0 i := by rw [e1, f0i, g0i]; exact hf1
   have g1i : g1 i = g0 i + (r.give[i]! - r.need[i]!) := by rw [e3, g0i]; exact hg1
   rw [<- f0i, <- g0i] at hb
   rw [mixL_at hil, if_neg (by omega)] at q1 q2
   have w1 : IntKind.i64.wrap (r.need[i]! - g0 i) = r.need[i]! - g0 i := wrap_in (by omega) (by omega)
   have w2 : IntKind.i64.wrap (r.give[i]! - r.need[i]!) = r.give[i]! - r.need[i]! := wrap_in (by omega) (by omega)
   have w3 : IntKind.i64.wrap (g0 i + (r.give[i]! - r.need[i]!)) = g1 i := by rw [g1i]; exact wrap_in (by omega) (by omega)
   have hmx : max (f0 i) (r.need[i]! - g0 i) = f1 i := by rw [f1i, Int.max_def]
   have hs1 := mixL_set (np := np) (i := i) (f := f1) (g := f0)
   have hs2 := mixL_set (np := np) (i := i) (f := g1) (g := g0)
   simp only [go_sem, cM, vss, hil, ml]
   refine DrawK.walk 18 mixed (by kernel_rfl) ?_
   simp only [go_sem, ml, ml2, hil, q1, q2, q3, l3, w1]
   refine DrawK.walk 17 mixed (by kernel_rfl) ?_
   simp only [go_sem, ml2, hil, q2, q3, q4, l3, l4, w2, w3]
   rw [hmx]
   simp only [modify_vi, hs1, hs2]
   refine roundK.intro (i + 1) (by show i + 1 <= np; omega) (by show np - (i + 1) < np - i; omega) ?_
   simp only [go_sem, hw2]
  ·obtain rfl : i = np := by omega
   simp only [go_sem, cM, vss, hil, hw, ml]
   refine roundK.intro (j + 1) ⟨by omega, fun q hq => ?_⟩ (by omega) ?_
   ·by_cases e : q = j
    ·subst e; unfold badRule; rw [decide_eq_false (by omega), decide_eq_false (by omega)]; rfl
    ·exact hbj q (by omega)
   simp only [go_sem, n1, c1]
 exact (Con.freezeR (fun _ => true) key).weak fun r b ⟨r0, h0, h1⟩ => by
  subst h1
  exact ⟨_, rfl, h0⟩
theorem efE_len {m : MD} (c : List Int) (h : LenM m) : (efE m c).1.length <= 1000000 /\ (efE m c).2.1.length <= 1000000 := by
 have hl := (names_lens h).2.1
 unfold efE
 repeat' split
 all_goals simp only [List.length_nil, needL_len, chgL_len]
 all_goals omega
theorem apE_ok (m : MD) (rule : Int) (c : CV) : (apE m rule c).1.Ok := by
 have hno : noV.Ok := .mk _ _ (by simp) fun x hx => by cases hx
 unfold apE
 by_cases h0 : checkE m rule c = 0
 ·obtain ⟨hG, hr, s, v, rfl, hC⟩ := checkE_zero h0
  rw [if_neg (fun h => h h0)]
  split
  ·split
   ·obtain ⟨i, rfl⟩ : ∃ i : Nat, rule = i := ⟨rule.toNat, by omega⟩
    have h3 := hG.places
    have hk := (good_small hG _ (mem_bangI (i := i) (by omega))).2.1
    exact (slim_cfg (by rw [Int.toNat_natCast]; unfold moveV; rw [moveN_len, hk]; omega)).ok
   ·exact hno
  ·exact hno
 ·rw [if_pos h0]; exact hno
def counterT (l : List Int) (rule : Int) (rules : List Int) (own : MD) (c : CV) (τ : St) : Prop := ∃ (m1 m2 : MD) (s : DS), ModE m1 /\ ModE m2 /\ Dk l s /\ τ = ⟨181, [(1, vi rule), (3, vs 0 rules), (6, .pb 0 0), (9, .pb 1 0), (10, .pb 2 0), (61, .sl 3968 10 [vM own, vM m1, vM m2]), (62, vi 3), (63, vi 0)], [[vi c.n, .sl 0 2 (c.kids.map vV)], deckA l s, cM own]⟩
theorem counterT.mk {l : List Int} {rule : Int} {rules : List Int} {own m1 m2 : MD} {c : CV} {s : DS} (h1 : ModE m1) (h2 : ModE m2) (h3 : Dk l s) : counterT l rule rules own c ⟨181, [(1, vi rule), (3, vs 0 rules), (6, .pb 0 0), (9, .pb 1 0), (10, .pb 2 0), (61, .sl 3968 10 [vM own, vM m1, vM m2]), (62, vi 3), (63, vi 0)], [[vi c.n, .sl 0 2 (c.kids.map vV)], deckA l s, cM own]⟩ := ⟨m1, m2, s, h1, h2, h3, rfl⟩
def counterTree : Tr := .front 1 (.front 3 (.front 7 (.alt (.one 0 (.one 2 (.one 4 (.one 5 (.one 6 .done))))) (.one 2 (.alt (.one 0 (.one 4 (.one 5 (.one 6 .done)))) (.one 4 (.one 0 (.one 5 (.one 6 .done)))))))))
theorem con_counterLaw (l : List Int) (rule : Int) (c : CV) (rules : List Int) (hc : c.Ok) : Con Tryz.prog 8 [vs 0 l, vi rule, vV c, vs 0 rules] [] fun r _ => r = vb true := by
 have e1 : ∀ m : MD, vM m = .ag [vi m.kind, .sl 0 1 (m.states.map vStr), .sl 0 1 (m.places.map vStr), .sl 0 1 (m.letters.map vStr), vs 0 m.ranks, vi m.levels, vi m.age, .sl 0 14 (m.rules.map vRule), vi m.start.n, .sl 0 2 (m.start.kids.map vV)] := fun _ => rfl
 have ec := vV_eq c
 rw [ec]
 refine Con.intro Tryz.func8 rfl Tryz.ntmps8 Tryz.results8 (by kernel_rfl) (by simp) 0 (by simp) ?_
 simp only [go_sem]
 refine CallU.free con_sane17 (by simp only [go_sem]) (by simp only [go_sem]) ?_
 rintro r bx rfl
 simp only [go_sem]
 refine CallU.free (con_dFew l) (by simp only [go_sem]) (by simp only [go_sem]) ?_
 rintro r bx rfl
 by_cases hf : (l.length : Int) <= 400
 case neg =>
  simp only [go_sem, hf]
  refine CallU.free con_sane17 (by simp only [go_sem]) (by simp only [go_sem]) ?_
  rintro r bx rfl
  simp only [go_sem]
 by_cases hck : 12 < c.kids.length
 ·simp only [go_sem, hf, hck, List.length_map]
  refine CallU.free con_sane17 (by simp only [go_sem]) (by simp only [go_sem]) ?_
  rintro r bx rfl
  simp only [go_sem]
 by_cases hrl : 80 < rules.length
 ·simp only [go_sem, hf, hck, hrl, List.length_map]
  refine CallU.free con_sane17 (by simp only [go_sem]) (by simp only [go_sem]) ?_
  rintro r bx rfl
  simp only [go_sem]
 simp only [go_sem, hf, hck, hrl, List.length_map]
 refine CallU.news (bx0 := []) (con_dNew l) (by simp only [go_sem]) (by simp only [go_sem]) (by simp only [go_sem]) (by simp only [go_sem]) (by simp only [go_sem]) ?_
 rintro r b ⟨rfl, rfl⟩
 simp only [go_sem]
 have hd0 : Dk l (0, 11400714819323198485) := deck_dk hf
 refine CallU.boxes (i := 1) (is := []) (bx0 := [deckA l (0, 11400714819323198485)]) (con_dModelX l (0, 11400714819323198485) 1 hd0 (by omega)) (by simp only [go_sem]) (by simp only [go_sem]) (by simp only [go_sem]) (by simp only [go_sem]) (by simp only [go_sem]) ?_
 rintro r b ⟨ns, np, nl, ra, lv, ag, drules, st, s2, hM, hd_2, rfl, rfl⟩
 have hO : OwnX (dealtG 1 ns np nl ra lv ag drules st) := hM.num.own
 have hE : ModE (dealtG 1 ns np nl ra lv ag drules st) := ⟨hM.len, hM.slim, hM.kids⟩
 have hfew : (dealtG 1 ns np nl ra lv ag drules st).rules.length <= 4 := hM.few
 generalize dealtG 1 ns np nl ra lv ag drules st = own at hO hE hfew ⊢
 rw [e1 own]
 simp only [go_sem]
 have hb1 := fun s h => con_dBent l s 1 h (by omega)
 have hm0 : ∀ s, Dk l s -> Con Tryz.prog 19 [.pb 0 0, vi 0] [deckA l s] fun r b => ∃ m s', ModE m /\ Dk l s' /\ r = vM m /\ b = [deckA l s'] := fun s h =>
  (con_dModel0 l s h).weak fun r b ⟨k, ns, np, nl, ra, lv, ag, rules, st, s', h1, h2, h3, h4⟩ => ⟨_, ⟨_, s', ⟨h1.len, h1.slim, h1.kids⟩, h2, h3, h4⟩, leV_refl _⟩
 refine DrawK.meetE (counterT l rule rules own c) ?_ ?_
 ·refine DrawK.tree counterTree mixed (by kernel_rfl) ?_
  unfold counterTree
  simp only [go_sem]
  refine andK_mk ?_ ?_
  ·refine CallU.boxes (i := 1) (is := []) (bx0 := [deckA l s2]) (hb1 s2 hd_2) (by simp only [go_sem]) (by simp only [go_sem]) (by simp only [go_sem]) (by simp only [go_sem]) (by simp only [go_sem]) ?_
   rintro r b ⟨m1, sA, hm1, hdA, rfl, rfl⟩
   rw [e1 m1]
   simp only [go_sem]
   refine CallU.boxes (i := 1) (is := []) (bx0 := [deckA l sA]) (hm0 sA hdA) (by simp only [go_sem]) (by simp only [go_sem]) (by simp only [go_sem]) (by simp only [go_sem]) (by simp only [go_sem]) ?_
   rintro r b ⟨m2, sB, hm2, hdB, rfl, rfl⟩
   rw [e1 m2]
   simp only [go_sem]
   exact meetT.intro _ (counterT.mk hm1 hm2 hdB) (by simp only [go_sem, cM, vss])
  ·simp only [go_sem]
   refine CallU.boxes (i := 1) (is := []) (bx0 := [deckA l s2]) (hb1 s2 hd_2) (by simp only [go_sem]) (by simp only [go_sem]) (by simp only [go_sem]) (by simp only [go_sem]) (by simp only [go_sem]) ?_
   rintro r b ⟨m1, sA, hm1, hdA, rfl, rfl⟩
   rw [e1 m1]
   simp only [go_sem]
   refine andK_mk ?_ ?_
   ·refine CallU.boxes (i := 1) (is := []) (bx0 := [deckA l sA]) (hm0 sA hdA) (by simp only [go_sem]) (by simp only [go_sem]) (by simp only [go_sem]) (by simp only [go_sem]) (by simp only [go_sem]) ?_
    rintro r b ⟨m2, sB, hm2, hdB, rfl, rfl⟩
    rw [e1 m2]
    simp only [go_sem]
    exact meetT.intro _ (counterT.mk hm1 hm2 hdB) (by simp only [go_sem, cM, vss])
   ·simp only [go_sem]
    refine CallU.boxes (i := 1) (is := []) (bx0 := [deckA l sA]) (hm0 sA hdA) (by simp only [go_sem]) (by simp only [go_sem]) (by simp only [go_sem]) (by simp only [go_sem]) (by simp only [go_sem]) ?_
    rintro r b ⟨m2, sB, hm2, hdB, rfl, rfl⟩
    rw [e1 m2]
    simp only [go_sem]
    exact meetT.intro _ (counterT.mk hm1 hm2 hdB) (by simp only [go_sem, cM, vss])
 rintro τ ⟨m1, m2, s3, hm1, hm2, hd_3, rfl⟩
 obtain ⟨Ms, hMs⟩ : ∃ Ms : List MD, Ms = [own, m1, m2] := ⟨_, rfl⟩
 have hMk : ∀ m ∈ Ms, ModE m := by
  rw [hMs]
  intro m hm
  simp only [List.mem_cons, List.not_mem_nil, or_false] at hm
  rcases hm with rfl | rfl | rfl
  ·exact hE
  ·exact hm1
  ·exact hm2
 have hMl : Ms.length = 3 := by rw [hMs]; rfl
 simp only [go_sem]
 refine LoopK.freeze (fun _ => true) (fun p : Nat × List Nat × DS => ⟨181, [(1, vi rule), (3, vs 0 rules), (6, .pb 0 0), (9, .pb 1 0), (10, .pb 2 0), (61, .sl 0 10 (Ms.map vM)), (62, vi 3), (63, vi p.1)], [vi c.n, .sl 0 2 (c.kids.map vV)] :: deckA l p.2.2 :: cM own :: Jk p.2.1⟩)
  (fun p => 3 - p.1) (fun p => p.1 <= 3 /\ Dk l p.2.2) (0, [], s3) ⟨by simp, hd_3⟩ ?_ ?_
 ·rw [hMs]
  simp only [go_sem, cM, vss, List.map_cons, List.map_nil]
  exact leB_self _
 clear hMs
 rintro ⟨i, ks, s4⟩ ⟨hi, hd_4⟩
 simp only at hi hd_4
 have hB := Jk_len ks
 by_cases h : i < 3
 case neg =>
  have hie : i = 3 := by omega
  subst hie
  simp only [go_sem]
 have hiI : (i : Int) < 3 := by omega
 have hiM : i < Ms.length := by omega
 have hw1 : IntKind.i64.wrap (i + 1) = i + 1 := wrap_in (by omega) (by omega)
 have gm : (Ms.map vM)[i]? = some (vM Ms[i]!) := by rw [List.getElem?_map, List.getElem?_eq_getElem hiM, getElem!_pos Ms i hiM]; rfl
 have km := hMk _ (mem_bangI hiM)
 generalize Ms[i]! = m at gm km
 rw [e1 m] at gm
 simp only [go_sem] at gm
 have n0 := fun L : List (List AV) => app_at0 (L := L) hB
 have n1 := fun (L : List (List AV)) (i : Nat) => app_at (L := L) (i := i) hB
 have s0 := fun (L : List (List AV)) z => app_set0 (L := L) (z := z) hB
 have s1 := fun (L : List (List AV)) (i : Nat) z => app_setN (L := L) (i := i) (z := z) hB
 simp only [go_sem, cM, vss, n0, s0, hB, List.cons_append, List.length_cons, List.length_nil, hiI, gm, hMl, List.length_map]
 have hn := nextV_lt (l := l) (s := s4) (n := 5) (by omega)
 have hd_5 : Dk l (nextS l s4 5) := nextS_dk hd_4
 refine CallU.boxes (i := 1) (is := []) (bx0 := [deckA l s4]) (con_dNext l s4 5 hd_4) (by simp only [go_sem]) (by simp only [go_sem]) (by simp only [go_sem]) (by simp only [go_sem]) (by simp only [go_sem]) ?_
 rintro r b ⟨rfl, rfl⟩
 simp only [go_sem, hB, List.append_assoc, List.cons_append, List.nil_append, List.length_append, List.length_cons, List.length_nil]
 obtain ⟨Rs, hRs⟩ : ∃ Rs : List Int, Rs = [rule, nextV l s4 5, 0] := ⟨_, rfl⟩
 have hRl : Rs.length = 3 := by rw [hRs]; rfl
 refine LoopK.freeze (fun _ => true) (fun p : Nat × List Nat × DS => ⟨181, [(1, vi rule), (3, vs 0 rules), (6, .pb 0 0), (9, .pb 1 0), (10, .pb 2 0), (61, .sl 0 10 (Ms.map vM)), (62, vi 3), (63, vi i), (12, .pb (ks.length + 1 + 1 + 1) 0), (70, vs 0 Rs), (71, vi 3), (72, vi p.1)], [vi c.n, .sl 0 2 (c.kids.map vV)] :: deckA l p.2.2 :: cM own :: (Jk ks ++ (cM m :: Jk p.2.1))⟩)
  (fun p => 3 - p.1) (fun p => p.1 <= 3 /\ Dk l p.2.2) (0, [], nextS l s4 5) ⟨by simp, hd_5⟩ ?_ ?_
 ·rw [hRs]
  simp only [go_sem, cM, vss, List.map_cons, List.map_nil]
  exact leB_self _
 clear hRs
 clear hd_5
 rintro ⟨j, ds, s5⟩ ⟨hj, hd_5⟩
 simp only at hj hd_5
 have hD := Jk_len ds
 by_cases h2 : j < 3
 case neg =>
  have hje : j = 3 := by omega
  as_aux_lemma =>
   subst hje
   have hwl : IntKind.i64.wrap ((own.rules.length : Int) + 1) = own.rules.length + 1 := wrap_in (by omega) (by omega)
   simp only [go_sem, cM, vss, hwl]
   have hwd := wdV_len (l := l) (s := s5) (letters := own.rules.length + 1) (most := 5) (by omega)
   have hd_6 : Dk l (wdS l s5 (own.rules.length + 1) 5) := wdS_dk hd_5
   refine CallU.boxes (i := 1) (is := []) (bx0 := [deckA l s5]) (con_dWordF l s5 (own.rules.length + 1) 5 hd_5 (by omega) (by omega)) (by simp only [go_sem]) (by simp only [go_sem]) (by simp only [go_sem]) (by simp only [go_sem]) (by simp only [go_sem]) ?_
   rintro r b ⟨rfl, rfl⟩
   simp only [go_sem, hB, List.append_assoc, List.cons_append, List.nil_append, List.length_append, List.length_cons, List.length_nil]
   generalize wdV l s5 (own.rules.length + 1) 5 = wd at hwd
   generalize wdS l s5 (own.rules.length + 1) 5 = s6 at hd_6
   obtain ⟨Ws, hWs⟩ : ∃ Ws : List (List Int), Ws = [rules, wd, []] := ⟨_, rfl⟩
   have hWk : ∀ w ∈ Ws, w.length <= 1000000 := by
    rw [hWs]
    intro w hw
    simp only [List.mem_cons, List.not_mem_nil, or_false] at hw
    rcases hw with rfl | rfl | rfl
    ·omega
    ·omega
    ·simp
   have hWl : Ws.length = 3 := by rw [hWs]; rfl
   refine LoopK.freeze (fun _ => true) (fun p : Nat => ⟨181, [(1, vi rule), (3, vs 0 rules), (6, .pb 0 0), (9, .pb 1 0), (10, .pb 2 0), (61, .sl 0 10 (Ms.map vM)), (62, vi 3), (63, vi i), (12, .pb (ks.length + 1 + 1 + 1) 0), (144, .sl 0 1 (Ws.map (vs 0))), (145, vi 3), (146, vi p)], [vi c.n, .sl 0 2 (c.kids.map vV)] :: deckA l s6 :: cM own :: (Jk ks ++ (cM m :: Jk ds))⟩)
    (fun p => 3 - p) (fun p => p <= 3) 0 (by omega) ?_ ?_
   ·as_aux_lemma =>
     rw [hWs]
     simp only [go_sem, cM, vss, List.map_cons, List.map_nil]
     exact leV_slE rfl (fun y hy => by
      simp only [List.mem_cons, List.not_mem_nil, or_false] at hy
      rcases hy with rfl | rfl | rfl <;> rfl) (.cons (Sub.refl _) (.cons (Sub.refl _) (.cons (Sub.nil 1) (.nil _))))
   clear hWs
   rintro k hk
   by_cases h3 : k < 3
   case neg =>
    as_aux_lemma =>
     have hke : k = 3 := by omega
     subst hke
     simp only [go_sem, cM, vss, hw1]
     refine roundK.freeze (fun _ => true) (i + 1, ks ++ (10 :: ds), s6) ⟨by show i + 1 <= 3; omega, hd_6⟩ (by show 3 - (i + 1) < 3 - i; omega) ?_
     simp only [go_sem]
     exact leB_JkA ⟨⟨leV_any _, leV_any _, leV_any _, leV_any _, leV_any _, leV_any _, leV_any _, leV_any _, leV_any _, leV_any _, trivial⟩, leB_self _⟩
   have hkI : (k : Int) < 3 := by omega
   as_aux_lemma =>
    have hkW : k < Ws.length := by omega
    have hw3 : IntKind.i64.wrap (k + 1) = k + 1 := wrap_in (by omega) (by omega)
    have gw : (Ws.map (vs 0))[k]? = some (vs 0 Ws[k]!) := by rw [List.getElem?_map, List.getElem?_eq_getElem hkW, getElem!_pos Ws k hkW]; rfl
    have kw := hWk _ (mem_bangI hkW)
    generalize Ws[k]! = w at gw kw
    simp only [go_sem] at gw
    have c1 := con_cEffectG m w km.len kw
    have c2 := con_rEffectG m w km.len kw
    have hel := efE_len w km.len
    rw [e1 m] at c1 c2
    generalize efE m w = p at c1 c2 hel
    have c3 := con_rsameB p.1 p.1 (by omega)
    have c4 := con_rsameB p.2.1 p.2.1 (by omega)
    have q1 : (p.2.2 != p.2.2) = false := by simp
    have q2 : (p.1 == p.1) = true := by simp
    have q3 : (p.2.1 == p.2.1) = true := by simp
    rw [q2] at c3
    rw [q3] at c4
    simp only [go_sem, cM, vss, n0, List.length_cons, List.length_nil, hkI, gw, hWl, List.length_map]
    refine CallU.free c1 (by simp only [go_sem]) (by simp only [go_sem]) ?_
    rintro r b rfl
    simp only [go_sem, n0, List.length_cons, List.length_nil]
    refine CallU.free c2 (by simp only [go_sem]) (by simp only [go_sem]) ?_
    rintro r b rfl
    simp only [go_sem, q1]
    refine CallU.free c3 (by simp only [go_sem]) (by simp only [go_sem]) ?_
    rintro r b rfl
    simp only [go_sem]
    refine CallU.free c4 (by simp only [go_sem]) (by simp only [go_sem]) ?_
    rintro r b rfl
    simp only [go_sem, hw3]
    refine roundK.freeze (fun _ => true) (k + 1) (by show k + 1 <= 3; omega) (by show 3 - (k + 1) < 3 - k; omega) ?_
    simp only [go_sem]
 have hjI : (j : Int) < 3 := by omega
 have hjR : j < Rs.length := by omega
 have hw2 : IntKind.i64.wrap (j + 1) = j + 1 := wrap_in (by omega) (by omega)
 have gr := getv hjR
 generalize Rs[j]! = ru at gr
 have hcf := (con_dConfigX l s5 own hO hd_5).leA (args' := [.pb 0 0, .ag [vi own.kind, .sl 0 1 (own.states.map vStr), .sl 0 1 (own.places.map vStr), .sl 0 1 (own.letters.map vStr), vs 0 own.ranks, vi own.levels, vi own.age, .sl 0 14 (own.rules.map vRule), vi own.start.n, .sl 0 2 (own.start.kids.map vV)]]) ⟨leV_refl _, leV_ag ⟨leV_refl _, leV_refl _, leV_refl _, leV_refl _, leV_refl _, leV_refl _, leV_refl _, leV_any _, leV_any _, leV_any _, trivial⟩, trivial⟩
 have hvs := valF_slim (l := l) (s := s5) (t := typeM own) (type_ok hO.size.1 hO.size.2)
 have hd_6 := valF_dk (l := l) (s := s5) (t := typeM own) hd_5
 generalize valF l s5 (typeM own) = q at hcf hvs hd_6
 obtain ⟨c2, s6⟩ := q
 simp only at hcf hvs hd_6
 have d0 := fun L : List (List AV) => app_at0 (L := L) hD
 have d1 := fun (L : List (List AV)) (i : Nat) => app_at (L := L) (i := i) hD
 have z0 := fun (L : List (List AV)) z => app_set0 (L := L) (z := z) hD
 have z1 := fun (L : List (List AV)) (i : Nat) z => app_setN (L := L) (i := i) (z := z) hD
 simp only [go_sem, cM, vss, hjI, gr, hRl, List.length_map]
 refine DrawK.effs0 1 [3] [] 9 .done none (deckA l s5) mixed (by kernel_rfl) (by kernel_rfl) (by simp only [go_sem]) (by simp only [go_sem]) ?_
 simp only [go_sem, hB, List.length_append, List.length_cons, List.length_nil, hD]
 refine EffK.mk hcf (by simp only [go_sem]) (by simp only [go_sem]) (by simp only [go_sem]) (by simp only [go_sem]) ?_
 simp only [go_sem, n0, List.length_cons, List.length_nil]
 refine andK_mk ?_ trivial
 as_aux_lemma =>
  obtain ⟨Vs, hVs⟩ : ∃ Vs : List CV, Vs = [c, c2, m.start] := ⟨_, rfl⟩
  have hVk : ∀ v ∈ Vs, v.Ok := by
   rw [hVs]
   intro v hv
   simp only [List.mem_cons, List.not_mem_nil, or_false] at hv
   rcases hv with rfl | rfl | rfl
   ·exact hc
   ·exact hvs.ok
   ·exact km.slim.ok
  have hVl : Vs.length = 3 := by rw [hVs]; rfl
  refine LoopK.freeze (fun _ => true) (fun p : Nat × List Nat => ⟨181, [(1, vi rule), (3, vs 0 rules), (6, .pb 0 0), (9, .pb 1 0), (10, .pb 2 0), (61, .sl 0 10 (Ms.map vM)), (62, vi 3), (63, vi i), (12, .pb (ks.length + 1 + 1 + 1) 0), (70, vs 0 Rs), (71, vi 3), (72, vi j), (14, vi ru), (82, .sl 0 2 (Vs.map vV)), (83, vi 3), (84, vi p.1)], [vi c.n, .sl 0 2 (c.kids.map vV)] :: deckA l s6 :: cM own :: (Jk ks ++ (cM m :: Jk p.2))⟩)
   (fun p => 3 - p.1) (fun p => p.1 <= 3) (0, ds) (by show 0 <= 3; omega) ?_ ?_
  ·rw [hVs]
   simp only [go_sem, cM, vss, List.map_cons, List.map_nil, vV_eq c, vV_eq c2, vV_eq m.start]
  clear hVs
  rintro ⟨k, es⟩ hk
  simp only at hk
  have hF := Jk_len es
  by_cases h3 : k < 3
  case neg =>
   have hke : k = 3 := by omega
   subst hke
   simp only [go_sem, cM, vss, hw2]
   refine roundK.freeze (fun _ => true) (j + 1, es, s6) ⟨by show j + 1 <= 3; omega, hd_6⟩ (by show 3 - (j + 1) < 3 - j; omega) ?_
   simp only [go_sem]
  have hkI : (k : Int) < 3 := by omega
  have hkV : k < Vs.length := by omega
  have hw3 : IntKind.i64.wrap (k + 1) = k + 1 := wrap_in (by omega) (by omega)
  have gv := getvV hkV
  have kv := hVk _ (mem_bangI hkV)
  generalize Vs[k]! = v at gv kv
  simp only [go_sem] at gv
  have y0 := fun L : List (List AV) => app_at0 (L := L) hF
  have y1 := fun (L : List (List AV)) (i : Nat) => app_at (L := L) (i := i) hF
  have x0 := fun (L : List (List AV)) z => app_set0 (L := L) (z := z) hF
  have x1 := fun (L : List (List AV)) (i : Nat) z => app_setN (L := L) (i := i) (z := z) hF
  have c1 := con_cEnabledG m ru v km.len kv
  have c2 := con_rEnabledG m ru v km.len kv
  have c3 := con_cApplyG m ru v km.len kv
  have c4 := con_rApplyG m ru v km.len kv
  have c5 := apE_ok m ru v
  rw [e1 m, vV_eq] at c1 c2 c3 c4
  generalize apE m ru v = p at c3 c4 c5
  generalize enE m ru v = p2 at c1 c2
  have c6 := con_rsameV p.1 p.1 c5 c5
  rw [cmpV_self, vV_eq] at c6
  have q1 : (p.2 != p.2) = false := by simp
  have q2 : (p2.1 != p2.1) = false := by simp
  have q3 : (p2.2 != p2.2) = false := by simp
  simp only [go_sem, cM, vss, n0, n1, s1, hB, List.append_assoc, List.cons_append, List.length_append, List.length_cons, List.length_nil, y0, x0, hF, hkI, gv, hVl, List.length_map]
  refine CallU.free c1 (by simp only [go_sem]) (by simp only [go_sem]) ?_
  rintro r b rfl
  simp only [go_sem, n0, n1, List.length_cons, List.length_nil, y0]
  refine CallU.free c2 (by simp only [go_sem]) (by simp only [go_sem]) ?_
  rintro r b rfl
  simp only [go_sem, n0, n1, List.length_cons, List.length_nil, y0]
  refine CallU.free c3 (by simp only [go_sem]) (by simp only [go_sem]) ?_
  rintro r b rfl
  simp only [go_sem, n0, n1, s1, hB, List.append_assoc, List.cons_append, List.nil_append, List.length_append, List.length_cons, List.length_nil, y0, y1, x1, hF]
  refine CallU.free c4 (by simp only [go_sem]) (by simp only [go_sem]) ?_
  rintro r b rfl
  simp only [go_sem, n1, s1, hB, List.append_assoc, List.cons_append, List.nil_append, List.length_append, List.length_cons, List.length_nil, y1, x1, hF, q1, q3]
  refine CallU.free c6 (by simp only [go_sem]) (by simp only [go_sem]) ?_
  rintro r b rfl
  simp only [go_sem, hw3]
  refine roundK.freeze (fun _ => true) (k + 1, es ++ [2, 2, 2]) (by show k + 1 <= 3; omega) (by show 3 - (k + 1) < 3 - k; omega) ?_
  simp only [go_sem]
  exact leB_app (leB_self _) ⟨leC_self _, leB_JkA ⟨⟨leV_any _, leV_any _, trivial⟩, ⟨leV_any _, leV_any _, trivial⟩, ⟨leV_any _, leV_any _, trivial⟩, trivial⟩⟩
end Go.AM
namespace Go.AM
open Go.ChangeShapes Go.WideShapes Go.ChangeAt Go.RowKit
section
variable {H : Type} {enc : TypeId × Value -> H} {P : Program} {w : World} {base : Nat} {spare : Nat -> Bool} {held : Bool}
end
end Go.AM
namespace Go.AM
open Go.Proofs Go.ChangeShapes Go.WideShapes Go.ChangeAt Go.RowKit
section
variable {H : Type} {enc : TypeId × Value -> H} {w : World} {base : Nat} {spare : Nat -> Bool} {held : Bool}
mutual
def cvOf : DataW H -> CV
 | .agg parts => cvAgg parts
 | _ => .mk 0 []
def cvAgg : List (DataW H) -> CV
 | [d0, d1] => .mk (numI d0) (cvKids d1)
 | _ => .mk 0 []
def cvKids : DataW H -> List CV
 | .slice l _ => cvList l
 | _ => []
def cvList : List (DataW H) -> List CV
 | [] => []
 | d :: l => cvOf d :: cvList l
end
theorem cvList_map : ∀ l : List (DataW H), cvList l = l.map cvOf
 | [] => by rw [cvList]; rfl
 | d :: l => by rw [cvList, cvList_map l]; rfl
theorem cvKids_eq (d : DataW H) : cvKids d = (elemsOf d).map cvOf := by
 cases d <;> simp only [cvKids, elemsOf, cvList_map, List.map_nil]
theorem cellsValue : Tryz.prog.cellsOf 27 = 2 := by kernel_rfl
theorem cells3' : Tryz.prog.cellsOf 3 = 1 := by kernel_rfl
theorem cells25' : Tryz.prog.cellsOf 25 = 1 := by kernel_rfl
theorem cv_reads : ∀ (N : Nat) (d : DataW H), SizeOf.sizeOf d <= N -> ∀ (n : Nat) (cs : List Value) (ps : List MemPlace), DataW.trod enc Tryz.prog w base spare held n 27 cs = some (d, ps) -> Reads w (vV (cvOf d)).cells cs /\ (cvOf d).Ok := by
 intro N
 induction N with
 | zero => intro d hd; cases d <;> simp at hd
 | succ N ih =>
 intro d hd n cs ps h
 obtain ⟨v0, v1, d0, d1, m, p0, p1, rfl, rfl, h0, h1⟩ := struct2_reads Tryz.underlying27 cellsValue rfl rfl cells3' cells25' h
 simp only [DataW.agg.sizeOf_spec, List.cons.sizeOf_spec, List.nil.sizeOf_spec] at hd
 have hsz : ∀ x ∈ elemsOf d1, SizeOf.sizeOf x <= N := fun x hx => by have := elems_size hx; omega
 obtain ⟨u0, e0, r0⟩ := int_reads Tryz.underlying3 h0
 obtain ⟨u1, e1, r1, hlen, hex⟩ := slice_reads (g := fun x => vV (cvOf x)) Tryz.underlying25 cellsValue (by omega) h1 fun x hx k cs' ps' h' => (ih x (hsz x hx) k cs' ps' h').1
 cases e0; cases e1
 have ecv : cvOf (.agg [d0, d1]) = .mk (numI d0) ((elemsOf d1).map cvOf) := by rw [cvOf, cvAgg, cvKids_eq]
 rw [ecv, vV_eq]
 have e2 : (elemsOf d1).map (fun x => vV (cvOf x)) = ((elemsOf d1).map cvOf).map vV := by simp
 rw [e2] at r1
 refine ⟨r0.cons r1, .mk _ _ (by rw [List.length_map]; exact hlen) fun y hy => ?_⟩
 obtain ⟨x, hx, rfl⟩ := List.mem_map.1 hy
 obtain ⟨k, cs', ps', h'⟩ := hex x hx
 exact (ih x (hsz x hx) k cs' ps' h').2
end
end Go.AM
namespace Go.Proofs.YtpmodjodfimejaaGreat
open Go.ChangeShapes Go.WideShapes Go.ChangeAt Go.RowKit Go.AM
theorem and_mk {a b : Bool} (h1 : a = true) (h2 : b = true) : (a && b) = true := by rw [h1, h2]; rfl
theorem cLaid : laidOutB Tryz.prog = true := by kernel_rfl
theorem cRowed : mapsRowed Tryz.prog = true := by kernel_rfl
theorem cHeard : Tryz.prog.stopsHeard = true := by kernel_rfl
theorem cEnter : Tryz.prog.mayEnter = true := by kernel_rfl
theorem cLifts : (Rows.counterExactRow.lifted == Tryz.prog.liftsFinal) = true := by kernel_rfl
theorem counterExactC0 : (Rows.counterExactRow.wf (OpenSpec.ofChange Rows.counterExactSpec)) = true := by kernel_rfl
theorem counterExactC3 : (Tryz.f8.params.all (Tryz.prog.readableRec ·)) = true := by kernel_rfl
theorem counterExactC4 : (namedTie Tryz.prog Rows.counterExactRow.named Rows.counterExactSpec.vars) = true := by kernel_rfl
theorem counterExactC5 : ((Rows.counterExactRow.stops == [])) = true := by kernel_rfl
theorem counterExactC6 : ((Tryz.prog.stops == [])) = true := by kernel_rfl
theorem counterExactC7 : ((Rows.counterExactRow.knobs == [])) = true := by kernel_rfl
theorem counterExactC8 : ((Tryz.prog.stopKnobs == [])) = true := by kernel_rfl
theorem counterExactC9 : ((Rows.counterExactRow.inPlace == Tryz.prog.inPlace 8)) = true := by kernel_rfl
theorem counterExactC10 : ((Rows.counterExactRow.unfollowed == Tryz.prog.unfollowed 8)) = true := by kernel_rfl
theorem counterExactC11 : ((Rows.counterExactRow.recurses == Tryz.prog.recurses 8)) = true := by kernel_rfl
theorem counterExactC12 : ((Rows.counterExactRow.named == Tryz.prog.varsNamed 8)) = true := by kernel_rfl
theorem counterExactC13 : ((Rows.counterExactRow.maps == (Tryz.f8.params.toList ++ Rows.counterExactSpec.plain.varTypes Tryz.prog).any (Tryz.prog.mapsRec ·))) = true := by kernel_rfl
theorem counterExactC14 : ((Rows.counterExactRow.ifaces == (Tryz.f8.params.toList ++ Rows.counterExactSpec.plain.varTypes Tryz.prog).any (Tryz.prog.ifacesRec ·))) = true := by kernel_rfl
theorem counterExactC15 : ((Rows.counterExactRow.mapsOut == Tryz.prog.mapsAmong Tryz.f8.resultTypes.toList)) = true := by kernel_rfl
theorem counterExactC16 : ((Rows.counterExactRow.loops == (Tryz.f8.params.toList ++ Rows.counterExactSpec.plain.varTypes Tryz.prog).any (Tryz.prog.loopsFrom ·))) = true := by kernel_rfl
theorem counterExactC17 : ((Rows.counterExactRow.wideKeys == (Tryz.f8.params.toList ++ Rows.counterExactSpec.plain.varTypes Tryz.prog ++ Tryz.f8.resultTypes.toList).any (Tryz.prog.wideKeysFrom ·))) = true := by kernel_rfl
theorem counterExactC18 : (Rows.counterExactSpec.vars.all (Tryz.prog.varReadable ·)) = true := by kernel_rfl
theorem counterExactC19 : (Tryz.f8.resultTypes.all (fun t => Tryz.prog.readableRec t && decide (t < Tryz.prog.types.size))) = true := by kernel_rfl
theorem counterExactC20 : ((Rows.counterExactRow.ifacesOut == Tryz.f8.resultTypes.toList.any (Tryz.prog.ifacesRec ·))) = true := by kernel_rfl
theorem counterExactC21 : ((Rows.counterExactRow.loopsOut == Tryz.f8.resultTypes.toList.any (Tryz.prog.loopsFrom ·))) = true := by kernel_rfl
theorem counterExactC22 : ((Rows.counterExactRow.plainKeys == Tryz.prog.plainKeys)) = true := by kernel_rfl
theorem counterExactC23 : (Rows.counterExactRow.shortTexts.isNone) = true := by kernel_rfl
theorem counterExactC27 : ((Tryz.prog.make == some Rows.counterExactRow.make)) = true := by kernel_rfl
theorem counterExactC28 : ((Rows.counterExactRow.kinds == (if Rows.counterExactRow.domain.isEmpty then [] else Tryz.f8.params.toList.map fun t => match Tryz.prog.underlying t with | some (.int k) => some k | _ => none))) = true := by kernel_rfl
theorem counterExactC29 : ((Rows.counterExactRow.pinned == Rows.counterExactRow.pinnedBy)) = true := by kernel_rfl
theorem counterExactC30 : ((Rows.counterExactRow.veiled == (Tryz.f8.params.toList ++ Rows.counterExactSpec.plain.varTypes Tryz.prog ++ Tryz.f8.resultTypes.toList).any (Tryz.prog.veiledRec ·))) = true := by kernel_rfl
theorem counterExactC31 : (Rows.counterExactRow.veiledFits Tryz.prog Tryz.f8.params.toList (Tryz.f8.params.toList ++ Rows.counterExactSpec.plain.varTypes Tryz.prog ++ Tryz.f8.resultTypes.toList)) = true := by kernel_rfl
set_option maxRecDepth 100000
theorem counterExactClosed : joinedFacts Tryz.prog 8 Tryz.f8 Rows.counterExactSpec Rows.counterExactRow = true := by
 unfold joinedFacts
 exact and_mk (and_mk (and_mk (and_mk (and_mk (and_mk (and_mk (and_mk (and_mk (and_mk (and_mk (and_mk (and_mk (and_mk (and_mk (and_mk (and_mk (and_mk (and_mk (and_mk (and_mk (and_mk (and_mk (and_mk (and_mk (and_mk (and_mk (and_mk (and_mk (and_mk (and_mk counterExactC0 cLaid) cRowed) counterExactC3) counterExactC4) counterExactC5) counterExactC6) counterExactC7) counterExactC8) counterExactC9) counterExactC10) counterExactC11) counterExactC12) counterExactC13) counterExactC14) counterExactC15) counterExactC16) counterExactC17) counterExactC18) counterExactC19) counterExactC20) counterExactC21) counterExactC22) counterExactC23) cHeard) cEnter) cLifts) counterExactC27) counterExactC28) counterExactC29) counterExactC30) counterExactC31
theorem counterExactNamed : Tryz.prog.funcNamed Rows.counterExactRow.func = some 8 := by kernel_rfl
end Go.Proofs.YtpmodjodfimejaaGreat
