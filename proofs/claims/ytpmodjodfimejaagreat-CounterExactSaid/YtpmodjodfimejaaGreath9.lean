/- HP HJ HK GA GB GC GD -/
import Derived.Test.YtpmodjodfimejaaGreath8
import Derived.Test.YtpmodjodfimejaaGreath7
namespace Go.AM
open Go Go.Proofs Go.RowKit
set_option maxRecDepth 100000
set_option maxHeartbeats 8000000
theorem con_cEnabled (m : MD) (i : Nat) (s : Nat) (v : List Int) (h : GoodM m) (hi : i < m.rules.length) (hc : GoodC m s v) :
  Con Tryz.prog 44 [vM m, vi i, vV (cfgC s v)] [] fun x _ => x = .tup [vb (enF m.rules[i]! s v), vi 0] := by
 have e0 := cfgZ_eq s v
 have h2 := h.places
 have hr := rule_c (h.rules _ (mem_bangI hi)).1
 have hlen := hc.len
 rw [e0]
 refine Con.intro Tryz.func44 rfl Tryz.ntmps44 Tryz.results44 (by kernel_rfl) (by simp) 0 (by simp) ?_
 simp only [go_sem, vM, cM, vss]
 refine CallU.free (con_ccheck m i s v h hi hc) (by simp only [go_sem]) (by simp only [go_sem, vM, cM, vss, e0]) ?_
 rintro r bx rfl
 have hg := getRule hi
 simp only [go_sem]
 refine DrawK.walk 7 mixed (by kernel_rfl) ?_
 simp only [go_sem, hi, hg]
 refine CallY.mk (con_cenabled m.rules[i]! s v (by rw [hr.need.1, hlen]) (by omega)) (by simp only [go_sem, e0]) (by simp only [go_sem]) (.inl (by simp only [go_sem])) ?_
 simp only [go_sem]
theorem con_cEffectE (m : MD) (c : List Int) (h : GoodM m) (hst : m.rules.all stillB = false) :
  Con Tryz.prog 49 [vM m, vs 0 c] [] fun r _ => r = .tup [.nil, .nil, vi 15] := by
 refine Con.intro Tryz.func49 rfl Tryz.ntmps49 Tryz.results49 (by kernel_rfl) (by simp) 0 (by simp) ?_
 have h3 := h.few
 simp only [go_sem, vM, cM, vss]
 refine CallU.free (con_check m h) (by simp only [go_sem]) (by simp only [go_sem, vM, cM, vss]) ?_
 rintro x bx rfl
 simp only [go_sem]
 refine CallU.free (con_mplain m h.kind (by omega)) (by simp only [go_sem]) (by simp only [go_sem, vM, cM, vss]) ?_
 rintro x bx rfl
 simp only [go_sem, hst]
def sR17 : RD := ⟨⟨#[114]⟩, 0, 0, [1, 0], [1, 0], [1, 1], 0, 0, 0, [], [], [], [], 0⟩
def sM17 : MD := { kind := 1, states := [⟨#[97]⟩], places := [⟨#[120]⟩, ⟨#[121]⟩], rules := [sR17], start := cfgC 0 [3, 2] }
def sC17 : AV := .ag [vi 0, .sl 0 2 [kidN 0, kidN 3, kidN 2]]
def sA17 : AV := .ag [vi 1, .sl 0 1 [vStr ⟨#[97]⟩], .sl 0 1 [vStr ⟨#[120]⟩, vStr ⟨#[121]⟩], .nil, .nil, vi 0, vi 0, .sl 0 14 [.ag [vStr ⟨#[114]⟩, vi 0, vi 0, .sl 0 1 [vi 1, vi 0], .sl 0 1 [vi 1, vi 0], .sl 0 1 [vi 1, vi 1], vi 0, vi 0, vi 0, .nil, .nil, .nil, .nil, vi 0]], vi 0, .sl 0 2 [kidN 0, kidN 3, kidN 2]]
theorem s17_good : GoodM sM17 := by
 refine ⟨rfl, by decide, by decide, by decide, rfl, rfl, rfl, rfl, by decide +kernel, ?_, by decide +kernel⟩
 intro r hr
 have : r = sR17 := by simpa [sM17] using hr
 subst this
 decide +kernel
theorem s17_conf : GoodC sM17 0 [3, 2] := by
 refine ⟨by decide, by decide, fun x hx => ?_⟩
 simp only [List.mem_cons, List.not_mem_nil, or_false] at hx
 omega
theorem sC17_le : leV sC17 (vV (cfgC 0 [3, 2])) := cfg_le 0 [3, 2]
theorem sA17_le : leV sA17 (vM sM17) := by
 have e1 : Sub .nil (vs 0 []) := Sub.nil 1
 have e3 : Sub .nil (.sl 0 3 (([] : List (Int × Int × Int)).map vTake)) := Sub.nil 3
 have hc := cfg_le 0 [3, 2]
 rw [vV_eq] at hc
 unfold sA17 vM cM
 refine leV_ag ⟨leV_refl _, leV_refl _, leV_refl _, leV_nil _ _, leV_nil _ _, leV_refl _, leV_refl _, ?_, leV_refl _, ?_, trivial⟩
 ·refine leV_slE (by simp [sM17]) (fun y hy => by simp [sM17, sR17] at hy; subst hy; rfl) ?_
  exact PW.cons (Sub.refl _) (PW.cons (Sub.refl _) (PW.cons (Sub.refl _) (PW.cons (Sub.refl _) (PW.cons (Sub.refl _) (PW.cons (Sub.refl _) (PW.cons (Sub.refl _) (PW.cons (Sub.refl _) (PW.cons (Sub.refl _) (PW.cons e1 (PW.cons e1 (PW.cons e3 (PW.cons e1 (PW.cons (Sub.refl _) (PW.nil _))))))))))))))
 ·show leV (.sl 0 2 ((((0 : Nat) : Int) :: [3, 2]).map kidN)) (.sl 0 2 (((((0 : Nat) : Int) :: [3, 2]).map fun n => CV.mk n []).map vV))
  exact leV_slE (by simp) (fun y hy => by
   obtain ⟨x, _, rfl⟩ := List.mem_map.1 hy
   rw [vV_eq]; rfl) (kids_pw _)
theorem s17_app : appA 2 sM17.rules[0]! 0 [3, 2] = .tup [.ag [vi 0, .sl 2 2 [kidN 0, kidN 1, kidN 4]], vi 0] := by
 have e1 : enF sM17.rules[0]! 0 [3, 2] = true := by decide +kernel
 have e2 : moveV sM17.rules[0]! [3, 2] = [1, 4] := by decide +kernel
 have e3 : okV [1, 4] = true := by decide +kernel
 unfold appA
 rw [if_pos e1, e2, if_pos e3]; rfl
theorem con_sane17 : Con Tryz.prog 43 [] [] fun r _ => r = vb true := by
 refine Con.intro Tryz.func43 rfl Tryz.ntmps43 Tryz.results43 (by kernel_rfl) (by simp) 0 (by simp) ?_
 have a1 := con_capply sM17 0 0 [3, 2] s17_good (by decide) s17_conf
 rw [s17_app] at a1
 have a2 := con_cEnabled sM17 0 0 [3, 2] s17_good (by decide) s17_conf
 have e1 : enF sM17.rules[0]! 0 [3, 2] = true := by decide +kernel
 rw [e1] at a2
 have a3 := con_cEffectE sM17 [0] s17_good (by decide +kernel)
 simp only [go_sem]
 refine CallU.freeze (a1.leA (args' := [sA17, vi 0, sC17]) ⟨sA17_le, leV_refl _, sC17_le, trivial⟩) (by simp only [go_sem]) (by simp only [go_sem, sA17, sC17]) ?_
 rintro r bx rfl
 simp only [go_sem]
 refine CallU.freeze (a2.leA (args' := [sA17, vi 0, sC17]) ⟨sA17_le, leV_refl _, sC17_le, trivial⟩) (by simp only [go_sem]) (by simp only [go_sem, sA17, sC17]) ?_
 rintro r bx rfl
 simp only [go_sem]
 refine CallU.freeze (a3.leA (args' := [sA17, vs 0 [0]]) ⟨sA17_le, leV_refl _, trivial⟩) (by simp only [go_sem]) (by simp only [go_sem, sA17, List.map_cons, List.map_nil]) ?_
 rintro r bx rfl
 simp only [go_sem]
def nm1 (a : ByteArray) (i : Nat) : ByteArray := a ++ strOf [48 + (i : Int)]
def nmL (a : ByteArray) (n : Nat) : List ByteArray := (List.range n).map (nm1 a)
theorem nmL_len (a : ByteArray) (n : Nat) : (nmL a n).length = n := by simp [nmL]
theorem nmL_succ (a : ByteArray) (n : Nat) : nmL a (n + 1) = nmL a n ++ [nm1 a n] := by unfold nmL; rw [List.range_succ, List.map_append]; rfl
theorem con_names (a : ByteArray) (n : Nat) (ha : a.size <= 10) (hn : n <= 9) : Con Tryz.prog 59 [vStr a, vi n] [] fun r _ => r = .sl 2 1 ((nmL a n).map vStr) := by
 refine Con.intro Tryz.func59 rfl Tryz.ntmps59 Tryz.results59 (by kernel_rfl) (by simp) 0 (by simp) ?_
 simp only [go_sem]
 refine LoopK.intro (fun i : Nat => ⟨23, [(0, vStr a), (1, vi n), (5, .sl 1408 1 ((nmL a i).map vStr)), (6, vi i)], []⟩)
  (fun i => n - i) (fun i => i <= n) 0 (by omega) ?_ ?_
 ·simp only [go_sem, nmL, List.range_zero, List.map_nil]
  all_goals exact leV_nil _ _
 rintro i hi
 by_cases h : i < n
 ·have hw : IntKind.i64.wrap (i + 1) = i + 1 := wrap_in (by omega) (by omega)
  have hw2 : IntKind.i64.wrap (48 + (i : Int)) = 48 + i := wrap_in (by omega) (by omega)
  have hw3 : IntKind.u8.wrap (48 + (i : Int)) = 48 + i := by rw [IntKind.wrap_u8]; omega
  have hb : bytesOf [.sc (.int .u8 (48 + (i : Int)))] = some [48 + (i : Int)] := rfl
  have hs : a.size + (strOf [48 + (i : Int)]).size <= 9223372036854775807 := by
   have e : (strOf [48 + (i : Int)]).size = 1 := rfl
   omega
  have hr : roomFor ((nmL a i).length + 1) 16 := by rw [nmL_len]; simp only [roomFor]; omega
  simp only [go_sem, h, hw, hw2, hw3, hb, hs, hr]
  refine roundK.intro (i + 1) (by omega) (by omega) ?_
  simp only [go_sem, nmL_succ, nm1, List.map_append, List.map_cons, List.map_nil]
 ·have e : i = n := by omega
  subst e
  simp only [go_sem, h]
structure DealtR (ns np : Nat) (r : RD) : Prop where
 bare : bareB r = true
 src : 0 <= r.src /\ r.src < ns
 dst : 0 <= r.dst /\ r.dst < ns
 need : r.need.length = np /\ ∀ x ∈ r.need, 0 <= x /\ x <= 2
 give : r.give.length = np /\ ∀ x ∈ r.give, 0 <= x /\ x <= 2
 move : r.move.length = 0 \/ (r.move.length = np /\ ∀ x ∈ r.move, -1 <= x /\ x <= np - 1)
def emptyB : ByteArray := ⟨#[]⟩
def dec1 (x : Int) : Int := x - 1
theorem con_dRule1 (l : List Int) (s : DS) (m : MD) (hd : Dk l s) (hk : m.kind = 1) (h1 : 1 <= m.states.length /\ m.states.length <= 8) (h2 : 1 <= m.places.length /\ m.places.length <= 6) :
  Con Tryz.prog 61 [.pb 0 0, hidA m] [deckA l s] fun r b => ∃ (x : RD) (s' : DS), DealtR m.states.length m.places.length x /\ x.name = emptyB /\ Dk l s' /\ r = vRule x /\ b = [deckA l s'] := by
 have key : Con Tryz.prog 61 [.pb 0 0, hidA m] [deckA l s] fun r b => ∃ (x : RD) (s' : DS) (mv : AV), DealtR m.states.length m.places.length x /\ x.name = emptyB /\ Dk l s' /\ leV (mv.freeze fun _ => true) (vs 0 x.move) /\
   r = .ag [vStr emptyB, vi x.src, vi x.dst, vs 0 x.need, vs 0 x.give, mv, vi 0, vi 0, vi 0, .nil, .nil, .nil, .nil, vi 0] /\ b = [deckA l s'] := by
  refine Con.intro Tryz.func61 rfl Tryz.ntmps61 Tryz.results61 (by kernel_rfl) (by simp) 1 (by simp) ?_
  have hn1 := nextV_lt (l := l) (s := s) (n := m.states.length) (by omega)
  have hd2 : Dk l (nextS l s m.states.length) := nextS_dk hd
  have hn2 := nextV_lt (l := l) (s := nextS l s m.states.length) (n := m.states.length) (by omega)
  have hd3 : Dk l (nextS l (nextS l s m.states.length) m.states.length) := nextS_dk hd2
  simp only [go_sem, hk]
  refine DrawK.news0 [(11, 3)] [14] [] 0 [4, 9] [] 12 (.one 12 .done) none (deckA l s) mixed (by kernel_rfl) (by kernel_rfl) (by kernel_rfl) (by simp only [go_sem]) (by simp only [go_sem]) ⟨by simp only [go_sem], by simp only [go_sem]⟩ ⟨by simp only [go_sem], by simp only [go_sem]⟩ ?_
  simp only [go_sem, List.length_map]
  refine EffK.mk (con_dNext l s m.states.length hd) (by simp only [go_sem]) (by simp only [go_sem]) (by simp only [go_sem]) (by simp only [go_sem]) ?_
  simp only [go_sem, List.length_map]
  refine EffK.mk (con_dNext l (nextS l s m.states.length) m.states.length hd2) (by simp only [go_sem]) (by simp only [go_sem]) (by simp only [go_sem]) (by simp only [go_sem]) ?_
  generalize nextV l s m.states.length = src at hn1
  generalize nextV l (nextS l s m.states.length) m.states.length = dst at hn2
  generalize nextS l (nextS l s m.states.length) m.states.length = s2 at hd3
  have hrep : List.replicate 14 AV.any = [.any, .any, .any, .any, .any, .any, .any, .any, .any, .any, .any, .any, .any, .any] := rfl
  simp only [go_sem, hrep]
  refine ⟨?_, trivial⟩
  have hd4 : Dk l (smS l s2 2 m.places.length) := smS_dk hd3 _
  have hd5 : Dk l (smS l (smS l s2 2 m.places.length) 2 m.places.length) := smS_dk hd4 _
  have hV1 := smV_low (l := l) (s := s2) (most := 2) (by omega) m.places.length
  have hL1 := smV_len (l := l) (s := s2) (most := 2) m.places.length
  have hV2 := smV_low (l := l) (s := smS l s2 2 m.places.length) (most := 2) (by omega) m.places.length
  have hL2 := smV_len (l := l) (s := smS l s2 2 m.places.length) (most := 2) m.places.length
  refine CallU.boxes (i := 0) (is := []) (bx0 := [deckA l s2]) (con_dSmallF l s2 m.places.length 2 hd3 (by omega) (by omega)) (by simp only [go_sem]) (by simp only [go_sem]) (by simp only [go_sem]) (by simp only [go_sem]) (by simp only [go_sem]) ?_
  rintro r b ⟨rfl, rfl⟩
  simp only [go_sem]
  refine CallU.boxes (i := 0) (is := []) (bx0 := [deckA l (smS l s2 2 m.places.length)]) (con_dSmallF l (smS l s2 2 m.places.length) m.places.length 2 hd4 (by omega) (by omega)) (by simp only [go_sem]) (by simp only [go_sem]) (by simp only [go_sem]) (by simp only [go_sem]) (by simp only [go_sem]) ?_
  rintro r b ⟨rfl, rfl⟩
  generalize smV l (smS l s2 2 m.places.length) 2 m.places.length = gv at hV2 hL2
  generalize smS l (smS l s2 2 m.places.length) 2 m.places.length = s4 at hd5
  generalize smV l s2 2 m.places.length = nd at hV1 hL1
  simp only [go_sem]
  refine CallU.boxes (i := 0) (is := []) (bx0 := [deckA l s4]) (con_dOne l s4 3 hd5) (by simp only [go_sem]) (by simp only [go_sem]) (by simp only [go_sem]) (by simp only [go_sem]) (by simp only [go_sem]) ?_
  rintro r b ⟨rfl, rfl⟩
  have hd6 : Dk l (nextS l s4 3) := nextS_dk hd5
  cases ho : oneV l s4 3
  case false =>
   simp only [go_sem]
   exact ⟨bareR emptyB src dst nd gv [], nextS l s4 3, .nil, ⟨rfl, hn1, hn2, ⟨hL1, hV1⟩, ⟨hL2, hV2⟩, .inl rfl⟩, rfl, hd6, leV_nil _ _, rfl, rfl⟩
  simp only [go_sem]
  generalize nextS l s4 3 = s5 at hd6
  refine LoopK.intro (fun i : Nat => ⟨168, [(0, .pb 0 0), (4, .pb 2 0), (5, .pb 3 0), (6, vi m.places.length), (7, vi i)], [deckA l (smS l s5 m.places.length i), [vi 1, vss m.states, vss m.places, vss m.letters, vs 0 m.ranks, vi m.levels, vi m.age, .any, .any, .any],
    [vStr emptyB, vi 0, vi 0, .nil, .nil, .nil, vi 0, vi 0, vi 0, .nil, .nil, .nil, .nil, vi 0], [vStr emptyB, vi src, vi dst, vs 0 nd, vs 0 gv, vs 3328 ((smV l s5 m.places.length i).map dec1), vi 0, vi 0, vi 0, .nil, .nil, .nil, .nil, vi 0]]⟩)
   (fun i => m.places.length - i) (fun i => i <= m.places.length) 0 (by omega) ?_ ?_
  ·simp only [go_sem, smV, smS, List.map_nil, vss, emptyB]
   all_goals exact leV_nil _ _
  rintro i hi
  by_cases h : i < m.places.length
  ·have hw : IntKind.i64.wrap (i + 1) = i + 1 := wrap_in (by omega) (by omega)
   have hw2 : IntKind.i64.wrap ((m.places.length : Int) + 1) = (m.places.length : Int) + 1 := wrap_in (by omega) (by omega)
   have hx := nextV_lt (l := l) (s := smS l s5 m.places.length i) (n := (m.places.length : Int) + 1) (by omega)
   have hw3 : IntKind.i64.wrap (nextV l (smS l s5 m.places.length i) ((m.places.length : Int) + 1) - 1) = dec1 (nextV l (smS l s5 m.places.length i) ((m.places.length : Int) + 1)) := wrap_in (by omega) (by omega)
   have hr : roomFor ((smV l s5 m.places.length i).length + 1) 8 := by rw [smV_len]; simp only [roomFor]; omega
   simp only [go_sem, h]
   refine DrawK.effs0 0 [5] [] 8 (.one 8 (.front 9 (.one 10 .done))) none (deckA l (smS l s5 m.places.length i)) mixed (by kernel_rfl) (by kernel_rfl) (by simp only [go_sem]) (by simp only [go_sem]) ?_
   simp only [go_sem, hw2]
   refine EffK.mk (con_dNext l (smS l s5 m.places.length i) ((m.places.length : Int) + 1) (smS_dk hd6 i)) (by simp only [go_sem]) (by simp only [go_sem]) (by simp only [go_sem]) (by simp only [go_sem]) ?_
   simp only [go_sem, hw, hw3]
   refine ⟨⟨hr, roundK.intro (i + 1) (by omega) (by omega) ?_⟩, trivial⟩
   simp only [go_sem, smV, smS, List.map_append, List.map_cons, List.map_nil]
   exact leV_refl _
  ·have e : i = m.places.length := by omega
   subst e
   have hmv : ∀ x ∈ (smV l s5 m.places.length m.places.length).map dec1, -1 <= x /\ x <= (m.places.length : Int) - 1 := fun x hx => by
    obtain ⟨y, hy, rfl⟩ := List.mem_map.1 hx
    have := smV_low (l := l) (s := s5) (most := m.places.length) (by omega) m.places.length y hy
    unfold dec1; omega
   simp only [go_sem, h]
   refine ⟨bareR emptyB src dst nd gv ((smV l s5 m.places.length m.places.length).map dec1), smS l s5 m.places.length m.places.length, vs 2 ((smV l s5 m.places.length m.places.length).map dec1), ⟨rfl, hn1, hn2, ⟨hL1, hV1⟩, ⟨hL2, hV2⟩, .inr ⟨by show ((smV l s5 m.places.length m.places.length).map dec1).length = _; rw [List.length_map, smV_len], hmv⟩⟩, rfl, smS_dk hd6 _, leV_refl _, ?_, rfl⟩
   simp only [go_sem]
 refine (key.freezeB fun _ => true).weak fun r b ⟨r1, b1, ⟨x, s', mv, h1, h2, h3, h4, h5, h6⟩, h7, h8⟩ => ?_
 subst h5; subst h6; subst h7; subst h8
 refine ⟨vRule x, ⟨x, s', h1, h2, h3, rfl, rfl⟩, ?_⟩
 have hb := bare_of h1.bare
 have e1 : Sub .nil (vs 0 []) := Sub.nil 1
 have e3 : Sub .nil (.sl 0 3 (([] : List (Int × Int × Int)).map vTake)) := Sub.nil 3
 have hv : vRule x = .ag [vStr emptyB, vi x.src, vi x.dst, vs 0 x.need, vs 0 x.give, vs 0 x.move, vi 0, vi 0, vi 0, vs 0 [], vs 0 [], .sl 0 3 [], vs 0 [], vi 0] := by
  rw [<- h2]; rw [hb]; rfl
 rw [hv]
 exact leV_ag ⟨leV_refl _, leV_refl _, leV_refl _, leV_refl _, leV_refl _, h4, leV_refl _, leV_refl _, leV_refl _, leV_nil _ _, leV_nil _ _, leV_nil _ _, leV_nil _ _, leV_refl _, trivial⟩
theorem con_nan (x : Int) : Con Tryz.prog 175 [vi x] [] fun r _ => r = .sc (.bool false) := by
 refine Con.intro Tryz.func175 rfl Tryz.ntmps175 Tryz.results175 (by kernel_rfl) (by simp) 0 (by simp) ?_
 simp only [go_sem]
theorem con_cmpI (x y : Int) : Con Tryz.prog 135 [vi x, vi y] [] fun r _ => r = vi (ordI x y) := by
 refine Con.intro Tryz.func135 rfl Tryz.ntmps135 Tryz.results135 (by kernel_rfl) (by simp) 0 (by simp) ?_
 simp only [go_sem]
 refine CallU.free (con_nan x) (by simp only [go_sem]) (by simp only [go_sem]) ?_
 rintro r bx rfl
 simp only [go_sem]
 refine CallU.free (con_nan y) (by simp only [go_sem]) (by simp only [go_sem]) ?_
 rintro r bx rfl
 by_cases h1 : x < y
 ·have e : ordI x y = -1 := by unfold ordI; rw [if_pos h1]
  simp only [go_sem, h1, e]
 by_cases h2 : y < x
 ·have e : ordI x y = 1 := by unfold ordI; rw [if_neg h1, if_pos h2]
  simp only [go_sem, h1, h2, e]
 ·have e : ordI x y = 0 := by unfold ordI; rw [if_neg h1, if_neg h2]
  simp only [go_sem, h1, h2, e]
theorem con_rorderI (x y : Int) : Con Tryz.prog 148 [vi x, vi y] [] fun r _ => r = vi (ordI x y) := by
 refine Con.intro Tryz.func148 rfl Tryz.ntmps148 Tryz.results148 (by kernel_rfl) (by simp) 0 (by simp) ?_
 by_cases h1 : x < y
 ·have e : ordI x y = -1 := by unfold ordI; rw [if_pos h1]
  simp only [go_sem, h1, e]
 by_cases h2 : y < x
 ·have e : ordI x y = 1 := by unfold ordI; rw [if_neg h1, if_pos h2]
  simp only [go_sem, h1, h2, e]
 ·have e : ordI x y = 0 := by unfold ordI; rw [if_neg h1, if_neg h2]
  simp only [go_sem, h1, h2, e]
theorem con_or (l : List Int) (hl : l.length <= 9223372036854775807) : Con Tryz.prog 134 [vs 0 l] [] fun r _ => r = vi (orF l) := by
 refine Con.intro Tryz.func134 rfl Tryz.ntmps134 Tryz.results134 (by kernel_rfl) (by simp) 0 (by simp) ?_
 simp only [go_sem]
 refine LoopK.intro (fun i : Nat => ⟨18, [(3, vi 0), (6, vs 0 l), (7, vi l.length), (8, vi i)], []⟩)
  (fun i => l.length - i) (fun i => i <= l.length /\ orF (l.drop i) = orF l) 0 ⟨by omega, rfl⟩ ?_ ?_
 ·simp only [go_sem]
 rintro i ⟨hi, he⟩
 by_cases h : i < l.length
 ·have g1 := getv h
  have hw : IntKind.i64.wrap (i + 1) = i + 1 := wrap_in (by omega) (by omega)
  have hd : l.drop i = l[i]! :: l.drop (i + 1) := by rw [<- List.getElem_cons_drop h, <- getElem!_pos l i h]
  rw [hd] at he
  by_cases h0 : l[i]! = 0
  ·have hb : (l[i]! != 0) = false := by simp [h0]
   simp only [go_sem, h, g1, hb, hw]
   refine roundK.intro (i + 1) ⟨by omega, ?_⟩ (by omega) ?_
   ·rw [<- he]; unfold orF; rw [List.find?_cons_of_neg (by rw [hb]; simp)]
   ·simp only [go_sem]
  ·have hb : (l[i]! != 0) = true := bne_iff_ne.2 h0
   have e : orF l = l[i]! := by rw [<- he]; unfold orF; rw [List.find?_cons_of_pos (by exact hb)]; rfl
   simp only [go_sem, h, g1, hb, e]
 ·have e : orF l = 0 := by rw [<- he, List.drop_of_length_le (by omega)]; rfl
  simp only [go_sem, h, e]
theorem con_cmpfn (k l : List CV) (hk : k.length <= 9223372036854775807) (hl : l.length <= 9223372036854775807)
  (hrec : ∀ x ∈ k, ∀ y ∈ l, Con Tryz.prog 82 [vV x, vV y] [] fun r _ => r = vi (cmpV x y)) :
  Con Tryz.prog 136 [.sl 0 2 (k.map vV), .sl 0 2 (l.map vV), .fn 82 []] [] fun r _ => r = vi (cmpVs k l) := by
 refine Con.intro Tryz.func136 rfl Tryz.ntmps136 Tryz.results136 (by kernel_rfl) (by simp) 0 (by simp) ?_
 simp only [go_sem]
 refine LoopK.intro (fun i : Nat => ⟨39, [(0, .sl 0 2 (k.map vV)), (1, .sl 0 2 (l.map vV)), (2, .fn 82 []), (11, .sl 0 2 (k.map vV)), (12, vi k.length), (13, vi i)], Rk 2 (2 * i)⟩)
  (fun i => k.length - i) (fun i => i <= k.length /\ i <= l.length /\ cmpVs (k.drop i) (l.drop i) = cmpVs k l) 0 ⟨by omega, by omega, rfl⟩ ?_ ?_
 ·simp only [go_sem]
  first | trivial | exact leB_self _
 rintro i ⟨hi, hi2, he⟩
 by_cases h : i < k.length
 case neg =>
  have hie : i = k.length := by omega
  subst hie
  rw [List.drop_length] at he
  by_cases h2 : k.length < l.length
  ·have e : cmpVs k l = -1 := by
    rw [<- he]
    cases hd : l.drop k.length with
    | nil => have := congrArg List.length hd; rw [List.length_drop] at this; simp at this; omega
    | cons y t => rfl
   simp only [go_sem, h, h2, e]
  ·have e : cmpVs k l = 0 := by rw [<- he, List.drop_of_length_le (by omega)]; rfl
   simp only [go_sem, h, h2, e]
 have g1 := getvV h
 have hw : IntKind.i64.wrap (i + 1) = i + 1 := wrap_in (by omega) (by omega)
 have hB := Rk_len 2 (2 * i)
 have d1 : k.drop i = k[i]! :: k.drop (i + 1) := by rw [<- List.getElem_cons_drop h, <- getElem!_pos k i h]
 rw [d1] at he
 have n0 := fun L : List (List AV) => app_at0 (L := L) hB
 have n1 := fun L : List (List AV) => app_at1 (L := L) hB
 have s0 := fun (L : List (List AV)) z => app_set0 (L := L) (z := z) hB
 have s1 := fun (L : List (List AV)) z => app_set1 (L := L) (z := z) hB
 by_cases h2 : i < l.length
 case neg =>
  have e : cmpVs k l = 1 := by rw [<- he, show l.drop i = [] from List.drop_of_length_le (by omega)]; rfl
  have h3 : (l.length : Int) <= i := by omega
  simp only [go_sem, h, g1, hB, n0, s0, h3, e]
 have d2 : l.drop i = l[i]! :: l.drop (i + 1) := by rw [<- List.getElem_cons_drop h2, <- getElem!_pos l i h2]
 rw [d2, cmpVs] at he
 have g2 := getvV h2
 have h3 : ¬ ((l.length : Int) <= i) := by omega
 have hc := hrec _ (mem_bangI h) _ (mem_bangI h2)
 rw [vV_eq k[i]!, vV_eq l[i]!] at hc
 simp only [go_sem, h, h2, g1, g2, hB, n0, s0, n1, s1, h3, List.append_assoc, List.length_append, List.length_cons, List.length_nil]
 refine CallU.free hc (by simp only [go_sem]) (by simp only [go_sem]) ?_
 rintro r bx rfl
 by_cases h4 : cmpV k[i]! l[i]! = 0
 ·have h5 : (cmpV k[i]! l[i]! != 0) = false := by rw [h4]; rfl
  rw [if_neg (fun h' => h' h4)] at he
  simp only [go_sem, h5, hw]
  refine roundK.intro (i + 1) ⟨by omega, by omega, he⟩ (by omega) ?_
  simp only [go_sem, show 2 * (i + 1) = 2 * i + 1 + 1 by omega, Rk_succ2]
 ·have h5 : (cmpV k[i]! l[i]! != 0) = true := bne_iff_ne.2 h4
  rw [if_pos h4] at he
  rw [he] at h5
  simp only [go_sem, he, h5]
theorem con_compare : ∀ (N : Nat) (a b : CV), SizeOf.sizeOf a <= N -> a.Ok -> b.Ok -> Con Tryz.prog 82 [vV a, vV b] [] fun r _ => r = vi (cmpV a b) := by
 intro N
 induction N with
 | zero => intro a b hN; cases a; simp at hN
 | succ N ih =>
 intro a b hN ha hb
 have hc := con_cmpfn a.kids b.kids ha.len hb.len fun x hx y hy => ih x y (by have := kid_size hx; omega) (ha.kid hx) (hb.kid hy)
 have hor := or_cmp a b
 rw [vV_eq a, vV_eq b]
 refine Con.intro Tryz.func82 rfl Tryz.ntmps82 Tryz.results82 (by kernel_rfl) (by simp) 0 (by simp) ?_
 simp only [go_sem]
 refine DrawK.walk 18 mixed (by kernel_rfl) ?_
 simp only [go_sem]
 refine CallY.mk (con_cmpI a.n b.n) (by simp only [go_sem]) (by simp only [go_sem]) (.inl rfl) ?_
 simp only [go_sem]
 refine CallY.mk (con_cmpI a.kids.length b.kids.length) (by simp only [go_sem]) (by simp only [go_sem]) (.inl rfl) ?_
 simp only [go_sem]
 refine CallY.mk hc (by simp only [go_sem]) (by simp only [go_sem]) (.inl rfl) ?_
 simp only [go_sem]
 refine CallU.flat (con_or [ordI a.n b.n, ordI a.kids.length b.kids.length, cmpVs a.kids b.kids] (by simp)) (by simp only [go_sem]) (by simp only [go_sem]) ?_
 rintro r bx rfl
 simp only [go_sem, hor]
theorem con_rcompare : ∀ (N : Nat) (a b : CV), SizeOf.sizeOf a <= N -> a.Ok -> b.Ok -> Con Tryz.prog 94 [vV a, vV b] [] fun r _ => r = vi (cmpV a b) := by
 intro N
 induction N with
 | zero => intro a b hN; cases a; simp at hN
 | succ N ih =>
 intro a b hN ha hb
 have hrec : ∀ x ∈ a.kids, ∀ y ∈ b.kids, Con Tryz.prog 94 [vV x, vV y] [] fun r _ => r = vi (cmpV x y) := fun x hx y hy => ih x y (by have := kid_size hx; omega) (ha.kid hx) (hb.kid hy)
 have hal := ha.len
 have hbl := hb.len
 rw [vV_eq a, vV_eq b]
 have hcmp : cmpV a b = if a.n ≠ b.n then ordI a.n b.n else if a.kids.length ≠ b.kids.length then ordI a.kids.length b.kids.length else cmpVs a.kids b.kids := by cases a; cases b; rw [cmpV]; rfl
 refine Con.intro Tryz.func94 rfl Tryz.ntmps94 Tryz.results94 (by kernel_rfl) (by simp) 0 (by simp) ?_
 simp only [go_sem]
 by_cases h1 : a.n = b.n
 case neg =>
  have h1' : (a.n != b.n) = true := bne_iff_ne.2 h1
  rw [if_pos h1] at hcmp
  simp only [go_sem, h1']
  refine CallU.free (con_rorderI a.n b.n) (by simp only [go_sem]) (by simp only [go_sem]) ?_
  rintro r bx rfl
  simp only [go_sem, hcmp]
 have h1' : (a.n != b.n) = false := by simp [h1]
 rw [if_neg (fun h => h h1)] at hcmp
 by_cases h2 : a.kids.length = b.kids.length
 case neg =>
  rw [if_pos h2] at hcmp
  simp only [go_sem, h1', h2]
  refine CallU.free (con_rorderI a.kids.length b.kids.length) (by simp only [go_sem]) (by simp only [go_sem]) ?_
  rintro r bx rfl
  simp only [go_sem, hcmp]
 rw [if_neg (fun h => h h2)] at hcmp
 simp only [go_sem, h1', h2]
 refine LoopK.intro (fun i : Nat => ⟨52, [(2, .pb 0 0), (3, .pb 1 0), (5, vi i)], [[vi a.n, .sl 0 2 (a.kids.map vV)], [vi b.n, .sl 0 2 (b.kids.map vV)]]⟩)
  (fun i => a.kids.length - i) (fun i => i <= a.kids.length /\ cmpVs (a.kids.drop i) (b.kids.drop i) = cmpVs a.kids b.kids) 0 ⟨by omega, rfl⟩ ?_ ?_
 ·simp only [go_sem]
 rintro i ⟨hi, he⟩
 by_cases h : i < a.kids.length
 case neg =>
  have e : cmpVs a.kids b.kids = 0 := by rw [<- he, List.drop_of_length_le (by omega), List.drop_of_length_le (by omega)]; rfl
  rw [e] at hcmp
  have h' : ¬ (i < b.kids.length) := by omega
  simp only [go_sem, h2, h', hcmp]
 have h' : i < b.kids.length := by omega
 have hw : IntKind.i64.wrap (i + 1) = i + 1 := wrap_in (by omega) (by omega)
 have g1 := getvV h
 have g2 := getvV h'
 have d1 : a.kids.drop i = a.kids[i]! :: a.kids.drop (i + 1) := by rw [<- List.getElem_cons_drop h, <- getElem!_pos a.kids i h]
 have d2 : b.kids.drop i = b.kids[i]! :: b.kids.drop (i + 1) := by rw [<- List.getElem_cons_drop h', <- getElem!_pos b.kids i h']
 rw [d1, d2, cmpVs] at he
 have hc := hrec _ (mem_bangI h) _ (mem_bangI h')
 rw [vV_eq a.kids[i]!, vV_eq b.kids[i]!] at hc
 simp only [go_sem, h', h2]
 refine DrawK.walk 10 mixed (by kernel_rfl) ?_
 simp only [go_sem, h', h2, g1, g2]
 refine CallU.free hc (by simp only [go_sem]) (by simp only [go_sem]) ?_
 rintro r bx rfl
 by_cases h4 : cmpV a.kids[i]! b.kids[i]! = 0
 ·have h5 : (cmpV a.kids[i]! b.kids[i]! != 0) = false := by rw [h4]; rfl
  rw [if_neg (fun h' => h' h4)] at he
  simp only [go_sem, h5, hw]
  refine roundK.intro (i + 1) ⟨by omega, he⟩ (by omega) ?_
  simp only [go_sem]
 ·have h5 : (cmpV a.kids[i]! b.kids[i]! != 0) = true := bne_iff_ne.2 h4
  rw [if_pos h4] at he
  rw [<- he] at hcmp
  simp only [go_sem, h5, hcmp]
inductive TD where
 | mk (kind size : Int) (ranks : List Int) (parts : List TD)
 deriving Inhabited
def TD.kind : TD -> Int
 | .mk k _ _ _ => k
def TD.size : TD -> Int
 | .mk _ s _ _ => s
def TD.ranks : TD -> List Int
 | .mk _ _ r _ => r
def TD.parts : TD -> List TD
 | .mk _ _ _ p => p
mutual
def vT : TD -> AV
 | .mk k s r p => .ag [vi k, vi s, vs 0 r, .sl 0 4 (vTs p)]
def vTs : List TD -> List AV
 | [] => []
 | x :: l => vT x :: vTs l
end
theorem vTs_map : ∀ l : List TD, vTs l = l.map vT
 | [] => rfl
 | x :: l => by rw [vTs, vTs_map l]; rfl
theorem vT_eq (a : TD) : vT a = .ag [vi a.kind, vi a.size, vs 0 a.ranks, .sl 0 4 (a.parts.map vT)] := by cases a; rw [vT, vTs_map]; rfl
theorem getvT {l : List TD} {i : Nat} (h : i < l.length) : (l.map vT)[i]? = some (.ag [.sc (.int .i64 l[i]!.kind), .sc (.int .i64 l[i]!.size), .sl 0 1 (l[i]!.ranks.map vi), .sl 0 4 (l[i]!.parts.map vT)]) := by
 rw [List.getElem?_map, List.getElem?_eq_getElem h, getElem!_pos l i h, Option.map_some, vT_eq]; rfl
inductive TD.Ok : TD -> Prop
 | mk (k s : Int) (r : List Int) (p : List TD) : r.length <= 1000000 -> p.length <= 1000000 -> (∀ x ∈ p, TD.Ok x) -> TD.Ok (.mk k s r p)
theorem TD.Ok.rlen {a : TD} (h : a.Ok) : a.ranks.length <= 1000000 := by cases h; assumption
theorem TD.Ok.plen {a : TD} (h : a.Ok) : a.parts.length <= 1000000 := by cases h; assumption
theorem TD.Ok.part {a : TD} (h : a.Ok) {x : TD} (hx : x ∈ a.parts) : x.Ok := by cases h with | mk k s r p _ _ h2 => exact h2 x hx
def badRank (r : Int) : Bool := decide (r < 0) || decide (6 <= r)
def rankedL (l : List Int) : Bool := decide (1 <= l.length) && decide (l.length <= 6) && !l.any badRank
theorem con_pranked1 (x : Int) : Con Tryz.prog 210 [vi x] [] fun r _ => r = .sc (.bool (badRank x)) := by
 refine Con.intro Tryz.func210 rfl Tryz.ntmps210 Tryz.results210 (by kernel_rfl) (by simp) 0 (by simp) ?_
 unfold badRank
 by_cases h : x < 0
 ·simp only [go_sem, h, decide_true, Bool.true_or]
 ·simp only [go_sem, h, decide_false, Bool.false_or]
theorem con_pranked (l : List Int) (hl : l.length <= 1000000) : Con Tryz.prog 203 [vs 0 l] [] fun r _ => r = vb (rankedL l) := by
 refine Con.intro Tryz.func203 rfl Tryz.ntmps203 Tryz.results203 (by kernel_rfl) (by simp) 0 (by simp) ?_
 unfold rankedL
 by_cases h1 : 1 <= l.length
 ·have h1' : (1 : Int) <= (l.length : Int) := by omega
  by_cases h2 : l.length <= 6
  ·have h2' : (l.length : Int) <= 6 := by omega
   simp only [go_sem, List.length_map, h1', h2']
   refine CallU.free (con_containsInt l 210 [] badRank rfl (fun x _ => con_pranked1 x) (by omega)) (by simp only [go_sem]) (by simp only [go_sem]) ?_
   rintro r bx rfl
   simp only [go_sem, h1, h2, decide_true, Bool.true_and]
  ·have h2' : ¬ (l.length : Int) <= 6 := by omega
   simp only [go_sem, List.length_map, h1', h2', h1, h2, decide_true, decide_false, Bool.true_and, Bool.false_and]
 ·have h1' : ¬ (1 : Int) <= (l.length : Int) := by omega
  simp only [go_sem, List.length_map, h1', h1, decide_false, Bool.false_and]
theorem con_pvalid0 (l : List Int) (hl : l.length <= 1000000) : Con Tryz.prog 193 [vs 0 l, .nil] [] fun r _ => r = vb (rankedL l) := by
 refine Con.intro Tryz.func193 rfl Tryz.ntmps193 Tryz.results193 (by kernel_rfl) (by simp) 0 (by simp) ?_
 simp only [go_sem]
 refine CallU.free (con_pranked l hl) (by simp only [go_sem]) (by simp only [go_sem]) ?_
 rintro r bx rfl
 cases rankedL l
 ·simp only [go_sem]
 ·simp only [go_sem]
  refine CallU.look ((con_containsInt [] 204 [.fp [vs 0 l] 0] (fun _ => true) (by simp only [go_sem]) (fun x hx => by cases hx) (by simp)).leA (args' := [.nil, .fn 204 [.fp [vs 0 l] 0]]) ⟨leV_nil 0 1, leV_refl _, trivial⟩) (by simp only [go_sem]) (by simp only [go_sem]) ?_
  rintro r bx rfl
  simp only [go_sem, List.any_nil]
def TellsT (f : FuncId) (caps : List AV) (l : List TD) (p : TD -> Bool) : Prop := ∀ x ∈ l, Con Tryz.prog f ([vT x] ++ caps) [] fun r _ => r = .sc (.bool (p x))
theorem con_indexT (l : List TD) (f : FuncId) (caps : List AV) (p : TD -> Bool) (hc : mapTops (viewV []) caps = caps) (hf : TellsT f caps l p) (hl : l.length <= 9223372036854775806) : Con Tryz.prog 205 [.sl 0 4 (l.map vT), .fn f caps] [] fun r _ => r = vi (findI p l) := by
 refine Con.intro Tryz.func205 rfl Tryz.ntmps205 Tryz.results205 (by kernel_rfl) (by simp) 0 (by simp) ?_
 simp only [go_sem]
 refine LoopK.intro (fun i : Nat => ⟨19, [(0, .sl 0 4 (l.map vT)), (1, .fn f caps), (7, vi l.length), (8, vi i)], []⟩)
  (fun i => l.length - i) (fun i => i <= l.length /\ ∀ j, j < i -> p l[j]! = false) 0 ⟨by omega, fun j hj => by omega⟩ ?_ ?_
 ·simp only [go_sem]
  all_goals exact leV_refl _
 ·rintro i ⟨hi, hb⟩
  by_cases h : i < l.length
  ·have hg := getvT h
   have hw : IntKind.i64.wrap (i + 1) = i + 1 := wrap_in (by omega) (by omega)
   have hfi := hf l[i]! (mem_bangI h)
   rw [vT_eq] at hfi
   simp only [go_sem, h, hg]
   refine CallU.look hfi (by simp only [go_sem]) (by simp only [go_sem, hc]) ?_
   rintro r bx rfl
   cases hp : p l[i]!
   ·simp only [go_sem, hw]
    refine roundK.intro (i + 1) ⟨by omega, fun j hj => ?_⟩ (by omega) ?_
    ·by_cases hji : j = i
     ·subst hji; exact hp
     ·exact hb j (by omega)
    ·simp only [go_sem]
   ·simp only [go_sem]
    rw [findI_stop h hb hp]
  ·simp only [go_sem, h]
   rw [findI_none (fun j hj => hb j (by omega))]
theorem con_containsT (l : List TD) (f : FuncId) (caps : List AV) (p : TD -> Bool) (hc : mapTops (viewV []) caps = caps) (hf : TellsT f caps l p) (hl : l.length <= 9223372036854775806) : Con Tryz.prog 194 [.sl 0 4 (l.map vT), .fn f caps] [] fun r _ => r = .sc (.bool (l.any p)) := by
 refine Con.intro Tryz.func194 rfl Tryz.ntmps194 Tryz.results194 (by kernel_rfl) (by simp) 0 (by simp) ?_
 simp only [go_sem]
 refine CallU.look (con_indexT l f caps p hc hf hl) (by simp only [go_sem]) (by simp only [go_sem]) ?_
 rintro r bx rfl
 simp only [go_sem, findI_ge]
def rightT : Nat -> TD -> Bool
 | 0, _ => false
 | d + 1, t =>
  if 0 < t.ranks.length /\ t.kind ≠ 7 then false
  else if t.kind = 1 then t.parts.length == 0 && t.size == 0
  else if t.kind = 2 \/ t.kind = 6 then t.parts.length == 0 && decide (1 <= t.size) && decide (t.size <= 16)
  else if t.kind = 7 then t.parts.length == 0 && t.size == t.ranks.length && rankedL t.ranks
  else if t.kind = 3 then t.size == 0 && !(t.parts.length == 0) && decide (t.parts.length <= 8) && !t.parts.any fun p => !rightT d p
  else if t.kind = 4 \/ t.kind = 5 then t.size == 0 && t.parts.length == 1 && !t.parts.any fun p => !rightT d p
  else false
theorem con_oright : ∀ (d : Nat) (t : TD), d <= 100 -> t.Ok -> Con Tryz.prog 176 [vT t, vi d] [] fun r _ => r = vb (rightT d t) := by
 intro d
 induction d with
 | zero =>
  intro t _ ht
  rw [vT_eq]
  refine Con.intro Tryz.func176 rfl Tryz.ntmps176 Tryz.results176 (by kernel_rfl) (by simp) 2 (by simp) ?_
  have h0 : (((0 : Nat) : Int) == 0) = true := rfl
  simp only [go_sem, rightT]
 | succ d ih =>
  intro t hd ht
  have hrl := ht.rlen
  have hpl := ht.plen
  have hcall : ∀ x ∈ t.parts, Con Tryz.prog 195 [vT x, .fp [vi ((d + 1 : Nat) : Int)] 0] [] fun r _ => r = .sc (.bool (!rightT d x)) := fun x hx => by
   rw [vT_eq]
   refine Con.intro Tryz.func195 rfl Tryz.ntmps195 Tryz.results195 (by kernel_rfl) (by simp) 1 (by simp) ?_
   have hw : IntKind.i64.wrap ((d : Int) + 1 - 1) = (d : Int) := by rw [wrap_in (by omega) (by omega)]; omega
   simp only [go_sem, hw]
   refine CallU.free (ih x (by omega) (ht.part hx)) (by simp only [go_sem]) (by simp only [go_sem, vT_eq]) ?_
   rintro r bx rfl
   simp only [go_sem]
  have hcon := con_containsT t.parts 195 [.fp [vi ((d + 1 : Nat) : Int)] 0] (fun x => !rightT d x) (by simp only [go_sem]) hcall (by omega)
  rw [vT_eq]
  refine Con.intro Tryz.func176 rfl Tryz.ntmps176 Tryz.results176 (by kernel_rfl) (by simp) 2 (by simp) ?_
  have h0 : (((d + 1 : Nat) : Int) == 0) = false := beq_eq_false_iff_ne.2 (by omega)
  have hzp : ((t.parts.length : Int) == 0) = (t.parts.length == 0) := zero_len _
  have h0 : ((d : Int) + 1 == 0) = false := beq_eq_false_iff_ne.2 (by omega)
  by_cases hbad : 0 < t.ranks.length /\ t.kind ≠ 7
  ·have e : rightT (d + 1) t = false := by unfold rightT; rw [if_pos hbad]
   have h1 := hbad.1
   have h2 : (t.kind != 7) = true := bne_iff_ne.2 hbad.2
   simp only [go_sem, h0, h1, h2, List.length_map, e]
  have e : rightT (d + 1) t = if t.kind = 1 then t.parts.length == 0 && t.size == 0
    else if t.kind = 2 \/ t.kind = 6 then t.parts.length == 0 && decide (1 <= t.size) && decide (t.size <= 16)
    else if t.kind = 7 then t.parts.length == 0 && t.size == t.ranks.length && rankedL t.ranks
    else if t.kind = 3 then t.size == 0 && !(t.parts.length == 0) && decide (t.parts.length <= 8) && !t.parts.any fun p => !rightT d p
    else if t.kind = 4 \/ t.kind = 5 then t.size == 0 && t.parts.length == 1 && !t.parts.any fun p => !rightT d p
    else false := by rw [rightT, if_neg hbad]
  rw [e]
  have hgo : (0 < t.ranks.length) = False \/ ((0 < t.ranks.length) = True /\ t.kind = 7) := by
   by_cases h : 0 < t.ranks.length
   ·exact .inr ⟨eq_true h, Classical.byContradiction fun hk => hbad ⟨h, hk⟩⟩
   ·exact .inl (eq_false h)
  by_cases k7 : t.kind = 7
  ·have hp := con_pvalid0 t.ranks hrl
   have hne : (t.kind != 7) = false := by rw [k7]; rfl
   have b1 : (t.kind == 1) = false := by rw [k7]; rfl
   have b2 : (t.kind == 2) = false := by rw [k7]; rfl
   have b6 : (t.kind == 6) = false := by rw [k7]; rfl
   have b7 : (t.kind == 7) = true := by rw [k7]; rfl
   rw [if_neg (by omega), if_neg (by omega), if_pos k7]
   rcases hgo with hgo | ⟨hgo, _⟩
   all_goals
    cases hz : t.parts.length == 0
    ·simp only [go_sem, h0, hgo, hne, b1, b2, b6, b7, hzp, hz, List.length_map, Bool.false_and]
    ·cases hsz : t.size == (t.ranks.length : Int)
     ·simp only [go_sem, h0, hgo, hne, b1, b2, b6, b7, hzp, hz, hsz, List.length_map, Bool.false_and, Bool.and_false]
     ·simp only [go_sem, h0, hgo, hne, b1, b2, b6, b7, hzp, hz, hsz, List.length_map]
      refine CallU.free hp (by simp only [go_sem]) (by simp only [go_sem]) ?_
      rintro r bx rfl
      simp only [go_sem, Bool.true_and]
  have hgo : (0 < t.ranks.length) = False := hgo.resolve_right fun h => k7 h.2
  by_cases k1 : t.kind = 1
  ·have b1 : (t.kind == 1) = true := beq_iff_eq.2 k1
   rw [if_pos k1]
   cases hz : t.parts.length == 0
   ·simp only [go_sem, h0, hgo, b1, hzp, hz, List.length_map, Bool.false_and]
   ·simp only [go_sem, h0, hgo, b1, hzp, hz, List.length_map, Bool.true_and]
  have b1 : (t.kind == 1) = false := beq_eq_false_iff_ne.2 k1
  rw [if_neg k1]
  by_cases k26 : t.kind = 2 \/ t.kind = 6
  ·rw [if_pos k26]
   have b26 : (t.kind == 2) = true \/ ((t.kind == 2) = false /\ (t.kind == 6) = true) := by
    rcases k26 with h | h
    ·exact .inl (beq_iff_eq.2 h)
    ·exact .inr ⟨beq_eq_false_iff_ne.2 (by omega), beq_iff_eq.2 h⟩
   rcases b26 with b2 | ⟨b2, b6⟩
   case' inl =>
    cases hz : t.parts.length == 0
    ·simp only [go_sem, h0, hgo, b1, b2, hzp, hz, List.length_map, Bool.false_and]
    ·by_cases hs1 : 1 <= t.size
     ·simp only [go_sem, h0, hgo, b1, b2, hzp, hz, List.length_map, Bool.true_and, hs1, decide_true]
     ·simp only [go_sem, h0, hgo, b1, b2, hzp, hz, List.length_map, Bool.true_and, hs1, decide_false, Bool.false_and]
   case' inr =>
    cases hz : t.parts.length == 0
    ·simp only [go_sem, h0, hgo, b1, b2, b6, hzp, hz, List.length_map, Bool.false_and]
    ·by_cases hs1 : 1 <= t.size
     ·simp only [go_sem, h0, hgo, b1, b2, b6, hzp, hz, List.length_map, Bool.true_and, hs1, decide_true]
     ·simp only [go_sem, h0, hgo, b1, b2, b6, hzp, hz, List.length_map, Bool.true_and, hs1, decide_false, Bool.false_and]
  have b2 : (t.kind == 2) = false := beq_eq_false_iff_ne.2 (by omega)
  have b6 : (t.kind == 6) = false := beq_eq_false_iff_ne.2 (by omega)
  have b7 : (t.kind == 7) = false := beq_eq_false_iff_ne.2 k7
  rw [if_neg k26, if_neg k7]
  by_cases k3 : t.kind = 3
  ·have b3 : (t.kind == 3) = true := beq_iff_eq.2 k3
   rw [if_pos k3]
   cases hsz : t.size == 0
   ·have hsz' : (t.size != 0) = true := by unfold bne; rw [hsz]; rfl
    simp only [go_sem, h0, hgo, b1, b2, b6, b7, b3, hsz', List.length_map, Bool.false_and]
   ·have hsz' : (t.size != 0) = false := by unfold bne; rw [hsz]; rfl
    cases hz : t.parts.length == 0
    ·by_cases h8 : t.parts.length <= 8
     ·have h8' : ¬ (8 : Int) < (t.parts.length : Int) := by omega
      simp only [go_sem, h0, hgo, b1, b2, b6, b7, b3, hzp, hz, hsz', h8', List.length_map]
      refine CallU.look hcon (by simp only [go_sem]) (by simp only [go_sem]) ?_
      rintro r bx rfl
      simp only [go_sem, h8, decide_true, Bool.true_and]
     ·have h8' : (8 : Int) < (t.parts.length : Int) := by omega
      simp only [go_sem, h0, hgo, b1, b2, b6, b7, b3, hzp, hz, hsz', h8', h8, List.length_map, decide_false, Bool.and_false, Bool.false_and]
    ·simp only [go_sem, h0, hgo, b1, b2, b6, b7, b3, hzp, hz, hsz', List.length_map, Bool.not_true, Bool.and_false, Bool.false_and]
  have b3 : (t.kind == 3) = false := beq_eq_false_iff_ne.2 k3
  rw [if_neg k3]
  by_cases k45 : t.kind = 4 \/ t.kind = 5
  ·rw [if_pos k45]
   have h1p : ((t.parts.length : Int) != 1) = !(t.parts.length == 1) := by
    unfold bne
    congr 1
    rw [Bool.eq_iff_iff]; simp; omega
   have b45 : (t.kind == 4) = true \/ ((t.kind == 4) = false /\ (t.kind == 5) = true) := by
    rcases k45 with h | h
    ·exact .inl (beq_iff_eq.2 h)
    ·exact .inr ⟨beq_eq_false_iff_ne.2 (by omega), beq_iff_eq.2 h⟩
   cases hsz : t.size == 0
   ·have hsz' : (t.size != 0) = true := by unfold bne; rw [hsz]; rfl
    rcases b45 with b4 | ⟨b4, b5⟩
    ·simp only [go_sem, h0, hgo, b1, b2, b6, b7, b3, b4, hsz', List.length_map, Bool.false_and]
    ·simp only [go_sem, h0, hgo, b1, b2, b6, b7, b3, b4, b5, hsz', List.length_map, Bool.false_and]
   ·have hsz' : (t.size != 0) = false := by unfold bne; rw [hsz]; rfl
    cases hz : t.parts.length == 1
    ·rcases b45 with b4 | ⟨b4, b5⟩
     ·simp only [go_sem, h0, hgo, b1, b2, b6, b7, b3, b4, hsz', h1p, hz, List.length_map, Bool.not_false, Bool.and_false, Bool.false_and]
     ·simp only [go_sem, h0, hgo, b1, b2, b6, b7, b3, b4, b5, hsz', h1p, hz, List.length_map, Bool.not_false, Bool.and_false, Bool.false_and]
    ·rcases b45 with b4 | ⟨b4, b5⟩
     case' inl =>
      simp only [go_sem, h0, hgo, b1, b2, b6, b7, b3, b4, hzp, hsz', h1p, hz, List.length_map, Bool.not_true]
     case' inr =>
      simp only [go_sem, h0, hgo, b1, b2, b6, b7, b3, b4, b5, hzp, hsz', h1p, hz, List.length_map, Bool.not_true]
     all_goals
      refine CallU.look hcon (by simp only [go_sem]) (by simp only [go_sem]) ?_
      rintro r bx rfl
      simp only [go_sem, Bool.true_and]
  have b4 : (t.kind == 4) = false := beq_eq_false_iff_ne.2 (by omega)
  have b5 : (t.kind == 5) = false := beq_eq_false_iff_ne.2 (by omega)
  rw [if_neg k45]
  simp only [go_sem, h0, hgo, b1, b2, b6, b7, b3, b4, b5, List.length_map]
def checkT (t : TD) : Int := if rightT 8 t then 0 else 6
theorem con_oCheck (t : TD) (ht : t.Ok) : Con Tryz.prog 142 [vT t] [] fun r _ => r = vi (checkT t) := by
 rw [vT_eq]
 refine Con.intro Tryz.func142 rfl Tryz.ntmps142 Tryz.results142 (by kernel_rfl) (by simp) 1 (by simp) ?_
 have hr := con_oright 8 t (by omega) ht
 unfold checkT
 simp only [go_sem]
 refine CallU.free hr (by simp only [go_sem]) (by simp only [go_sem, vT_eq]) ?_
 rintro r bx rfl
 cases rightT 8 t
 ·simp only [go_sem, Bool.false_eq_true, if_false]
 ·simp only [go_sem, if_true]
def TellsV (f : FuncId) (caps : List AV) (l : List CV) (p : CV -> Bool) : Prop := ∀ x ∈ l, Con Tryz.prog f ([vV x] ++ caps) [] fun r _ => r = .sc (.bool (p x))
theorem con_indexVal (l : List CV) (f : FuncId) (caps : List AV) (p : CV -> Bool) (hc : mapTops (viewV []) caps = caps) (hf : TellsV f caps l p) (hl : l.length <= 9223372036854775807) : Con Tryz.prog 144 [.sl 0 2 (l.map vV), .fn f caps] [] fun r _ => r = vi (findI p l) := by
 refine Con.intro Tryz.func144 rfl Tryz.ntmps144 Tryz.results144 (by kernel_rfl) (by simp) 0 (by simp) ?_
 simp only [go_sem]
 refine LoopK.intro (fun i : Nat => ⟨19, [(0, .sl 0 2 (l.map vV)), (1, .fn f caps), (7, vi l.length), (8, vi i)], []⟩)
  (fun i => l.length - i) (fun i => i <= l.length /\ ∀ j, j < i -> p l[j]! = false) 0 ⟨by omega, fun j hj => by omega⟩ ?_ ?_
 ·simp only [go_sem]
  all_goals exact leV_refl _
 ·rintro i ⟨hi, hb⟩
  by_cases h : i < l.length
  ·have hg := getvV h
   have hw : IntKind.i64.wrap (i + 1) = i + 1 := wrap_in (by omega) (by omega)
   have hfi := hf l[i]! (mem_bangI h)
   rw [vV_eq] at hfi
   simp only [go_sem, h, hg]
   refine CallU.look hfi (by simp only [go_sem]) (by simp only [go_sem, hc]) ?_
   rintro r bx rfl
   cases hp : p l[i]!
   ·simp only [go_sem, hw]
    refine roundK.intro (i + 1) ⟨by omega, fun j hj => ?_⟩ (by omega) ?_
    ·by_cases hji : j = i
     ·subst hji; exact hp
     ·exact hb j (by omega)
    ·simp only [go_sem]
   ·simp only [go_sem]
    rw [findI_stop h hb hp]
  ·simp only [go_sem, h]
   rw [findI_none (fun j hj => hb j (by omega))]
theorem con_containsVal (l : List CV) (f : FuncId) (caps : List AV) (p : CV -> Bool) (hc : mapTops (viewV []) caps = caps) (hf : TellsV f caps l p) (hl : l.length <= 9223372036854775807) : Con Tryz.prog 89 [.sl 0 2 (l.map vV), .fn f caps] [] fun r _ => r = .sc (.bool (l.any p)) := by
 refine Con.intro Tryz.func89 rfl Tryz.ntmps89 Tryz.results89 (by kernel_rfl) (by simp) 0 (by simp) ?_
 simp only [go_sem]
 refine CallU.look (con_indexVal l f caps p hc hf hl) (by simp only [go_sem]) (by simp only [go_sem]) ?_
 rintro r bx rfl
 simp only [go_sem, findI_ge]
def labelB (size : Int) (v : CV) : Bool := decide (0 <= v.n) && decide (v.n < size) && v.kids.length == 0
mutual
def taggedV : CV -> Int -> Bool
 | .mk n kids, size => decide (0 <= n) && decide (n < size) && taggedVs kids size
def taggedVs : List CV -> Int -> Bool
 | [], _ => true
 | x :: l, size => taggedV x size && taggedVs l size
end
theorem taggedVs_any : ∀ (l : List CV) (size : Int), taggedVs l size = !l.any fun x => !taggedV x size
 | [], _ => by simp [taggedVs]
 | x :: l, size => by rw [taggedVs, taggedVs_any l, List.any_cons]; cases taggedV x size <;> simp
theorem tagged_eq (v : CV) (size : Int) : taggedV v size = (decide (0 <= v.n) && decide (v.n < size) && !v.kids.any fun x => !taggedV x size) := by
 cases v; rw [taggedV, taggedVs_any]; rfl
theorem con_tagged : ∀ (s : Nat) (v : CV) (size : Int), SizeOf.sizeOf v <= s -> v.Ok -> Con Tryz.prog 180 [vV v, vi size] [] fun r _ => r = vb (taggedV v size) := by
 intro s
 induction s with
 | zero => intro v _ hs; cases v; rw [CV.mk.sizeOf_spec] at hs; omega
 | succ s ih =>
  intro v size hs hv
  have hlen := hv.len
  have hcall : ∀ x ∈ v.kids, Con Tryz.prog 197 [vV x, .fp [vi size] 0] [] fun r _ => r = .sc (.bool (!taggedV x size)) := fun x hx => by
   rw [vV_eq]
   refine Con.intro Tryz.func197 rfl Tryz.ntmps197 Tryz.results197 (by kernel_rfl) (by simp) 1 (by simp) ?_
   simp only [go_sem]
   refine CallU.free (ih x size (by have := kid_size hx; omega) (hv.kid hx)) (by simp only [go_sem]) (by simp only [go_sem, vV_eq]) ?_
   rintro r bx rfl
   simp only [go_sem]
  have hcon := con_containsVal v.kids 197 [.fp [vi size] 0] (fun x => !taggedV x size) (by simp only [go_sem]) hcall hlen
  rw [vV_eq, tagged_eq]
  refine Con.intro Tryz.func180 rfl Tryz.ntmps180 Tryz.results180 (by kernel_rfl) (by simp) 2 (by simp) ?_
  by_cases h1 : 0 <= v.n
  ·by_cases h2 : v.n < size
   ·simp only [go_sem, h1, h2]
    refine CallU.look hcon (by simp only [go_sem]) (by simp only [go_sem]) ?_
    rintro r bx rfl
    simp only [go_sem, decide_true, Bool.true_and]
   ·simp only [go_sem, h1, h2, decide_true, decide_false, Bool.true_and, Bool.false_and]
  ·simp only [go_sem, h1, decide_false, Bool.false_and]
def sortedB (l : List CV) : Bool := (List.range l.length).all fun i => i == 0 || !decide (cmpV l[i]! l[i - 1]! < 0)
theorem sorted_bad {l : List CV} {i : Nat} (h : i < l.length) (h0 : i ≠ 0) (hb : cmpV l[i]! l[i - 1]! < 0) : sortedB l = false := by
 unfold sortedB
 rw [List.all_eq_false]
 refine ⟨i, List.mem_range.2 h, ?_⟩
 rw [decide_eq_true hb, beq_eq_false_iff_ne.2 h0]; simp
theorem sorted_good {l : List CV} (h : ∀ i, i < l.length -> i ≠ 0 -> ¬ cmpV l[i]! l[i - 1]! < 0) : sortedB l = true := by
 unfold sortedB
 rw [List.all_eq_true]
 intro i hi
 have hi := List.mem_range.1 hi
 by_cases h0 : i = 0
 ·rw [h0]; simp
 ·rw [decide_eq_false (h i hi h0)]; simp
def sortedTree : Tr := .front 0 (.front 1 (.front 2 (.front 3 (.front 5 (.front 6 (.alt (.one 4 (.one 7 (.front 8 (.one 9 (.one 10 (.one 11 .done)))))) (.one 7 (.front 8 (.alt (.one 4 (.one 9 (.one 10 (.one 11 .done)))) (.one 9 (.one 4 (.one 10 (.one 11 .done)))))))))))))
theorem con_isSortedV (l : List CV) (hl : l.length <= 9223372036854775807) (hk : ∀ x ∈ l, x.Ok) : Con Tryz.prog 179 [.sl 0 2 (l.map vV), .fn 82 []] [] fun r _ => r = vb (sortedB l) := by
 refine Con.intro Tryz.func179 rfl Tryz.ntmps179 Tryz.results179 (by kernel_rfl) (by simp) 0 (by simp) ?_
 have hw0 : IntKind.i64.wrap ((l.length : Int) - 1) = (l.length : Int) - 1 := wrap_in (by omega) (by omega)
 simp only [go_sem, List.length_map, hw0]
 refine LoopK.intro (fun k : Nat => ⟨25, [(0, .sl 0 2 (l.map vV)), (1, .fn 82 []), (5, vi ((l.length : Int) - 1 - k))], []⟩)
  (fun k => l.length - k) (fun k => k <= l.length /\ ∀ i, i < l.length -> l.length - 1 - k < i -> i ≠ 0 -> ¬ cmpV l[i]! l[i - 1]! < 0) 0 ⟨by omega, fun i h1 h2 => by omega⟩ ?_ ?_
 ·simp only [go_sem]
  all_goals exact leV_int (by omega)
 rintro k ⟨hk1, hb⟩
 by_cases h : (0 : Int) < (l.length : Int) - 1 - k
 ·obtain ⟨i, ei, hi0, hil⟩ : ∃ i : Nat, (l.length : Int) - 1 - k = i /\ 1 <= i /\ i < l.length := ⟨l.length - 1 - k, by omega, by omega, by omega⟩
  have h2 : i - 1 < l.length := by omega
  have g1 := getvV hil
  have g2 := getvV h2
  have hc := con_compare _ l[i]! l[i - 1]! (Nat.le_refl _) (hk _ (mem_bangI hil)) (hk _ (mem_bangI h2))
  rw [vV_eq, vV_eq] at hc
  have hw : IntKind.i64.wrap ((i : Int) - 1) = ((i - 1 : Nat) : Int) := by rw [wrap_in (by omega) (by omega)]; omega
  have hi0' : (0 : Int) < (i : Int) := by omega
  rw [ei]
  simp only [go_sem, hi0']
  refine DrawK.meet ⟨25, [(0, .sl 0 2 (l.map vV)), (1, .fn 82 []), (5, vi i), (24, vb (decide (cmpV l[i]! l[i - 1]! < 0)))], []⟩ ?_ ?_
  ·refine DrawK.tree sortedTree mixed (by kernel_rfl) ?_
   unfold sortedTree
   repeat' (first | with_reducible apply andK_mk | (refine CallU.free hc (by simp only [go_sem]) (by simp only [go_sem]) ?_; rintro x bx rfl) | simp only [go_sem, hil, g1, hw, h2, g2])
  ·by_cases hneg : cmpV l[i]! l[i - 1]! < 0
   ·simp only [go_sem, hneg, decide_true, sorted_bad hil (by omega) hneg]
   ·have hw2 : IntKind.i64.wrap ((i : Int) - 1) = (l.length : Int) - 1 - ((k + 1 : Nat) : Int) := by rw [wrap_in (by omega) (by omega)]; omega
    simp only [go_sem, hneg, decide_false, hw2]
    refine roundK.intro (k + 1) ⟨by omega, fun j h1 h2 h3 => ?_⟩ (by omega) ?_
    ·by_cases hji : j = i
     ·subst hji; exact hneg
     ·exact hb j h1 (by omega) h3
    ·simp only [go_sem]
 ·have e : sortedB l = true := sorted_good fun i h1 h2 => hb i h1 (by omega) h2
  simp only [go_sem, h, e]
mutual
def oneT : CV -> TD -> Bool
 | .mk n kids, t =>
  if t.kind = 1 then decide (0 <= n) && decide (n <= 1048576) && kids.length == 0
  else if t.kind = 2 then decide (0 <= n) && decide (n < t.size) && kids.length == 0
  else if t.kind = 3 then n == 0 && decide (kids.length = t.parts.length) && zipT kids t.parts
  else if t.kind = 4 then n == 0 && decide (kids.length <= 12) && allT kids t.parts[0]!
  else if t.kind = 5 then n == 0 && decide (kids.length <= 12) && allT kids t.parts[0]! && sortedB kids
  else if t.kind = 6 then decide (countV (.mk n kids) 12 <= 12) && taggedV (.mk n kids) t.size
  else n == 0 && decide (kids.length <= 12) && !kids.any fun k => !labelB t.size k
def zipT : List CV -> List TD -> Bool
 | x :: l, t :: ts => oneT x t && zipT l ts
 | _, _ => true
def allT : List CV -> TD -> Bool
 | [], _ => true
 | x :: l, t => oneT x t && allT l t
end
theorem allT_any : ∀ (l : List CV) (t : TD), allT l t = !l.any fun x => !oneT x t
 | [], _ => by simp [allT]
 | x :: l, t => by rw [allT, allT_any l, List.any_cons]; cases oneT x t <;> simp
theorem zipT_bad : ∀ {l : List CV} {ts : List TD} {i : Nat}, i < l.length -> i < ts.length -> oneT l[i]! ts[i]! = false -> zipT l ts = false
 | x :: l, t :: ts, 0, _, _, h => by
  have h : oneT x t = false := h
  rw [zipT, h]; rfl
 | x :: l, t :: ts, i + 1, h1, h2, h => by
  rw [zipT, zipT_bad (l := l) (ts := ts) (i := i) (by simpa using h1) (by simpa using h2) (by simpa using h), Bool.and_false]
 | [], _, _, h, _, _ => by simp at h
 | _ :: _, [], _, _, h, _ => by simp at h
theorem zipT_good : ∀ {l : List CV} {ts : List TD}, l.length = ts.length -> (∀ i, i < l.length -> oneT l[i]! ts[i]! = true) -> zipT l ts = true
 | [], _, _, _ => by simp [zipT]
 | x :: l, t :: ts, hl, h => by
  have h0 : oneT x t = true := h 0 (by simp)
  rw [zipT, h0, zipT_good (l := l) (ts := ts) (by simpa using hl) (fun i hi => by have := h (i + 1) (by simpa using hi); simpa using this)]; rfl
 | _ :: _, [], h, _ => by simp at h
inductive TD.Fit : TD -> Prop
 | mk (k s : Int) (r : List Int) (p : List TD) : ((k = 4 \/ k = 5) -> p.length = 1) -> (∀ x ∈ p, TD.Fit x) -> TD.Fit (.mk k s r p)
theorem TD.Fit.one {a : TD} (h : a.Fit) (hk : a.kind = 4 \/ a.kind = 5) : a.parts.length = 1 := by cases h with | mk k s r p h1 _ => exact h1 hk
theorem TD.Fit.part {a : TD} (h : a.Fit) {x : TD} (hx : x ∈ a.parts) : x.Fit := by cases h with | mk k s r p _ h2 => exact h2 x hx
theorem right_fit : ∀ (d : Nat) (t : TD), rightT d t = true -> t.Fit := by
 intro d
 induction d with
 | zero => intro t h; simp [rightT] at h
 | succ d ih =>
  intro t h
  have hparts : t.parts = [] \/ ∀ x ∈ t.parts, rightT d x = true := by
   unfold rightT at h
   split at h
   ·cases h
   ·split at h
    ·simp at h; exact .inl h.1
    ·split at h
     ·simp at h; exact .inl h.1.1
     ·split at h
      ·simp at h; exact .inl h.1.1
      ·split at h
       ·right; intro x hx; simp at h; exact h.2 x hx
       ·split at h
        ·right; intro x hx; simp at h; exact h.2 x hx
        ·cases h
  have hone : (t.kind = 4 \/ t.kind = 5) -> t.parts.length = 1 := fun hk => by
   unfold rightT at h
   rw [if_neg (show ¬ t.kind = 1 by omega), if_neg (show ¬ (t.kind = 2 \/ t.kind = 6) by omega), if_neg (show ¬ t.kind = 7 by omega), if_neg (show ¬ t.kind = 3 by omega), if_pos hk] at h
   split at h
   ·cases h
   ·simp only [Bool.and_eq_true, beq_iff_eq] at h; exact h.1.2
  cases t with
  | mk k s r p =>
   refine .mk k s r p hone fun x hx => ?_
   rcases hparts with hp | hp
   ·have hp : p = [] := hp
    rw [hp] at hx; cases hx
   ·exact ih x (hp x hx)
theorem con_olist (v : CV) (t : TD) (hv : v.Ok) (hrec : ∀ x ∈ v.kids, Con Tryz.prog 143 [vT t, vV x] [] fun r _ => r = vb (oneT x t)) :
  Con Tryz.prog 178 [vV v, vT t] [] fun r _ => r = vb (v.n == 0 && decide (v.kids.length <= 12) && allT v.kids t) := by
 have hlen := hv.len
 have hcall : ∀ x ∈ v.kids, Con Tryz.prog 196 [vV x, .fp [vi t.kind, vi t.size, vs 0 t.ranks, .sl 0 4 (t.parts.map vT)] 0] [] fun r _ => r = .sc (.bool (!oneT x t)) := fun x hx => by
  rw [vV_eq]
  refine Con.intro Tryz.func196 rfl Tryz.ntmps196 Tryz.results196 (by kernel_rfl) (by simp) 1 (by simp) ?_
  simp only [go_sem]
  refine CallU.free (hrec x hx) (by simp only [go_sem]) (by simp only [go_sem, vV_eq, vT_eq]) ?_
  rintro r bx rfl
  simp only [go_sem]
 have hcon := con_containsVal v.kids 196 [.fp [vi t.kind, vi t.size, vs 0 t.ranks, .sl 0 4 (t.parts.map vT)] 0] (fun x => !oneT x t) (by simp only [go_sem]) hcall hlen
 rw [vV_eq, vT_eq, allT_any]
 refine Con.intro Tryz.func178 rfl Tryz.ntmps178 Tryz.results178 (by kernel_rfl) (by simp) 2 (by simp) ?_
 cases h1 : v.n == 0
 ·simp only [go_sem, h1, Bool.false_and]
 ·by_cases h2 : v.kids.length <= 12
  ·have h2' : (v.kids.length : Int) <= 12 := by omega
   simp only [go_sem, h1, h2', List.length_map]
   refine CallU.look hcon (by simp only [go_sem]) (by simp only [go_sem]) ?_
   rintro r bx rfl
   simp only [go_sem, h2, decide_true, Bool.true_and]
  ·have h2' : ¬ (v.kids.length : Int) <= 12 := by omega
   simp only [go_sem, h1, h2', h2, List.length_map, decide_false, Bool.and_false, Bool.false_and]
theorem con_oone : ∀ (s : Nat) (v : CV) (t : TD), SizeOf.sizeOf v <= s -> v.Ok -> t.Ok -> t.Fit -> Con Tryz.prog 143 [vT t, vV v] [] fun r _ => r = vb (oneT v t) := by
 intro s
 induction s with
 | zero => intro v t hs; cases v; rw [CV.mk.sizeOf_spec] at hs; omega
 | succ s ih =>
  intro v t hs hv ht hf
  have hlen := hv.len
  have hpl := ht.plen
  have e : oneT v t = if t.kind = 1 then decide (0 <= v.n) && decide (v.n <= 1048576) && v.kids.length == 0
   else if t.kind = 2 then decide (0 <= v.n) && decide (v.n < t.size) && v.kids.length == 0
   else if t.kind = 3 then v.n == 0 && decide (v.kids.length = t.parts.length) && zipT v.kids t.parts
   else if t.kind = 4 then v.n == 0 && decide (v.kids.length <= 12) && allT v.kids t.parts[0]!
   else if t.kind = 5 then v.n == 0 && decide (v.kids.length <= 12) && allT v.kids t.parts[0]! && sortedB v.kids
   else if t.kind = 6 then decide (countV v 12 <= 12) && taggedV v t.size
   else v.n == 0 && decide (v.kids.length <= 12) && !v.kids.any fun k => !labelB t.size k := by cases v; rw [oneT]; rfl
  have hzk : ((v.kids.length : Int) == 0) = (v.kids.length == 0) := zero_len _
  have hlab := con_olabel v t.size
  have hrec : ∀ x ∈ v.kids, ∀ p ∈ t.parts, Con Tryz.prog 143 [vT p, vV x] [] fun r _ => r = vb (oneT x p) := fun x hx p hp => ih x p (by have := kid_size hx; omega) (hv.kid hx) (ht.part hp) (hf.part hp)
  have e0 := vV_eq v
  have e1 := vT_eq t
  rw [e, e0, e1]
  refine Con.intro Tryz.func143 rfl Tryz.ntmps143 Tryz.results143 (by kernel_rfl) (by simp) 2 (by simp) ?_
  by_cases k1 : t.kind = 1
  ·have b1 : (t.kind == 1) = true := beq_iff_eq.2 k1
   rw [if_pos k1]
   by_cases h1 : 0 <= v.n
   ·by_cases h2 : v.n <= 1048576
    ·simp only [go_sem, b1, h1, h2, hzk, List.length_map, decide_true, Bool.true_and]
    ·simp only [go_sem, b1, h1, h2, decide_true, decide_false, Bool.true_and, Bool.false_and]
   ·simp only [go_sem, b1, h1, decide_false, Bool.false_and]
  have b1 : (t.kind == 1) = false := beq_eq_false_iff_ne.2 k1
  rw [if_neg k1]
  by_cases k2 : t.kind = 2
  ·have b2 : (t.kind == 2) = true := beq_iff_eq.2 k2
   rw [if_pos k2]
   simp only [go_sem, b1, b2]
   refine CallU.free hlab (by simp only [go_sem]) (by simp only [go_sem, e0]) ?_
   rintro r bx rfl
   simp only [go_sem]
  have b2 : (t.kind == 2) = false := beq_eq_false_iff_ne.2 k2
  rw [if_neg k2]
  by_cases k3 : t.kind = 3
  ·have b3 : (t.kind == 3) = true := beq_iff_eq.2 k3
   rw [if_pos k3]
   cases hn : v.n == 0
   ·have hn' : (v.n != 0) = true := by unfold bne; rw [hn]; rfl
    simp only [go_sem, b1, b2, b3, hn', Bool.false_and]
   have hn' : (v.n != 0) = false := by unfold bne; rw [hn]; rfl
   by_cases hl : v.kids.length = t.parts.length
   case neg =>
    have hl' : ((v.kids.length : Int) != (t.parts.length : Int)) = true := bne_iff_ne.2 (by omega)
    simp only [go_sem, b1, b2, b3, hn', hl', hl, List.length_map, decide_false, Bool.and_false, Bool.false_and]
   have hl' : ((v.kids.length : Int) != (t.parts.length : Int)) = false := by rw [hl]; simp
   simp only [go_sem, b1, b2, b3, hn', hl', List.length_map]
   refine LoopK.intro (fun i : Nat => ⟨110, [(2, .pb 0 0), (3, .pb 1 0), (46, .sl 0 2 (v.kids.map vV)), (47, vi v.kids.length), (48, vi i)], [vi t.kind, vi t.size, vs 0 t.ranks, .sl 0 4 (t.parts.map vT)] :: [vi v.n, .sl 0 2 (v.kids.map vV)] :: Rk 2 i⟩)
    (fun i => v.kids.length - i) (fun i => i <= v.kids.length /\ ∀ j, j < i -> oneT v.kids[j]! t.parts[j]! = true) 0 ⟨by omega, fun j hj => by omega⟩ ?_ ?_
   ·simp only [go_sem]
    all_goals exact leB_self _
   rintro i ⟨hi, hb⟩
   by_cases h : i < v.kids.length
   ·have h2 : i < t.parts.length := by omega
    have hg := getvV h
    have hg2 := getvT h2
    have hw : IntKind.i64.wrap (i + 1) = i + 1 := wrap_in (by omega) (by omega)
    have hB := Rk_len 2 i
    have n0 := fun L : List (List AV) => app_at0 (L := L) hB
    have s0 := fun (L : List (List AV)) z => app_set0 (L := L) (z := z) hB
    have hr := hrec _ (mem_bangI h) _ (mem_bangI h2)
    rw [vT_eq, vV_eq] at hr
    simp only [go_sem, h, hg, hB, n0, s0]
    refine DrawK.walk 8 mixed (by kernel_rfl) ?_
    simp only [go_sem, h2, hg2, n0]
    refine CallY.mk hr (by simp only [go_sem]) (by simp only [go_sem]) (.inl (by simp only [go_sem])) ?_
    cases hq : oneT v.kids[i]! t.parts[i]!
    ·simp only [go_sem, zipT_bad h h2 hq, Bool.and_false]
    ·simp only [go_sem, hw]
     refine roundK.intro (i + 1) ⟨by omega, fun j hj => ?_⟩ (by omega) ?_
     ·by_cases hji : j = i
      ·subst hji; exact hq
      ·exact hb j (by omega)
     ·simp only [go_sem, Rk_succ]
      all_goals exact leB_RkA ⟨leC_any _ 2 rfl, trivial⟩
   ·have ez : zipT v.kids t.parts = true := zipT_good hl fun j hj => hb j (by omega)
    have hld : decide (v.kids.length = t.parts.length) = true := decide_eq_true hl
    simp only [go_sem, h, ez, hld, Bool.and_true]
  have b3 : (t.kind == 3) = false := beq_eq_false_iff_ne.2 k3
  rw [if_neg k3]
  by_cases k4 : t.kind = 4
  ·have b4 : (t.kind == 4) = true := beq_iff_eq.2 k4
   have hp1 := hf.one (.inl k4)
   have hp0 : 0 < t.parts.length := by omega
   have hg := getvT hp0
   have hl := con_olist v t.parts[0]! hv fun x hx => hrec x hx _ (mem_bangI hp0)
   rw [e0, vT_eq] at hl
   rw [if_pos k4]
   simp only [go_sem, b1, b2, b3, b4]
   refine DrawK.walk 7 mixed (by kernel_rfl) ?_
   simp only [go_sem, hp0, hg, List.length_map]
   refine CallY.mk hl (by simp only [go_sem]) (by simp only [go_sem]) (.inl (by simp only [go_sem])) ?_
   simp only [go_sem]
  have b4 : (t.kind == 4) = false := beq_eq_false_iff_ne.2 k4
  rw [if_neg k4]
  by_cases k5 : t.kind = 5
  ·have b5 : (t.kind == 5) = true := beq_iff_eq.2 k5
   have hp1 := hf.one (.inr k5)
   have hp0 : 0 < t.parts.length := by omega
   have hg := getvT hp0
   have hl := con_olist v t.parts[0]! hv fun x hx => hrec x hx _ (mem_bangI hp0)
   have hso := con_isSortedV v.kids hlen fun x hx => hv.kid hx
   rw [e0, vT_eq] at hl
   rw [if_pos k5]
   simp only [go_sem, b1, b2, b3, b4, b5]
   refine DrawK.walk 12 mixed (by kernel_rfl) ?_
   simp only [go_sem, hp0, hg, List.length_map]
   refine CallY.mk hl (by simp only [go_sem]) (by simp only [go_sem]) (.inl (by simp only [go_sem])) ?_
   cases hL : v.n == 0 && decide (v.kids.length <= 12) && allT v.kids t.parts[0]!
   ·simp only [go_sem, Bool.false_and]
   ·simp only [go_sem]
    refine CallY.mk hso (by simp only [go_sem]) (by simp only [go_sem]) (.inl (by simp only [go_sem])) ?_
    simp only [go_sem, Bool.true_and]
  have b5 : (t.kind == 5) = false := beq_eq_false_iff_ne.2 k5
  rw [if_neg k5]
  by_cases k6 : t.kind = 6
  ·have b6 : (t.kind == 6) = true := beq_iff_eq.2 k6
   rw [if_pos k6]
   simp only [go_sem, b1, b2, b3, b4, b5, b6]
   refine CallU.free (con_count v 12 (by omega) (by omega) hv) (by simp only [go_sem]) (by simp only [go_sem, e0]) ?_
   rintro r bx rfl
   by_cases hc : countV v 12 <= 12
   ·simp only [go_sem, hc]
    refine CallU.free (con_tagged _ v t.size (Nat.le_refl _) hv) (by simp only [go_sem]) (by simp only [go_sem, e0]) ?_
    rintro r bx rfl
    simp only [go_sem, hc, decide_true, Bool.true_and]
   ·simp only [go_sem, hc, decide_false, Bool.false_and]
  have b6 : (t.kind == 6) = false := beq_eq_false_iff_ne.2 k6
  rw [if_neg k6]
  have hcall : ∀ x ∈ v.kids, Con Tryz.prog 181 [vV x, .fp [vi t.kind, vi t.size, vs 0 t.ranks, .sl 0 4 (t.parts.map vT)] 0] [] fun r _ => r = .sc (.bool (!labelB t.size x)) := fun x hx => by
   rw [vV_eq]
   refine Con.intro Tryz.func181 rfl Tryz.ntmps181 Tryz.results181 (by kernel_rfl) (by simp) 1 (by simp) ?_
   simp only [go_sem]
   refine CallU.free (con_olabel x t.size) (by simp only [go_sem]) (by simp only [go_sem, vV_eq]) ?_
   rintro r bx rfl
   unfold labelB
   simp only [go_sem]
  have hcon := con_containsVal v.kids 181 [.fp [vi t.kind, vi t.size, vs 0 t.ranks, .sl 0 4 (t.parts.map vT)] 0] (fun x => !labelB t.size x) (by simp only [go_sem]) hcall hlen
  cases h1 : v.n == 0
  ·simp only [go_sem, b1, b2, b3, b4, b5, b6, h1, Bool.false_and]
  ·by_cases h2 : v.kids.length <= 12
   ·have h2' : (v.kids.length : Int) <= 12 := by omega
    simp only [go_sem, b1, b2, b3, b4, b5, b6, h1, h2', List.length_map]
    refine CallU.look hcon (by simp only [go_sem]) (by simp only [go_sem]) ?_
    rintro r bx rfl
    simp only [go_sem, h2, decide_true, Bool.true_and]
   ·have h2' : ¬ (v.kids.length : Int) <= 12 := by omega
    simp only [go_sem, b1, b2, b3, b4, b5, b6, h1, h2', h2, List.length_map, decide_false, Bool.and_false, Bool.false_and]
def validV (t : TD) (v : CV) : Bool := rightT 8 t && decide (countV v 128 <= 128) && oneT v t
theorem con_oValid (t : TD) (v : CV) (ht : t.Ok) (hv : v.Ok) : Con Tryz.prog 88 [vT t, vV v] [] fun r _ => r = vb (validV t v) := by
 have e0 := vV_eq v
 have e1 := vT_eq t
 rw [e0, e1]
 refine Con.intro Tryz.func88 rfl Tryz.ntmps88 Tryz.results88 (by kernel_rfl) (by simp) 2 (by simp) ?_
 have hc := con_oCheck t ht
 unfold checkT at hc
 unfold validV
 simp only [go_sem]
 refine CallU.free hc (by simp only [go_sem]) (by simp only [go_sem, e1]) ?_
 rintro r bx rfl
 cases hr : rightT 8 t
 ·simp only [go_sem, Bool.false_eq_true, if_false, Bool.false_and]
 simp only [go_sem, if_true]
 refine CallU.free (con_size v hv) (by simp only [go_sem]) (by simp only [go_sem, e0]) ?_
 rintro r bx rfl
 by_cases h : countV v 128 <= 128
 ·simp only [go_sem, h]
  refine CallU.free (con_oone _ v t (Nat.le_refl _) hv ht (right_fit 8 t hr)) (by simp only [go_sem]) (by simp only [go_sem, e0, e1]) ?_
  rintro r bx rfl
  simp only [go_sem, h, decide_true, Bool.true_and]
 ·simp only [go_sem, h, decide_false, Bool.true_and, Bool.false_and]
end Go.AM
