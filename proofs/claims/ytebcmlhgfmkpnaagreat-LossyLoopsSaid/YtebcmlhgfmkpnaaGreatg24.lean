/- LLo5 LoV LoW -/
import Derived.Test.YtebcmlhgfmkpnaaGreatg18
import Derived.Test.YtebcmlhgfmkpnaaGreatg21
import Derived.Test.YtebcmlhgfmkpnaaGreatg19
import Derived.Test.YtebcmlhgfmkpnaaGreatg17
import Derived.Test.YtebcmlhgfmkpnaaGreatg22
import Derived.Test.YtebcmlhgfmkpnaaGreatg13
import Derived.Test.YtebcmlhgfmkpnaaGreatg23
namespace Go.AM
open Go Go.Proofs
theorem starF_norm (p : List TmD) (L : List Int) : starF (normP p) L = starP p L := by unfold starF starP; rfl
theorem starP_mem {p : List TmD} {L : List Int} {t : TmD} (h : t ∈ starP p L) : t ∈ p \/ t = starT L := by
 unfold starP at h
 split at h
 ·exact .inl (normP_sub h)
 ·rcases List.mem_append.1 (normP_sub h) with h | h
  ·exact .inl (normP_sub h)
  ·exact .inr (List.mem_singleton.1 h)
theorem starP_valid {n : Int} {p : List TmD} {L : List Int} (h : ValidP n p) (hp : p.length <= 23) (hL : ascI L = true) (hl : ∀ x ∈ L, 0 <= x /\ x < n) (hs : L.length <= 6) : ValidP n (starP p L) :=
 ⟨h.num, by have := starP_len p L; omega, starP_ok h.ok hL, fun t ht => by
  rcases starP_mem ht with ht | rfl
  ·exact h.letters t ht
  ·exact hl, fun t ht => by
  rcases starP_mem ht with ht | rfl
  ·exact h.short t ht
  ·exact hs⟩
structure RulesLo (m : MD) : Prop where
 there : ∀ r ∈ m.rules, 0 <= r.channel /\ r.channel < m.places.length /\ 0 <= r.letter /\ r.letter < m.letters.length
 few : m.rules.length <= 6
theorem sentF_in {m : MD} (h : RulesLo m) (s : Int) (c : Nat) : ∀ x ∈ lettersF (sentF m.rules s c), 0 <= x /\ x < m.letters.length := fun x hx => by
 have hx := (letters_mem _ _).1 hx
 unfold sentF at hx
 obtain ⟨r, hr, rfl⟩ := List.mem_map.1 hx
 exact (h.there r (List.mem_filter.1 hr).1).2.2
theorem sentF_few {m : MD} (h : RulesLo m) (s : Int) (c : Nat) : (lettersF (sentF m.rules s c)).length <= 6 := by
 have h1 := letters_len (sentF m.rules s c)
 have h2 := sentF_len m.rules s c
 have := h.few
 omega
theorem loopW_len (rules : List RD) (s : Int) (W : List (List TmD)) : (loopW rules s W).length = W.length := by simp [loopW]
theorem loopW_at {rules : List RD} {s : Int} {W : List (List TmD)} {c : Nat} (h : c < W.length) : (loopW rules s W)[c]! = starP W[c]! (lettersF (sentF rules s c)) := by
 rw [getElem!_pos _ c (by rw [loopW_len]; exact h), getElem!_pos W c h]
 simp [loopW, starF_norm]
theorem loopW_mem {rules : List RD} {s : Int} {W : List (List TmD)} {q : List TmD} (h : q ∈ loopW rules s W) : ∃ c, c < W.length /\ q = starP W[c]! (lettersF (sentF rules s c)) := by
 obtain ⟨c, hc, rfl⟩ := List.getElem_of_mem h
 have hc' := hc
 rw [loopW_len] at hc'
 refine ⟨c, hc', ?_⟩
 rw [<- loopW_at hc', getElem!_pos _ c hc]
theorem loopW_short {m : MD} {s : Int} {W : List (List TmD)} {k : Nat} (hw : ∀ p ∈ W, p.length <= k) : ∀ q ∈ loopW m.rules s W, q.length <= k + 1 := fun q hq => by
 obtain ⟨c, hc, rfl⟩ := loopW_mem hq
 have h1 := starP_len W[c]! (lettersF (sentF m.rules s c))
 have h2 := hw _ (mem_bangI hc)
 omega
theorem loop_ok {m : MD} {s : Int} {W : List (List TmD)} (h : CloudOk m s W) (hr : RulesLo m) (hw : ∀ p ∈ W, p.length <= 23) : CloudOk m s (loopW m.rules s W) :=
 ⟨h.st, by rw [loopW_len]; exact h.len, fun q hq => by
  obtain ⟨c, hc, rfl⟩ := loopW_mem hq
  exact starP_valid (h.ws _ (mem_bangI hc)) (hw _ (mem_bangI hc)) (letters_asc _) (sentF_in hr s c) (sentF_few hr s c), h.few⟩
theorem loop_twice {m : MD} {s : Int} {W : List (List TmD)} (h : ∀ p ∈ W, OkP p) : loopW m.rules s (loopW m.rules s W) = loopW m.rules s W := by
 apply List.ext_getElem
 ·rw [loopW_len]
 intro c h1 h2
 have h3 : c < (loopW m.rules s W).length := h2
 have h4 : c < W.length := by rw [loopW_len] at h3; exact h3
 rw [<- getElem!_pos _ c h1, <- getElem!_pos _ c h2, loopW_at h3, loopW_at h4]
 exact starP_twice (h _ (mem_bangI h4)) (letters_asc _)
theorem loop_above {m : MD} {s : Int} {W : List (List TmD)} (h : CloudOk m s W) (hr : RulesLo m) (hw : ∀ p ∈ W, p.length <= 23) : clLeq m.letters.length (s, W) (s, loopW m.rules s W) = true := by
 have h2 := loop_ok h hr hw
 refine (clLeq_iff (np := m.places.length) ⟨h.len, h.ws⟩ ⟨h2.len, h2.ws⟩).2 ⟨rfl, fun j hj => ?_⟩
 have hj : j < W.length := by rw [h.len]; exact hj
 show leqP W[j]! (loopW m.rules s W)[j]! = true
 rw [loopW_at hj]
 exact starP_above (h.ws _ (mem_bangI hj)).ok (letters_asc _)
theorem starP_fix {p : List TmD} {L : List Int} (hp : OkP p) (hL : ascI L = true) : normP (starP p L) = starP p L :=
 red_eq (normP_ok (starP_ok hp hL)) (starP_ok hp hL) (normP_red _) (starP_red _ _) (normP_eq _).symm
theorem loop_fix {m : MD} {s : Int} {W : List (List TmD)} (h : ∀ p ∈ W, OkP p) : (loopW m.rules s W).map normP = loopW m.rules s W := by
 conv => rhs; rw [<- List.map_id (loopW m.rules s W)]
 refine List.map_congr_left fun q hq => ?_
 obtain ⟨c, hc, rfl⟩ := loopW_mem hq
 exact starP_fix (h _ (mem_bangI hc)) (letters_asc _)
theorem loop_send {m : MD} {s : Int} {W : List (List TmD)} {r : RD} (hW : W.length = m.places.length) (h : ∀ p ∈ W, OkP p) (hr : RulesLo m) (hm : r ∈ m.rules) (ha : r.act = 1) (h1 : r.src = s) (h2 : r.dst = s) :
  postF r s (loopW m.rules s W) = some (s, loopW m.rules s W) := by
 unfold postF
 rw [if_neg (by rw [h1]; simp), if_pos ha, h2, loop_fix h]
 have ht := hr.there r hm
 obtain ⟨c, ec⟩ : ∃ c : Nat, r.channel = c := ⟨_, (Int.toNat_of_nonneg ht.1).symm⟩
 have hc : c < W.length := by omega
 rw [ec, Int.toNat_natCast]
 have e : normP (snocP (loopW m.rules s W)[c]! r.letter) = (loopW m.rules s W)[c]! := by
  rw [loopW_at hc]
  refine starP_snoc (h _ (mem_bangI hc)) (letters_asc _) ((letters_mem _ _).2 ?_)
  unfold sentF
  refine List.mem_map.2 ⟨r, List.mem_filter.2 ⟨hm, ?_⟩, rfl⟩
  unfold staysB
  rw [ha, h1, h2, ec]; simp
 rw [e, getElem!_pos _ c (by rw [loopW_len]; exact hc), List.set_getElem_self]
end Go.AM
namespace Go.AM
open Go Go.Proofs Go.RowKit
set_option maxRecDepth 100000
theorem con_lLoop (m : MD) (a : ClD) (hL : Con Tryz.prog 54 [vM m] [] fun r _ => r = vi 0) (h : CloudOk m a.1 a.2) (hr : RulesLo m) (hw : ∀ p ∈ a.2, p.length <= 23) :
  Con Tryz.prog 23 [vM m, vCP a] [] fun r _ => r = .tup [vCl a.1 (loopW m.rules a.1 a.2), vi 0] := by
 refine Con.intro Tryz.func23 rfl Tryz.ntmps23 Tryz.results23 (by kernel_rfl) (by simp) 0 (by simp) ?_
 have c1 := con_lloop m a.1 a.2 h hr.there (by have := hr.few; omega) hw
 simp only [vM, cM, vss, vCl] at c1 hL
 simp only [go_sem, cM, vss, vCP, vCl]
 refine CallU.free hL (by simp only [go_sem]) (by simp only [go_sem]) ?_
 rintro q bx rfl
 simp only [go_sem]
 refine CallU.free c1 (by simp only [go_sem]) (by simp only [go_sem]) ?_
 rintro q bx rfl
 simp only [go_sem]
theorem con_lPost (m : MD) (i : Nat) (a : ClD) (hL : Con Tryz.prog 54 [vM m] [] fun r _ => r = vi 0) (h : CloudOk m a.1 a.2) (hi : i < m.rules.length) (hr : RulesLo m) (hw : ∀ p ∈ a.2, p.length <= 23) :
  Con Tryz.prog 24 [vM m, vi i, vCP a] [] fun r _ => r = postA (postF m.rules[i]! a.1 a.2) := by
 refine Con.intro Tryz.func24 rfl Tryz.ntmps24 Tryz.results24 (by kernel_rfl) (by simp) 0 (by simp) ?_
 have ht := hr.there _ (mem_bangI hi)
 have c1 := con_lpost m i a.1 a.2 h hi ⟨ht.1, ht.2.1⟩ ht.2.2 hw
 simp only [vM, cM, vss, vCl] at c1 hL
 simp only [go_sem, cM, vss, vCP, vCl]
 refine CallU.free hL (by simp only [go_sem]) (by simp only [go_sem]) ?_
 rintro q bx rfl
 simp only [go_sem]
 refine CallU.free c1 (by simp only [go_sem]) (by cases postF m.rules[i]! a.1 a.2 <;> simp only [go_sem]) ?_
 rintro q bx rfl
 cases postF m.rules[i]! a.1 a.2 <;> simp only [go_sem, postA, vCl]
set_option maxHeartbeats 8000000
theorem DealC.rulesLo {ns np nl : Nat} {rules : List RD} {ws : List (List Int)} (h : DealC ns np nl rules ws) : RulesLo (chanM ns np nl rules ws) := by
 have hl := h.lens
 refine ⟨fun r hr => ?_, by show rules.length <= 6; have := h.few; omega⟩
 have := h.rules r hr
 rw [hl.2.1, hl.2.2]
 exact ⟨this.chan.1, this.chan.2, this.letter.1, this.letter.2⟩
theorem con_loopsLaw (l : List Int) (hl : l.length <= 9223372036854775807) (hx : ∀ x ∈ l, 0 <= x /\ x < 256) :
  Con Tryz.prog 5 [.sl 0 1 (l.map vu)] [] fun r _ => r = vb true := by
 refine Con.intro Tryz.func5 rfl Tryz.ntmps5 Tryz.results5 (by kernel_rfl) (by simp) 0 (by simp) ?_
 have hs : Seeds (l.take 200) := ⟨by rw [List.length_take]; omega, fun x h => hx x (List.mem_of_mem_take h)⟩
 simp only [go_sem]
 refine CallU.free con_lsane (by simp only [go_sem]) (by simp only [go_sem]) ?_
 rintro r bx rfl
 simp only [go_sem]
 refine CallU.news (bx0 := []) (con_new l hl) (by simp only [go_sem]) (by simp only [go_sem]) (by simp only [go_sem]) (by simp only [go_sem]) (by simp only [go_sem]) ?_
 rintro r bx ⟨rfl, rfl⟩
 generalize l.take 200 = l at hs
 simp only [go_sem]
 refine CallU.boxes (i := 0) (is := []) (bx0 := [diceA l 0]) (con_Channel l 0 hs (by omega)) (by simp only [go_sem]) (by simp only [go_sem]) (by simp only [go_sem]) (by simp only [go_sem]) (by simp only [go_sem]) ?_
 rintro r bx ⟨ns, np, nl, rules, ws, at1, hd, ha1, rfl, rfl⟩
 have hns := hd.hns
 have hnp := hd.hnp
 have hnl := hd.hnl
 obtain ⟨l1, l2, l3⟩ := hd.lens
 have hL := con_dealLossy hd
 have hR := hd.rulesLo
 have hcl := con_lcloud l at1 (chanM ns np nl rules ws) hs ha1 (by omega) (by omega) (by omega)
 generalize chanM ns np nl rules ws = m at l1 l2 l3 hL hR hcl
 simp only [vM, cM, vss] at hcl
 simp only [go_sem, vM, cM, vss]
 refine CallU.boxes (i := 0) (is := []) (bx0 := [diceA l at1]) hcl (by simp only [go_sem]) (by simp only [go_sem]) (by simp only [go_sem]) (by simp only [go_sem]) (by simp only [go_sem]) ?_
 rintro r bx ⟨s, W, at2, hC, ha2, rfl, rfl⟩
 have hok : CloudOk m s W := hC.ok (by omega) (by omega)
 have hw3 : ∀ p ∈ W, p.length <= 3 := fun p hp => (hC.ws p hp).few
 have hw : ∀ p ∈ W, p.length <= 23 := fun p hp => by have := hw3 p hp; omega
 have hokX := loop_ok hok hR hw
 have hwX : ∀ p ∈ loopW m.rules s W, p.length <= 23 := fun p hp => by have := loopW_short hw3 p hp; omega
 have hOkP : ∀ p ∈ W, OkP p := fun p hp => (hok.ws p hp).ok
 have h2 := loop_twice (m := m) (s := s) hOkP
 have hab := loop_above hok hR hw
 have hXX : clLeq m.letters.length (s, loopW m.rules s W) (s, loopW m.rules s W) = true := clLeq_refl (np := m.places.length) ⟨hokX.len, hokX.ws⟩
 have c1 := con_lLoop m (s, W) hL hok hR hw
 have c2 := con_lLoop m (s, loopW m.rules s W) hL hokX hR hwX
 have c3 := con_lLeq m (s, W) (s, loopW m.rules s W) hL hok hokX
 have c4 := con_r31Compare (s, loopW m.rules s W) (s, loopW m.rules s W) (fun p hp => (hokX.ws p hp).lenP) (fun p hp => (hokX.ws p hp).lenP) (by have := hokX.len; show (loopW m.rules s W).length <= 1000; omega) rfl
 have c5 := con_lLeq m (s, loopW m.rules s W) (s, loopW m.rules s W) hL hokX hokX
 have c6 := fun i (hi : i < m.rules.length) => con_lPost m i (s, loopW m.rules s W) hL hokX hi hR hwX
 have hsend := fun r hm ha h1 h2 => loop_send (m := m) (s := s) (W := W) (r := r) hok.len hOkP hR hm ha h1 h2
 rw [h2] at c2
 rw [hab] at c3
 rw [hXX] at c5
 rw [cmpCl_self] at c4
 generalize loopW m.rules s W = X at c1 c2 c3 c4 c5 c6 hsend
 simp only [vM, cM, vss, vCP, vCl] at c1 c2 c3 c4 c5 c6
 simp only [go_sem, vCl]
 refine CallU.free c1 (by simp only [go_sem]) (by simp only [go_sem]) ?_
 rintro r bx rfl
 simp only [go_sem]
 refine CallU.free c2 (by simp only [go_sem]) (by simp only [go_sem]) ?_
 rintro r bx rfl
 simp only [go_sem]
 refine CallU.free c3 (by simp only [go_sem]) (by simp only [go_sem]) ?_
 rintro r bx rfl
 simp only [go_sem]
 refine CallU.free c4 (by simp only [go_sem]) (by simp only [go_sem]) ?_
 rintro r bx rfl
 simp only [go_sem, List.length_map]
 refine LoopK.intro (fun x : Nat × List Nat => ⟨122, [(2, vb false), (3, .pb 0 0), (4, .pb 1 0), (5, .pb 2 0), (6, .pb 3 0), (68, .sl 0 14 (m.rules.map vRule)), (69, vi m.rules.length), (70, vi x.1)], diceA l at2 :: cM m :: [vi s, .sl 0 1 (W.map vPr)] :: [vi s, .sl 0 1 (X.map vPr)] :: Jk x.2⟩)
  (fun x => m.rules.length - x.1) (fun x => x.1 <= m.rules.length) (0, [2]) (Nat.zero_le _) ?_ ?_
 ·have e : Jk [2] = [[.any, .any]] := rfl
  simp only [go_sem, cM, vss, e]
 rintro ⟨i, D⟩ hi
 simp only at hi
 have hB := Jk_len D
 have n0 := fun L : List (List AV) => app_at0 (L := L) hB
 have s0 := fun (L : List (List AV)) z => app_set0 (L := L) (z := z) hB
 have n1 := fun L : List (List AV) => app_at1 (L := L) hB
 have s1 := fun (L : List (List AV)) z => app_set1 (L := L) (z := z) hB
 have hwi : IntKind.i64.wrap (i + 1) = i + 1 := wrap_in (by omega) (by have := hR.few; omega)
 by_cases h4 : i < m.rules.length
 case neg => simp only [go_sem, h4]
 have hg := getRule h4
 have c6i := c6 i h4
 have hse := fun ha h1 h2 => hsend m.rules[i]! (mem_bangI h4) ha h1 h2
 have e16 : Jk (D ++ [14, 2]) = Jk D ++ [List.replicate 14 .any, List.replicate 2 .any] := Jk_app D [14, 2]
 have e14 : Jk (D ++ [14]) = Jk D ++ [List.replicate 14 .any] := Jk_app D [14]
 generalize m.rules[i]! = r at hg c6i hse
 have e1 : vRule r = .ag [vStr r.name, vi r.src, vi r.dst, vs 0 r.need, vs 0 r.give, vs 0 r.move, vi r.channel, vi r.act, vi r.letter, vs 0 r.path, vs 0 r.next, .sl 0 3 (r.takes.map vTake), vs 0 r.makes, vi r.second] := rfl
 rw [e1] at hg
 by_cases b1 : r.act = 1
 case neg =>
  have hb1 : (r.act != 1) = true := bne_iff_ne.2 b1
  simp only [go_sem, h4, hg, hB, n0, s0, hb1, hwi, cM, vss]
  refine roundK.intro (i + 1, D ++ [14]) (by show i + 1 <= _; omega) (by show m.rules.length - (i + 1) < m.rules.length - i; omega) ?_
  simp only [go_sem, e14]
  exact leB_app (leB_self _) ⟨leC_any _ 14 rfl, trivial⟩
 have hb1 : (r.act != 1) = false := by rw [b1]; rfl
 by_cases b2 : r.src = s
 case neg =>
  have hb2 : (r.src != s) = true := bne_iff_ne.2 b2
  simp only [go_sem, h4, hg, hB, n0, s0, hb1, hb2, hwi, cM, vss]
  refine roundK.intro (i + 1, D ++ [14]) (by show i + 1 <= _; omega) (by show m.rules.length - (i + 1) < m.rules.length - i; omega) ?_
  simp only [go_sem, e14]
  exact leB_app (leB_self _) ⟨leC_any _ 14 rfl, trivial⟩
 have hb2 : (r.src != s) = false := by rw [b2]; simp
 by_cases b3 : r.dst = s
 case neg =>
  have hb3 : (r.dst != s) = true := bne_iff_ne.2 b3
  simp only [go_sem, h4, hg, hB, n0, s0, hb1, hb2, hb3, hwi, cM, vss]
  refine roundK.intro (i + 1, D ++ [14]) (by show i + 1 <= _; omega) (by show m.rules.length - (i + 1) < m.rules.length - i; omega) ?_
  simp only [go_sem, e14]
  exact leB_app (leB_self _) ⟨leC_any _ 14 rfl, trivial⟩
 have hb3 : (r.dst != s) = false := by rw [b3]; simp
 rw [hse b1 b2 b3] at c6i
 simp only [postA, vCl] at c6i
 simp only [go_sem, h4, hg, hB, n0, s0, hb1, hb2, hb3, cM, vss]
 refine CallU.free c6i (by simp only [go_sem]) (by simp only [go_sem]) ?_
 rintro q bx rfl
 simp only [go_sem, hB, n1, s1, List.append_assoc, List.cons_append, List.nil_append, List.length_append, List.length_cons, List.length_nil]
 refine CallU.free c5 (by simp only [go_sem]) (by simp only [go_sem]) ?_
 rintro q bx rfl
 simp only [go_sem, hwi]
 refine roundK.intro (i + 1, D ++ [14, 2]) (by show i + 1 <= _; omega) (by show m.rules.length - (i + 1) < m.rules.length - i; omega) ?_
 simp only [go_sem, e16]
 exact leB_app (leB_self _) ⟨leC_any _ 14 rfl, leC_any _ 2 rfl, trivial⟩
end Go.AM
