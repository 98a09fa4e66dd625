/- LoE -/
import Derived.Test.YtebcmlhgfmkpnaaGreatg17
import Derived.Test.YtebcmlhgfmkpnaaGreatg12
namespace Go.AM
open Go Go.Proofs Go.RowKit
set_option maxRecDepth 100000
set_option maxHeartbeats 8000000
def postF (r : RD) (s : Int) (W : List (List TmD)) : Option (Int × List (List TmD)) :=
 if r.src ≠ s then none
 else if r.act = 1 then some (r.dst, (W.map normP).set r.channel.toNat (normP (snocP W[r.channel.toNat]! r.letter)))
 else if r.act = 2 then (match behP r.letter W[r.channel.toNat]! with
  | none => none
  | some q => some (r.dst, (W.map normP).set r.channel.toNat (normP q)))
 else some (r.dst, W.map normP)
def postA : Option (Int × List (List TmD)) -> AV
 | none => .tup [vCl 0 [], vb false, vi 0]
 | some x => .tup [vCl x.1 x.2, vb true, vi 0]
theorem none_le : leV (AV.freeze (fun _ => true) (.tup [.ag [vi 0, .nil], vb false, vi 0])) (.tup [vCl 0 [], vb false, vi 0]) := leV_tup ⟨leV_ag ⟨leV_refl _, leV_nil _ _, trivial⟩, leV_refl _, leV_refl _, trivial⟩
def sndTree : Tr := .front 12 (.alt (.one 13 (.alt (.one 14 (.one 15 (.one 16 .done))) (.one 15 (.one 14 (.one 16 .done))))) (.one 14 (.one 13 (.one 15 (.one 16 .done)))))
def rcvTree : Tr := .front 12 (.alt (.one 13 (.alt (.one 14 (.alt (.one 15 (.one 16 (.one 17 (.one 18 .done)))) (.one 16 (.alt (.one 15 (.one 17 (.one 18 .done))) (.one 17 (.one 15 (.one 18 .done))))))) (.alt (.one 15 (.alt (.one 14 (.one 16 (.one 17 (.one 18 .done)))) (.one 16 (.one 14 (.one 17 (.one 18 .done)))))) (.one 16 (.alt (.one 14 (.alt (.one 15 (.one 17 (.one 18 .done))) (.one 17 (.one 15 (.one 18 .done))))) (.one 15 (.one 14 (.one 17 (.one 18 .done))))))))) (.alt (.one 14 (.alt (.one 13 (.alt (.one 15 (.one 16 (.one 17 (.one 18 .done)))) (.one 16 (.alt (.one 15 (.one 17 (.one 18 .done))) (.one 17 (.one 15 (.one 18 .done))))))) (.one 15 (.one 13 (.one 16 (.one 17 (.one 18 .done))))))) (.one 15 (.alt (.one 13 (.alt (.one 14 (.one 16 (.one 17 (.one 18 .done)))) (.one 16 (.one 14 (.one 17 (.one 18 .done)))))) (.one 14 (.one 13 (.one 16 (.one 17 (.one 18 .done)))))))))
theorem con_lpost (m : MD) (i : Nat) (s : Int) (W : List (List TmD)) (h : CloudOk m s W) (hi : i < m.rules.length) (hch : 0 <= m.rules[i]!.channel /\ m.rules[i]!.channel < m.places.length) (hlt : 0 <= m.rules[i]!.letter /\ m.rules[i]!.letter < m.letters.length)
  (hw : ∀ p ∈ W, p.length <= 23) : Con Tryz.prog 45 [vM m, vi i, vCl s W] [] fun r _ => r = postA (postF m.rules[i]! s W) := by
 refine Con.frozX ?_
 refine Con.intro Tryz.func45 rfl Tryz.ntmps45 Tryz.results45 (by kernel_rfl) (by simp) 0 (by simp) ?_
 have c1 := con_lcheck m s W h
 have c2 := con_lnormal m s W h
 simp only [vM, cM, vss, vCl] at c1 c2
 have h1 : ¬ (m.rules.length : Int) <= i := by omega
 have h2 : ¬ (i : Int) < 0 := by omega
 have hg := getRule hi
 obtain ⟨c, ec⟩ : ∃ c : Nat, m.rules[i]!.channel = c := ⟨_, (Int.toNat_of_nonneg hch.1).symm⟩
 have hcl : c < W.length := by have := h.len; omega
 have hv := h.ws _ (mem_bangI hcl)
 have hgp := getPr hcl
 have hcn : c < (W.map normP).length := by rw [List.length_map]; exact hcl
 generalize m.rules[i]! = r at hg ec hlt hch
 have e1 : vRule r = .ag [vStr r.name, vi r.src, vi r.dst, vs 0 r.need, vs 0 r.give, vs 0 r.move, vi r.channel, vi r.act, vi r.letter, vs 0 r.path, vs 0 r.next, .sl 0 3 (r.takes.map vTake), vs 0 r.makes, vi r.second] := rfl
 rw [e1, ec] at hg
 unfold postF
 rw [ec, Int.toNat_natCast]
 simp only [go_sem, cM, vss, vCl]
 refine CallU.free c1 (by simp only [go_sem]) (by simp only [go_sem]) ?_
 rintro q bx rfl
 simp only [go_sem, h1, h2, hi, hg, List.length_map]
 by_cases hs : r.src = s
 case neg =>
  have hb : (r.src != s) = true := bne_iff_ne.2 hs
  rw [if_pos hs]
  simp only [go_sem, hb]
  exact none_le
 have hb : (r.src != s) = false := by rw [hs]; simp
 rw [if_neg (by simpa using hs)]
 simp only [go_sem, hb]
 refine CallU.free c2 (by simp only [go_sem]) (by simp only [go_sem]) ?_
 rintro q bx rfl
 simp only [go_sem]
 have hL : letX m.letters.length W[c]! r.letter = 0 := by
  unfold letX
  rw [check_zero.2 hv, if_neg (by simp), if_neg (by omega)]
 by_cases ha1 : r.act = 1
 ·have hab : (r.act == 1) = true := beq_iff_eq.2 ha1
  have ca := con_xAppend m.letters.length W[c]! r.letter hv.lenP
  have hsl : (snocP W[c]! r.letter).length <= 24 := by unfold snocP; rw [List.length_append]; have := hw _ (mem_bangI hcl); simpa using this
  have hmod := mod_Pr (D := W.map normP) (q := c) (x := normP (snocP W[c]! r.letter)) hcn
  rw [List.map_map] at hmod
  unfold appX at ca
  rw [hL, if_neg (by simp), if_neg (by have := normP_len (snocP W[c]! r.letter); omega)] at ca
  rw [if_pos ha1]
  simp only [vPr] at ca hmod
  simp only [go_sem, hab]
  refine DrawK.effs0 0 [] [] 12 sndTree none [vi m.kind, .sl 0 1 (m.states.map vStr), .sl 0 1 (m.places.map vStr), .sl 0 1 (m.letters.map vStr), .sl 0 1 (m.ranks.map vi), vi m.levels, vi m.age, .sl 0 14 (m.rules.map vRule), vi m.start.n, .sl 0 2 (m.start.kids.map vV)] mixed (by kernel_rfl) (by kernel_rfl) (by simp only [go_sem]) (by simp only [go_sem]) ?_
  unfold sndTree
  simp only [go_sem, hcl, hgp, List.length_map]
  refine CallY.mk ca (by simp only [go_sem]) (by simp only [go_sem]) (.inl (by simp only [go_sem])) ?_
  simp only [go_sem, hcl, hmod, List.length_map]
  repeat' (first | exact leV_refl _ | with_reducible apply andK_mk | simp only [go_sem, hcl, hmod, List.length_map])
 have hab1 : (r.act == 1) = false := beq_eq_false_iff_ne.2 ha1
 rw [if_neg ha1]
 by_cases ha2 : r.act = 2
 ·have hab : (r.act == 2) = true := beq_iff_eq.2 ha2
  have cb := con_xBehind m.letters.length W[c]! r.letter hv.lenP
  unfold behX at cb
  rw [hL, if_neg (by simp)] at cb
  rw [if_pos ha2]
  cases hbp : behP r.letter W[c]! with
  | none =>
   rw [hbp] at cb
   simp only [vPr] at cb
   simp only [go_sem, hab1, hab]
   refine DrawK.effs0 0 [] [] 12 rcvTree none [vi m.kind, .sl 0 1 (m.states.map vStr), .sl 0 1 (m.places.map vStr), .sl 0 1 (m.letters.map vStr), .sl 0 1 (m.ranks.map vi), vi m.levels, vi m.age, .sl 0 14 (m.rules.map vRule), vi m.start.n, .sl 0 2 (m.start.kids.map vV)] mixed (by kernel_rfl) (by kernel_rfl) (by simp only [go_sem]) (by simp only [go_sem]) ?_
   unfold rcvTree
   simp only [go_sem, hcl, hgp, List.length_map]
   refine CallY.mk cb (by simp only [go_sem]) (by simp only [go_sem]) (.inl (by simp only [go_sem])) ?_
   simp only [go_sem]
   repeat' (first | exact none_le | with_reducible apply andK_mk | simp only [go_sem])
  | some q =>
   rw [hbp] at cb
   have hmod := mod_Pr (D := W.map normP) (q := c) (x := normP q) hcn
   rw [List.map_map] at hmod
   simp only [vPr] at cb hmod
   simp only [go_sem, hab1, hab]
   refine DrawK.effs0 0 [] [] 12 rcvTree none [vi m.kind, .sl 0 1 (m.states.map vStr), .sl 0 1 (m.places.map vStr), .sl 0 1 (m.letters.map vStr), .sl 0 1 (m.ranks.map vi), vi m.levels, vi m.age, .sl 0 14 (m.rules.map vRule), vi m.start.n, .sl 0 2 (m.start.kids.map vV)] mixed (by kernel_rfl) (by kernel_rfl) (by simp only [go_sem]) (by simp only [go_sem]) ?_
   unfold rcvTree
   simp only [go_sem, hcl, hgp, List.length_map]
   refine CallY.mk cb (by simp only [go_sem]) (by simp only [go_sem]) (.inl (by simp only [go_sem])) ?_
   simp only [go_sem, hcl, hmod, List.length_map]
   repeat' (first | exact leV_refl _ | with_reducible apply andK_mk | simp only [go_sem, hcl, hmod, List.length_map])
 have hab : (r.act == 2) = false := beq_eq_false_iff_ne.2 ha2
 rw [if_neg ha2]
 simp only [go_sem, hab1, hab]
 rw [<- List.map_map]
 exact leV_refl _
end Go.AM
