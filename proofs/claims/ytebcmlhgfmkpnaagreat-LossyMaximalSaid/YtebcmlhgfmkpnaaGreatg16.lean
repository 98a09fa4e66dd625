/- GG -/
import Derived.Test.YtebcmlhgfmkpnaaGreatg14
import Derived.Test.YtebcmlhgfmkpnaaGreatg15
namespace Go.AM
open Go Go.Proofs Go.RowKit
set_option maxRecDepth 100000
set_option maxHeartbeats 8000000
def onlyR (k : Int) (r : RD) : RD :=
 if k = 1 then ⟨r.name, r.src, r.dst, r.need, r.give, r.move, 0, 0, 0, [], [], [], [], 0⟩
 else if k = 2 \/ k = 3 then ⟨r.name, r.src, r.dst, [], [], [], r.channel, r.act, r.letter, [], [], [], [], 0⟩
 else if k = 4 then ⟨r.name, r.src, r.dst, [], [], [], 0, 0, 0, r.path, r.next, [], [], 0⟩
 else if k = 5 then ⟨r.name, r.src, r.dst, [], [], [], 0, 0, 0, [], [], r.takes, r.makes, 0⟩
 else ⟨r.name, r.src, r.dst, r.need, r.give, [], 0, 0, 0, [], [], [], [], r.second⟩
def branchB (ns np : Nat) (r : RD) : Bool := changesB np r && (r.second == -1 || indexB r.second ns) && (decide (0 <= r.src) || (r.second == -1 && r.need.all fun x => x == 0))
def fitsR (m : MD) (r : RD) : Bool :=
 if m.kind = 1 then changesB m.places.length r && movesB m.places.length r
 else if m.kind = 2 \/ m.kind = 3 then actsB m.places.length m.letters.length r
 else if m.kind = 4 then pathsB m.letters.length m.levels r
 else if m.kind = 5 then agesB m.places.length m.age r
 else branchB m.states.length m.places.length r
def endsR (m : MD) (r : RD) : Bool := indexB r.dst m.states.length && (indexB r.src m.states.length || (m.kind == 6 && r.src == -1))
def rightR (m : MD) (r : RD) : Bool := endsR m r && fitsR m r && sameB r (onlyR m.kind r)
structure RightM (m : MD) : Prop where
 states : m.states.length <= 1000000
 places : m.places.length <= 1000000
 letters : m.letters.length <= 1000000
 age : m.kind = 5 -> 0 <= m.age /\ m.age <= 1000000
structure LenR (r : RD) : Prop where
 len : r.Len
 path : r.path.length <= 1000000
 next : r.next.length <= 1000000
def rtActs : Tr := .front 0 (.front 2 (.front 4 (.alt (.one 1 (.front 6 (.alt (.one 3 (.alt (.one 5 (.one 7 (.front 8 (.one 9 (.front 10 (.one 11 .done)))))) (.one 7 (.front 8 (.alt (.one 5 (.one 9 (.front 10 (.one 11 .done)))) (.one 9 (.one 5 (.front 10 (.one 11 .done))))))))) (.alt (.one 5 (.alt (.one 3 (.one 7 (.front 8 (.one 9 (.front 10 (.one 11 .done)))))) (.one 7 (.one 3 (.front 8 (.one 9 (.front 10 (.one 11 .done)))))))) (.one 7 (.alt (.one 3 (.front 8 (.alt (.one 5 (.one 9 (.front 10 (.one 11 .done)))) (.one 9 (.one 5 (.front 10 (.one 11 .done))))))) (.one 5 (.one 3 (.front 8 (.one 9 (.front 10 (.one 11 .done)))))))))))) (.alt (.one 3 (.alt (.one 1 (.front 6 (.alt (.one 5 (.one 7 (.front 8 (.one 9 (.front 10 (.one 11 .done)))))) (.one 7 (.front 8 (.alt (.one 5 (.one 9 (.front 10 (.one 11 .done)))) (.one 9 (.one 5 (.front 10 (.one 11 .done)))))))))) (.one 5 (.one 1 (.front 6 (.one 7 (.front 8 (.one 9 (.front 10 (.one 11 .done)))))))))) (.one 5 (.alt (.one 1 (.front 6 (.alt (.one 3 (.one 7 (.front 8 (.one 9 (.front 10 (.one 11 .done)))))) (.one 7 (.one 3 (.front 8 (.one 9 (.front 10 (.one 11 .done))))))))) (.one 3 (.one 1 (.front 6 (.one 7 (.front 8 (.one 9 (.front 10 (.one 11 .done))))))))))))))
def rtPaths : Tr := .front 0 (.front 2 (.alt (.one 1 (.front 4 (.alt (.one 3 (.one 5 (.front 6 (.one 7 .done)))) (.one 5 (.one 3 (.front 6 (.one 7 .done))))))) (.one 3 (.one 1 (.front 4 (.one 5 (.front 6 (.one 7 .done))))))))
def rtAges : Tr := .front 0 (.front 2 (.alt (.one 1 (.front 4 (.alt (.one 3 (.one 5 (.front 6 (.one 7 .done)))) (.one 5 (.one 3 (.front 6 (.one 7 .done))))))) (.one 3 (.one 1 (.front 4 (.one 5 (.front 6 (.one 7 .done))))))))
def rtBranch : Tr := .front 0 (.front 2 (.front 4 (.alt (.one 1 (.front 6 (.alt (.one 3 (.alt (.one 5 (.one 7 (.front 8 (.one 9 (.front 10 (.one 11 .done)))))) (.one 7 (.front 8 (.alt (.one 5 (.one 9 (.front 10 (.one 11 .done)))) (.one 9 (.one 5 (.front 10 (.one 11 .done))))))))) (.alt (.one 5 (.alt (.one 3 (.one 7 (.front 8 (.one 9 (.front 10 (.one 11 .done)))))) (.one 7 (.one 3 (.front 8 (.one 9 (.front 10 (.one 11 .done)))))))) (.one 7 (.alt (.one 3 (.front 8 (.alt (.one 5 (.one 9 (.front 10 (.one 11 .done)))) (.one 9 (.one 5 (.front 10 (.one 11 .done))))))) (.one 5 (.one 3 (.front 8 (.one 9 (.front 10 (.one 11 .done)))))))))))) (.alt (.one 3 (.alt (.one 1 (.front 6 (.alt (.one 5 (.one 7 (.front 8 (.one 9 (.front 10 (.one 11 .done)))))) (.one 7 (.front 8 (.alt (.one 5 (.one 9 (.front 10 (.one 11 .done)))) (.one 9 (.one 5 (.front 10 (.one 11 .done)))))))))) (.one 5 (.one 1 (.front 6 (.one 7 (.front 8 (.one 9 (.front 10 (.one 11 .done)))))))))) (.one 5 (.alt (.one 1 (.front 6 (.alt (.one 3 (.one 7 (.front 8 (.one 9 (.front 10 (.one 11 .done)))))) (.one 7 (.one 3 (.front 8 (.one 9 (.front 10 (.one 11 .done))))))))) (.one 3 (.one 1 (.front 6 (.one 7 (.front 8 (.one 9 (.front 10 (.one 11 .done))))))))))))))
theorem con_zeroNeed (x : Int) : Con Tryz.prog 251 [vi x] [] fun r _ => r = .sc (.bool (x == 0)) := by
 refine Con.intro Tryz.func251 rfl Tryz.ntmps251 Tryz.results251 (by kernel_rfl) (by simp) 0 (by simp) ?_
 simp only [go_sem]
theorem con_rightG (m : MD) (r : RD) (h : RightM m) (hr : LenR r) : Con Tryz.prog 159 [vM m, vRule r] [] fun x _ => x = vb (rightR m r) := by
 refine Con.intro Tryz.func159 rfl Tryz.ntmps159 Tryz.results159 (by kernel_rfl) (by simp) 0 (by simp) ?_
 have ci1 := con_index r.dst m.states.length (by omega) (by have := h.states; omega)
 have ci2 := con_index r.src m.states.length (by omega) (by have := h.states; omega)
 have e0 : rightR m r = (endsR m r && fitsR m r && sameB r (onlyR m.kind r)) := rfl
 cases hE : endsR m r
 ·rw [e0, hE, Bool.false_and, Bool.false_and]
  unfold endsR indexB at hE
  simp only [go_sem]
  refine CallU.free ci1 (by simp only [go_sem]) (by simp only [go_sem]) ?_
  rintro x bx rfl
  cases h1 : decide (0 <= r.dst) && decide (r.dst < (m.states.length : Int))
  ·simp only [go_sem]
  rw [h1, Bool.true_and] at hE
  simp only [go_sem]
  refine CallU.free ci2 (by simp only [go_sem]) (by simp only [go_sem]) ?_
  rintro x bx rfl
  rw [Bool.or_eq_false_iff] at hE
  rw [hE.1]
  cases hk : m.kind == 6
  ·have hk' : (m.kind != 6) = true := by unfold bne; rw [hk]; rfl
   simp only [go_sem, hk']
  ·have hk' : (m.kind != 6) = false := by unfold bne; rw [hk]; rfl
   have hs : (r.src != -1) = true := by
    have := hE.2
    rw [hk, Bool.true_and] at this
    unfold bne; rw [this]; rfl
   simp only [go_sem, hk', hs]
 rw [e0, hE, Bool.true_and]
 unfold endsR indexB at hE
 rw [Bool.and_eq_true] at hE
 obtain ⟨hd, hs⟩ := hE
 have hsrc : (decide (0 <= r.src) && decide (r.src < (m.states.length : Int))) = true \/ ((decide (0 <= r.src) && decide (r.src < (m.states.length : Int))) = false /\ m.kind = 6 /\ r.src = -1) := by
  cases h1 : decide (0 <= r.src) && decide (r.src < (m.states.length : Int))
  ·rw [h1, Bool.false_or, Bool.and_eq_true, beq_iff_eq, beq_iff_eq] at hs
   exact .inr ⟨rfl, hs.1, hs.2⟩
  ·exact .inl rfl
 rcases hsrc with h1 | ⟨h1, hk6, hs1⟩
 case' inr =>
  have hk' : (m.kind != 6) = false := by rw [hk6]; rfl
  have hs' : (r.src != -1) = false := by rw [hs1]; rfl
  have b1 : (m.kind == 1) = false := by rw [hk6]; rfl
  have b2 : (m.kind == 2) = false := by rw [hk6]; rfl
  have b3 : (m.kind == 3) = false := by rw [hk6]; rfl
  have b4 : (m.kind == 4) = false := by rw [hk6]; rfl
  have b5 : (m.kind == 5) = false := by rw [hk6]; rfl
  have eo : onlyR m.kind r = ⟨r.name, r.src, r.dst, r.need, r.give, [], 0, 0, 0, [], [], [], [], r.second⟩ := by unfold onlyR; rw [if_neg (by omega), if_neg (by omega), if_neg (by omega), if_neg (by omega)]
  have ef : fitsR m r = branchB m.states.length m.places.length r := by unfold fitsR; rw [if_neg (by omega), if_neg (by omega), if_neg (by omega), if_neg (by omega)]
  have hsm := (con_same r (onlyR m.kind r) hr.len).leA (args' := [vRule r, .ag [vStr r.name, vi r.src, vi r.dst, vs 0 r.need, vs 0 r.give, .nil, vi 0, vi 0, vi 0, .nil, .nil, .nil, .nil, vi r.second]]) ⟨leV_refl _, by rw [eo]; exact leV_ag ⟨leV_refl _, leV_refl _, leV_refl _, leV_refl _, leV_refl _, leV_nil 0 1, leV_refl _, leV_refl _, leV_refl _, leV_nil 0 1, leV_nil 0 1, leV_nil 0 3, leV_nil 0 1, leV_refl _, trivial⟩, trivial⟩
  simp only [go_sem]
  refine CallU.free ci1 (by simp only [go_sem]) (by simp only [go_sem]) ?_
  rintro x bx rfl
  simp only [go_sem, hd]
  refine CallU.free ci2 (by simp only [go_sem]) (by simp only [go_sem]) ?_
  rintro x bx rfl
  simp only [go_sem, h1, hk', hs', b1, b2, b3, b4, b5]
 case' inl =>
  simp only [go_sem]
  refine CallU.free ci1 (by simp only [go_sem]) (by simp only [go_sem]) ?_
  rintro x bx rfl
  simp only [go_sem, hd]
  refine CallU.free ci2 (by simp only [go_sem]) (by simp only [go_sem]) ?_
  rintro x bx rfl
  simp only [go_sem, h1]
  by_cases k1 : m.kind = 1
 case pos =>
  have b1 : (m.kind == 1) = true := beq_iff_eq.2 k1
  have eo : onlyR m.kind r = ⟨r.name, r.src, r.dst, r.need, r.give, r.move, 0, 0, 0, [], [], [], [], 0⟩ := by unfold onlyR; rw [if_pos k1]
  have ef : fitsR m r = (changesB m.places.length r && movesB m.places.length r) := by unfold fitsR; rw [if_pos k1]
  have hsm := (con_same r (onlyR m.kind r) hr.len).leA (args' := [vRule r, .ag [vStr r.name, vi r.src, vi r.dst, vs 0 r.need, vs 0 r.give, vs 0 r.move, vi 0, vi 0, vi 0, .nil, .nil, .nil, .nil, vi 0]]) ⟨leV_refl _, by rw [eo]; exact leV_ag ⟨leV_refl _, leV_refl _, leV_refl _, leV_refl _, leV_refl _, leV_refl _, leV_refl _, leV_refl _, leV_refl _, leV_nil 0 1, leV_nil 0 1, leV_nil 0 3, leV_nil 0 1, leV_refl _, trivial⟩, trivial⟩
  rw [ef]
  simp only [go_sem, b1]
  refine DrawK.meet ⟨142, [(2, .pb 0 0), (3, .pb 1 0), (5, vi m.states.length), (6, .pb 2 0)], [cM m, [vStr r.name, vi r.src, vi r.dst, vs 0 r.need, vs 0 r.give, vs 0 r.move, vi r.channel, vi r.act, vi r.letter, vs 0 r.path, vs 0 r.next, .sl 0 3 (r.takes.map vTake), vs 0 r.makes, vi r.second], [vStr r.name, vi r.src, vi r.dst, vs 0 r.need, vs 0 r.give, vs 0 r.move, vi 0, vi 0, vi 0, .nil, .nil, .nil, .nil, vi 0]]⟩ ?_ ?_
  ·refine DrawK.tree rightTree mixed (by kernel_rfl) ?_
   unfold rightTree
   repeat' (first | with_reducible apply andK_mk | simp only [go_sem])
  ·simp only [go_sem]
   refine CallU.free (con_changes m r hr.len) (by simp only [go_sem]) (by simp only [go_sem]) ?_
   rintro x bx rfl
   cases hc : changesB m.places.length r
   ·simp only [go_sem, Bool.false_and]
   simp only [go_sem]
   refine CallU.free (con_moves m r hr.len h.places) (by simp only [go_sem]) (by simp only [go_sem]) ?_
   rintro x bx rfl
   cases hm : movesB m.places.length r
   ·simp only [go_sem, Bool.false_and, Bool.and_false]
   simp only [go_sem]
   refine CallU.free hsm (by simp only [go_sem]) (by simp only [go_sem]) ?_
   rintro x bx rfl
   simp only [go_sem, Bool.true_and]
 case' neg =>
  by_cases k23 : m.kind = 2 \/ m.kind = 3
 case pos =>
  have b1 : (m.kind == 1) = false := beq_eq_false_iff_ne.2 k1
  have eo : onlyR m.kind r = ⟨r.name, r.src, r.dst, [], [], [], r.channel, r.act, r.letter, [], [], [], [], 0⟩ := by unfold onlyR; rw [if_neg k1, if_pos k23]
  have ef : fitsR m r = actsB m.places.length m.letters.length r := by unfold fitsR; rw [if_neg k1, if_pos k23]
  have hsm := (con_same r (onlyR m.kind r) hr.len).leA (args' := [vRule r, .ag [vStr r.name, vi r.src, vi r.dst, .nil, .nil, .nil, vi r.channel, vi r.act, vi r.letter, .nil, .nil, .nil, .nil, vi 0]]) ⟨leV_refl _, by rw [eo]; exact leV_ag ⟨leV_refl _, leV_refl _, leV_refl _, leV_nil 0 1, leV_nil 0 1, leV_nil 0 1, leV_refl _, leV_refl _, leV_refl _, leV_nil 0 1, leV_nil 0 1, leV_nil 0 3, leV_nil 0 1, leV_refl _, trivial⟩, trivial⟩
  have b23 : (m.kind == 2) = true \/ ((m.kind == 2) = false /\ (m.kind == 3) = true) := by
   rcases k23 with h | h
   ·exact .inl (beq_iff_eq.2 h)
   ·exact .inr ⟨beq_eq_false_iff_ne.2 (by omega), beq_iff_eq.2 h⟩
  rw [ef]
  rcases b23 with b2 | ⟨b2, b3⟩
  case' inl => simp only [go_sem, b1, b2]
  case' inr => simp only [go_sem, b1, b2, b3]
  all_goals
   refine DrawK.meet ⟨142, [(2, .pb 0 0), (3, .pb 1 0), (5, vi m.states.length), (6, .pb 2 0)], [cM m, [vStr r.name, vi r.src, vi r.dst, vs 0 r.need, vs 0 r.give, vs 0 r.move, vi r.channel, vi r.act, vi r.letter, vs 0 r.path, vs 0 r.next, .sl 0 3 (r.takes.map vTake), vs 0 r.makes, vi r.second], [vStr r.name, vi r.src, vi r.dst, .nil, .nil, .nil, vi r.channel, vi r.act, vi r.letter, .nil, .nil, .nil, .nil, vi 0]]⟩ ?_ ?_
   ·refine DrawK.tree rtActs mixed (by kernel_rfl) ?_
    unfold rtActs
    repeat' (first | with_reducible apply andK_mk | simp only [go_sem])
   ·simp only [go_sem]
    refine CallU.free (con_acts m r h.places h.letters) (by simp only [go_sem]) (by simp only [go_sem]) ?_
    rintro x bx rfl
    cases hc : actsB m.places.length m.letters.length r
    ·simp only [go_sem, Bool.false_and]
    simp only [go_sem]
    refine CallU.free hsm (by simp only [go_sem]) (by simp only [go_sem]) ?_
    rintro x bx rfl
    simp only [go_sem, Bool.true_and]
 case' neg =>
  by_cases k4 : m.kind = 4
 case pos =>
  have b1 : (m.kind == 1) = false := beq_eq_false_iff_ne.2 k1
  have b2 : (m.kind == 2) = false := beq_eq_false_iff_ne.2 (by omega)
  have b3 : (m.kind == 3) = false := beq_eq_false_iff_ne.2 (by omega)
  have b4 : (m.kind == 4) = true := beq_iff_eq.2 k4
  have eo : onlyR m.kind r = ⟨r.name, r.src, r.dst, [], [], [], 0, 0, 0, r.path, r.next, [], [], 0⟩ := by unfold onlyR; rw [if_neg k1, if_neg k23, if_pos k4]
  have ef : fitsR m r = pathsB m.letters.length m.levels r := by unfold fitsR; rw [if_neg k1, if_neg k23, if_pos k4]
  have hsm := (con_same r (onlyR m.kind r) hr.len).leA (args' := [vRule r, .ag [vStr r.name, vi r.src, vi r.dst, .nil, .nil, .nil, vi 0, vi 0, vi 0, vs 0 r.path, vs 0 r.next, .nil, .nil, vi 0]]) ⟨leV_refl _, by rw [eo]; exact leV_ag ⟨leV_refl _, leV_refl _, leV_refl _, leV_nil 0 1, leV_nil 0 1, leV_nil 0 1, leV_refl _, leV_refl _, leV_refl _, leV_refl _, leV_refl _, leV_nil 0 3, leV_nil 0 1, leV_refl _, trivial⟩, trivial⟩
  rw [ef]
  simp only [go_sem, b1, b2, b3, b4]
  refine DrawK.meet ⟨142, [(2, .pb 0 0), (3, .pb 1 0), (5, vi m.states.length), (6, .pb 2 0)], [cM m, [vStr r.name, vi r.src, vi r.dst, vs 0 r.need, vs 0 r.give, vs 0 r.move, vi r.channel, vi r.act, vi r.letter, vs 0 r.path, vs 0 r.next, .sl 0 3 (r.takes.map vTake), vs 0 r.makes, vi r.second], [vStr r.name, vi r.src, vi r.dst, .nil, .nil, .nil, vi 0, vi 0, vi 0, vs 0 r.path, vs 0 r.next, .nil, .nil, vi 0]]⟩ ?_ ?_
  ·refine DrawK.tree rtPaths mixed (by kernel_rfl) ?_
   unfold rtPaths
   repeat' (first | with_reducible apply andK_mk | simp only [go_sem])
  ·simp only [go_sem]
   refine CallU.free (con_paths m r hr.len hr.path hr.next h.letters) (by simp only [go_sem]) (by simp only [go_sem]) ?_
   rintro x bx rfl
   cases hc : pathsB m.letters.length m.levels r
   ·simp only [go_sem, Bool.false_and]
   simp only [go_sem]
   refine CallU.free hsm (by simp only [go_sem]) (by simp only [go_sem]) ?_
   rintro x bx rfl
   simp only [go_sem, Bool.true_and]
 case' neg =>
  by_cases k5 : m.kind = 5
 case pos =>
  have b1 : (m.kind == 1) = false := beq_eq_false_iff_ne.2 k1
  have b2 : (m.kind == 2) = false := beq_eq_false_iff_ne.2 (by omega)
  have b3 : (m.kind == 3) = false := beq_eq_false_iff_ne.2 (by omega)
  have b4 : (m.kind == 4) = false := beq_eq_false_iff_ne.2 k4
  have b5 : (m.kind == 5) = true := beq_iff_eq.2 k5
  have eo : onlyR m.kind r = ⟨r.name, r.src, r.dst, [], [], [], 0, 0, 0, [], [], r.takes, r.makes, 0⟩ := by unfold onlyR; rw [if_neg k1, if_neg k23, if_neg k4, if_pos k5]
  have ef : fitsR m r = agesB m.places.length m.age r := by unfold fitsR; rw [if_neg k1, if_neg k23, if_neg k4, if_pos k5]
  have hsm := (con_same r (onlyR m.kind r) hr.len).leA (args' := [vRule r, .ag [vStr r.name, vi r.src, vi r.dst, .nil, .nil, .nil, vi 0, vi 0, vi 0, .nil, .nil, .sl 0 3 (r.takes.map vTake), vs 0 r.makes, vi 0]]) ⟨leV_refl _, by rw [eo]; exact leV_ag ⟨leV_refl _, leV_refl _, leV_refl _, leV_nil 0 1, leV_nil 0 1, leV_nil 0 1, leV_refl _, leV_refl _, leV_refl _, leV_nil 0 1, leV_nil 0 1, leV_refl _, leV_refl _, leV_refl _, trivial⟩, trivial⟩
  rw [ef]
  simp only [go_sem, b1, b2, b3, b4, b5]
  refine DrawK.meet ⟨142, [(2, .pb 0 0), (3, .pb 1 0), (5, vi m.states.length), (6, .pb 2 0)], [cM m, [vStr r.name, vi r.src, vi r.dst, vs 0 r.need, vs 0 r.give, vs 0 r.move, vi r.channel, vi r.act, vi r.letter, vs 0 r.path, vs 0 r.next, .sl 0 3 (r.takes.map vTake), vs 0 r.makes, vi r.second], [vStr r.name, vi r.src, vi r.dst, .nil, .nil, .nil, vi 0, vi 0, vi 0, .nil, .nil, .sl 0 3 (r.takes.map vTake), vs 0 r.makes, vi 0]]⟩ ?_ ?_
  ·refine DrawK.tree rtAges mixed (by kernel_rfl) ?_
   unfold rtAges
   repeat' (first | with_reducible apply andK_mk | simp only [go_sem])
  ·simp only [go_sem]
   refine CallU.free (con_ages m r hr.len h.places (h.age k5)) (by simp only [go_sem]) (by simp only [go_sem]) ?_
   rintro x bx rfl
   cases hc : agesB m.places.length m.age r
   ·simp only [go_sem, Bool.false_and]
   simp only [go_sem]
   refine CallU.free hsm (by simp only [go_sem]) (by simp only [go_sem]) ?_
   rintro x bx rfl
   simp only [go_sem, Bool.true_and]
 case' neg =>
  have b1 : (m.kind == 1) = false := beq_eq_false_iff_ne.2 k1
  have b2 : (m.kind == 2) = false := beq_eq_false_iff_ne.2 (by omega)
  have b3 : (m.kind == 3) = false := beq_eq_false_iff_ne.2 (by omega)
  have b4 : (m.kind == 4) = false := beq_eq_false_iff_ne.2 k4
  have b5 : (m.kind == 5) = false := beq_eq_false_iff_ne.2 k5
  have eo : onlyR m.kind r = ⟨r.name, r.src, r.dst, r.need, r.give, [], 0, 0, 0, [], [], [], [], r.second⟩ := by unfold onlyR; rw [if_neg k1, if_neg k23, if_neg k4, if_neg k5]
  have ef : fitsR m r = branchB m.states.length m.places.length r := by unfold fitsR; rw [if_neg k1, if_neg k23, if_neg k4, if_neg k5]
  have hsm := (con_same r (onlyR m.kind r) hr.len).leA (args' := [vRule r, .ag [vStr r.name, vi r.src, vi r.dst, vs 0 r.need, vs 0 r.give, .nil, vi 0, vi 0, vi 0, .nil, .nil, .nil, .nil, vi r.second]]) ⟨leV_refl _, by rw [eo]; exact leV_ag ⟨leV_refl _, leV_refl _, leV_refl _, leV_refl _, leV_refl _, leV_nil 0 1, leV_refl _, leV_refl _, leV_refl _, leV_nil 0 1, leV_nil 0 1, leV_nil 0 3, leV_nil 0 1, leV_refl _, trivial⟩, trivial⟩
  simp only [go_sem, b1, b2, b3, b4, b5]
 all_goals
  rw [ef]
  refine DrawK.meet ⟨142, [(2, .pb 0 0), (3, .pb 1 0), (5, vi m.states.length), (6, .pb 2 0)], [cM m, [vStr r.name, vi r.src, vi r.dst, vs 0 r.need, vs 0 r.give, vs 0 r.move, vi r.channel, vi r.act, vi r.letter, vs 0 r.path, vs 0 r.next, .sl 0 3 (r.takes.map vTake), vs 0 r.makes, vi r.second], [vStr r.name, vi r.src, vi r.dst, vs 0 r.need, vs 0 r.give, .nil, vi 0, vi 0, vi 0, .nil, .nil, .nil, .nil, vi r.second]]⟩ ?_ ?_
  ·refine DrawK.tree rtBranch mixed (by kernel_rfl) ?_
   unfold rtBranch
   repeat' (first | with_reducible apply andK_mk | simp only [go_sem])
  ·simp only [go_sem]
   have ci3 := con_index r.second m.states.length (by omega) (by have := h.states; omega)
   unfold branchB indexB
   refine CallU.free (con_changes m r hr.len) (by simp only [go_sem]) (by simp only [go_sem]) ?_
   rintro x bx rfl
   cases hc : changesB m.places.length r
   ·simp only [go_sem, Bool.false_and]
   cases h2 : r.second == -1
   ·simp only [go_sem, h2]
    refine CallU.free ci3 (by simp only [go_sem]) (by simp only [go_sem]) ?_
    rintro x bx rfl
    cases h3 : decide (0 <= r.second) && decide (r.second < (m.states.length : Int))
    ·simp only [go_sem, Bool.false_or, Bool.and_false, Bool.false_and]
    by_cases h4 : 0 <= r.src
    ·simp only [go_sem, h4]
     refine CallU.free hsm (by simp only [go_sem]) (by simp only [go_sem]) ?_
     rintro x bx rfl
     simp only [go_sem, h4, decide_true, Bool.true_or, Bool.or_true, Bool.true_and, Bool.and_true]
    ·simp only [go_sem, h4, h2, decide_false, Bool.false_or, Bool.and_false, Bool.false_and, Bool.true_and]
   ·by_cases h4 : 0 <= r.src
    ·simp only [go_sem, h2, h4]
     refine CallU.free hsm (by simp only [go_sem]) (by simp only [go_sem]) ?_
     rintro x bx rfl
     simp only [go_sem, h4, decide_true, Bool.true_or, Bool.true_and, Bool.and_true]
    ·simp only [go_sem, h2, h4]
     refine CallU.free (con_all r.need 251 [] (fun x => x == 0) rfl (fun x _ => con_zeroNeed x) hr.len.need) (by simp only [go_sem]) (by simp only [go_sem]) ?_
     rintro x bx rfl
     cases h5 : r.need.all fun x => x == 0
     ·simp only [go_sem, h4, decide_false, Bool.false_or, Bool.and_false, Bool.false_and, Bool.true_and, Bool.true_or]
     ·simp only [go_sem]
      refine CallU.free hsm (by simp only [go_sem]) (by simp only [go_sem]) ?_
      rintro x bx rfl
      simp only [go_sem, h4, decide_false, Bool.true_or, Bool.or_true, Bool.true_and, Bool.and_true]
end Go.AM
