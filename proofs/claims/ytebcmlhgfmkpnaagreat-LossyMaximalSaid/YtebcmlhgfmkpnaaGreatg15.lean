/- CmMs -/
import Derived.Test.YtebcmlhgfmkpnaaGreatg11
namespace Go.AM
open Go Go.Proofs Go.RowKit
set_option maxRecDepth 100000
set_option maxHeartbeats 8000000
def sameB (a b : RD) : Bool := (a.name.toList == b.name.toList) && (a.src == b.src) && (a.dst == b.dst) && (a.need == b.need) && (a.give == b.give) && (a.move == b.move) && (a.channel == b.channel) && (a.act == b.act) && (a.letter == b.letter) && (a.path == b.path) && (a.next == b.next) && (a.takes == b.takes) && (a.makes == b.makes) && (a.second == b.second)
theorem con_same (a b : RD) (hl : a.Len) : Con Tryz.prog 252 [vRule a, vRule b] [] fun x _ => x = vb (sameB a b) := by
 refine Con.intro Tryz.func252 rfl Tryz.ntmps252 Tryz.results252 (by kernel_rfl) (by simp) 2 (by simp) ?_
 dsimp only [List.append]
 unfold sameB
 cases h0 : (a.name.toList == b.name.toList)
 case false =>
  simp only [go_sem, h0, Bool.false_and]
 simp only [go_sem, h0, Bool.true_and]
 cases h1 : (a.src == b.src)
 case false =>
  simp only [go_sem, Bool.false_and]
 simp only [go_sem]
 cases h2 : (a.dst == b.dst)
 case false =>
  simp only [go_sem, Bool.false_and, Bool.and_false]
 simp only [go_sem]
 refine CallU.free (con_equalInt a.need b.need (hl.need)) (by simp only [go_sem]) (by simp only [go_sem]) ?_
 rintro r bx rfl
 cases h3 : (a.need == b.need)
 case false =>
  simp only [go_sem, Bool.false_and, Bool.and_false]
 simp only [go_sem]
 refine CallU.free (con_equalInt a.give b.give (hl.give)) (by simp only [go_sem]) (by simp only [go_sem]) ?_
 rintro r bx rfl
 cases h4 : (a.give == b.give)
 case false =>
  simp only [go_sem, Bool.false_and, Bool.and_false]
 simp only [go_sem]
 refine CallU.free (con_equalInt a.move b.move (hl.move)) (by simp only [go_sem]) (by simp only [go_sem]) ?_
 rintro r bx rfl
 cases h5 : (a.move == b.move)
 case false =>
  simp only [go_sem, Bool.false_and, Bool.and_false]
 simp only [go_sem]
 cases h6 : (a.channel == b.channel)
 case false =>
  simp only [go_sem, Bool.false_and, Bool.and_false]
 simp only [go_sem]
 cases h7 : (a.act == b.act)
 case false =>
  simp only [go_sem, Bool.false_and, Bool.and_false]
 simp only [go_sem]
 cases h8 : (a.letter == b.letter)
 case false =>
  simp only [go_sem, Bool.false_and, Bool.and_false]
 simp only [go_sem]
 refine CallU.free (con_equalInt a.path b.path (hl.path)) (by simp only [go_sem]) (by simp only [go_sem]) ?_
 rintro r bx rfl
 cases h9 : (a.path == b.path)
 case false =>
  simp only [go_sem, Bool.false_and, Bool.and_false]
 simp only [go_sem]
 refine CallU.free (con_equalInt a.next b.next (hl.next)) (by simp only [go_sem]) (by simp only [go_sem]) ?_
 rintro r bx rfl
 cases h10 : (a.next == b.next)
 case false =>
  simp only [go_sem, Bool.false_and, Bool.and_false]
 simp only [go_sem]
 refine CallU.free (con_equalTake a.takes b.takes (hl.takes)) (by simp only [go_sem]) (by simp only [go_sem]) ?_
 rintro r bx rfl
 cases h11 : (a.takes == b.takes)
 case false =>
  simp only [go_sem, Bool.false_and, Bool.and_false]
 simp only [go_sem]
 refine CallU.free (con_equalInt a.makes b.makes (hl.makes)) (by simp only [go_sem]) (by simp only [go_sem]) ?_
 rintro r bx rfl
 cases h12 : (a.makes == b.makes)
 case false =>
  simp only [go_sem, Bool.false_and, Bool.and_false]
 simp only [go_sem, Bool.true_and]
end Go.AM
