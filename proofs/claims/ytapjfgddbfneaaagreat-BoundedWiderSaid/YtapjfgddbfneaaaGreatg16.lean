/- CmM CmN CmO -/
import Derived.Test.YtapjfgddbfneaaaGreatg15
namespace Go.AM
open Go Go.Proofs Go.RowKit
set_option maxRecDepth 100000
set_option maxHeartbeats 8000000
theorem con_changes1 (x : Int) : Con Tryz.prog 171 [vi x] [] fun r _ => r = .sc (.bool (betweenB x 0 16)) := by
 refine Con.intro Tryz.func171 rfl Tryz.ntmps171 Tryz.results171 (by kernel_rfl) (by simp) 0 (by simp) ?_
 simp only [go_sem]
 refine CallU.free (con_between x 0 16) (by simp only [go_sem]) (by simp only [go_sem]) ?_
 rintro r bx rfl
 simp only [go_sem]
structure RD.Len (r : RD) : Prop where
 need : r.need.length <= 9223372036854775806
 give : r.give.length <= 9223372036854775806
 move : r.move.length <= 9223372036854775806
 path : r.path.length <= 9223372036854775806
 next : r.next.length <= 9223372036854775806
 takes : r.takes.length <= 9223372036854775806
 makes : r.makes.length <= 9223372036854775806
theorem con_changes (m : MD) (r : RD) (hl : r.Len) : Con Tryz.prog 139 [vM m, vRule r] [] fun x _ => x = vb (changesB m.places.length r) := by
 refine Con.intro Tryz.func139 rfl Tryz.ntmps139 Tryz.results139 (by kernel_rfl) (by simp) 2 (by simp) ?_
 unfold changesB
 by_cases h1 : r.need.length = m.places.length
 case neg =>
  have h1' : ((r.need.length : Int) == (m.places.length : Int)) = false := beq_eq_false_iff_ne.2 (by omega)
  simp only [go_sem, h1', h1, decide_false, Bool.false_and]
 have h1' : ((r.need.length : Int) == (m.places.length : Int)) = true := beq_iff_eq.2 (by omega)
 by_cases h2 : r.give.length = m.places.length
 case neg =>
  have h2' : ((r.give.length : Int) == (m.places.length : Int)) = false := beq_eq_false_iff_ne.2 (by omega)
  simp only [go_sem, h1', h2', h2, decide_false, Bool.false_and, Bool.and_false]
 have h2' : ((r.give.length : Int) == (m.places.length : Int)) = true := beq_iff_eq.2 (by omega)
 simp only [go_sem, h1', h2']
 refine CallU.free (con_all r.need 171 [] (fun x => betweenB x 0 16) rfl (fun x _ => con_changes1 x) hl.need) (by simp only [go_sem]) (by simp only [go_sem]) ?_
 rintro x bx rfl
 change _ /\ _
 cases h3 : smallB r.need
 ·have h3' : (r.need.all fun x => betweenB x 0 16) = false := h3
  simp only [go_sem, h3', Bool.false_and, Bool.and_false]
 have h3' : (r.need.all fun x => betweenB x 0 16) = true := h3
 simp only [go_sem, h3']
 refine CallU.free (con_all r.give 171 [] (fun x => betweenB x 0 16) rfl (fun x _ => con_changes1 x) hl.give) (by simp only [go_sem]) (by simp only [go_sem]) ?_
 rintro x bx rfl
 simp only [go_sem, h1, h2, decide_true, Bool.true_and]
 rfl
theorem con_moves1 (x : Int) (n : Nat) (hn : n <= 1000000) : Con Tryz.prog 172 [vi x, .fp [vi n] 0] [] fun r _ => r = .sc (.bool (betweenB x (-1) (n - 1))) := by
 refine Con.intro Tryz.func172 rfl Tryz.ntmps172 Tryz.results172 (by kernel_rfl) (by simp) 0 (by simp) ?_
 have hw : IntKind.i64.wrap ((n : Int) - 1) = n - 1 := wrap_in (by omega) (by omega)
 simp only [go_sem, hw]
 refine CallU.free (con_between x (-1) (n - 1)) (by simp only [go_sem]) (by simp only [go_sem]) ?_
 rintro r bx rfl
 simp only [go_sem]
theorem con_moves (m : MD) (r : RD) (hl : r.Len) (hm : m.places.length <= 1000000) : Con Tryz.prog 140 [vM m, vRule r] [] fun x _ => x = vb (movesB m.places.length r) := by
 refine Con.intro Tryz.func140 rfl Tryz.ntmps140 Tryz.results140 (by kernel_rfl) (by simp) 3 (by simp) ?_
 unfold movesB
 by_cases h1 : r.move.length = 0
 ·have h1' : ((r.move.length : Int) == 0) = true := beq_iff_eq.2 (by omega)
  simp only [go_sem, h1]
  all_goals simp
 have h1' : ((r.move.length : Int) == 0) = false := beq_eq_false_iff_ne.2 (by omega)
 have h1n : (r.move.length == 0) = false := beq_eq_false_iff_ne.2 h1
 by_cases h2 : r.move.length = m.places.length
 case neg =>
  have h2' : ((r.move.length : Int) == (m.places.length : Int)) = false := beq_eq_false_iff_ne.2 (by omega)
  simp only [go_sem, h1', h2', h1n, h2, decide_false, Bool.false_and, Bool.or_false]
 have h2' : ((r.move.length : Int) == (m.places.length : Int)) = true := beq_iff_eq.2 (by omega)
 simp only [go_sem, h1', h2']
 refine CallU.look (con_all r.move 172 [.fp [vi m.places.length] 0] (fun x => betweenB x (-1) (m.places.length - 1)) (by simp only [go_sem]) (fun x _ => con_moves1 x m.places.length hm) hl.move) (by simp only [go_sem]) (by simp only [go_sem]) ?_
 rintro x bx rfl
 simp only [go_sem]
 rw [h1n, decide_eq_true h2]; simp
theorem getTake {l : List (Int × Int × Int)} {i : Nat} (h : i < l.length) : (l.map vTake)[i]? = some (.ag [.sc (.int .i64 l[i]!.1), .sc (.int .i64 l[i]!.2.1), .sc (.int .i64 l[i]!.2.2)]) := by
 rw [List.getElem?_map, List.getElem?_eq_getElem h, getElem!_pos l i h, Option.map_some]; rfl
theorem eqA_stop {α : Type} [BEq α] [LawfulBEq α] [Inhabited α] {a b : List α} {i : Nat} (h : a[i]! ≠ b[i]!) : (a == b) = false := by
 rw [beq_eq_false_iff_ne]; intro e; rw [e] at h; exact h rfl
theorem eqA_all {α : Type} [BEq α] [LawfulBEq α] [Inhabited α] {a b : List α} (hl : a.length = b.length) (h : ∀ j, j < a.length -> a[j]! = b[j]!) : (a == b) = true := by
 rw [beq_iff_eq]
 apply List.ext_getElem hl
 intro i h1 h2
 have := h i h1
 rw [getElem!_pos a i h1, getElem!_pos b i h2] at this; exact this
theorem eqA_len {α : Type} [BEq α] [LawfulBEq α] {a b : List α} (h : a.length ≠ b.length) : (a == b) = false := by
 rw [beq_eq_false_iff_ne]; intro e; rw [e] at h; exact h rfl
@[go_sem] theorem flatF_Take : flatF Tryz.prog 193 = some [(0, true), (1, true), (2, true)] := by kernel_rfl
theorem con_equalTake (a b : List (Int × Int × Int)) (hl : a.length <= 9223372036854775806) : Con Tryz.prog 180 [.sl 0 3 (a.map vTake), .sl 0 3 (b.map vTake)] [] fun r _ => r = .sc (.bool (a == b)) := by
 refine Con.intro Tryz.func180 rfl Tryz.ntmps180 Tryz.results180 (by kernel_rfl) (by simp) 0 (by simp) ?_
 by_cases he : a.length = b.length
 case neg =>
  have he' : ((a.length : Int) != (b.length : Int)) = true := bne_iff_ne.2 (by omega)
  simp only [go_sem, he', eqA_len he]
 simp only [go_sem, he]
 refine LoopK.intro (fun i : Nat => ⟨26, [(0, .sl 0 3 (a.map vTake)), (1, .sl 0 3 (b.map vTake)), (12, vi a.length), (13, vi i)], []⟩)
  (fun i => a.length - i) (fun i => i <= a.length /\ ∀ j, j < i -> a[j]! = b[j]!) 0 ⟨by omega, fun j hj => by omega⟩ ?_ ?_
 ·simp only [go_sem, he]
  all_goals exact leV_refl _
 rintro i ⟨hi, hb⟩
 by_cases h : i < a.length
 ·have h2 : i < b.length := by omega
  have g1 := getTake h
  have g2 := getTake h2
  have hw : IntKind.i64.wrap (i + 1) = i + 1 := wrap_in (by omega) (by omega)
  simp only [go_sem, h]
  refine DrawK.walk 9 mixed (by kernel_rfl) ?_
  by_cases hp : a[i]! = b[i]!
  ·simp only [go_sem, h, h2, g1, g2, hp, hw]
   refine roundK.intro (i + 1) ⟨by omega, fun j hj => ?_⟩ (by omega) ?_
   ·by_cases hji : j = i
    ·subst hji; exact hp
    ·exact hb j (by omega)
   ·simp only [go_sem]
  ·have hp' : (a[i]!.fst == b[i]!.fst && (a[i]!.snd.fst == b[i]!.snd.fst && a[i]!.snd.snd == b[i]!.snd.snd)) = false := by
    rw [Bool.eq_false_iff]
    intro hh
    simp only [Bool.and_eq_true, beq_iff_eq] at hh
    exact hp (Prod.ext hh.1 (Prod.ext hh.2.1 hh.2.2))
   simp only [go_sem, h, h2, g1, g2, hp']
   rw [eqA_stop hp]
 ·simp only [go_sem, h]
  rw [eqA_all he (fun j hj => hb j (by omega))]
theorem con_same_self (a : RD) (hl : a.Len) : Con Tryz.prog 146 [vRule a, vRule a] [] fun x _ => x = vb true := by
 refine Con.intro Tryz.func146 rfl Tryz.ntmps146 Tryz.results146 (by kernel_rfl) (by simp) 2 (by simp) ?_
 dsimp only [List.append]
 simp only [go_sem, beq_self_eq_true]
 refine CallU.free (con_equalInt a.need a.need (hl.need)) (by simp only [go_sem]) (by simp only [go_sem]) ?_
 rintro r bx rfl
 simp only [go_sem, beq_self_eq_true]
 refine CallU.free (con_equalInt a.give a.give (hl.give)) (by simp only [go_sem]) (by simp only [go_sem]) ?_
 rintro r bx rfl
 simp only [go_sem, beq_self_eq_true]
 refine CallU.free (con_equalInt a.move a.move (hl.move)) (by simp only [go_sem]) (by simp only [go_sem]) ?_
 rintro r bx rfl
 simp only [go_sem, beq_self_eq_true]
 refine CallU.free (con_equalInt a.path a.path (hl.path)) (by simp only [go_sem]) (by simp only [go_sem]) ?_
 rintro r bx rfl
 simp only [go_sem, beq_self_eq_true]
 refine CallU.free (con_equalInt a.next a.next (hl.next)) (by simp only [go_sem]) (by simp only [go_sem]) ?_
 rintro r bx rfl
 simp only [go_sem, beq_self_eq_true]
 refine CallU.free (con_equalTake a.takes a.takes (hl.takes)) (by simp only [go_sem]) (by simp only [go_sem]) ?_
 rintro r bx rfl
 simp only [go_sem, beq_self_eq_true]
 refine CallU.free (con_equalInt a.makes a.makes (hl.makes)) (by simp only [go_sem]) (by simp only [go_sem]) ?_
 rintro r bx rfl
 simp only [go_sem, beq_self_eq_true]
theorem Con.leA {P : Program} {f : FuncId} {args args' : List AV} {bx : List (List AV)} {post : AV -> List (List AV) -> Prop} (h : Con P f args bx post) (ha : leC args' args) : Con P f args' bx post :=
 h.args fun _ _ _ hv => leC_pw ha hv
theorem DrawK.meet {P : Program} {ops : Array Oper} {σ : St} {K : St -> Prop} (τ : St) (h : DrawK P ops σ fun σ' => σ'.le τ) (hk : K τ) : DrawK P ops σ K :=
 fun G0 w0 G a w id Q t hs hQ => h G0 w0 G a w id Q t hs fun _ G' a' w' hl h' => hQ τ G' a' w' hk (h'.le hl)
theorem andK_mk {p q : Prop} (h1 : p) (h2 : q) : andK p q := ⟨h1, h2⟩
def rightTree : Tr := .front 0 (.front 2 (.front 4 (.alt (.one 1 (.front 6 (.alt (.one 3 (.alt (.one 5 (.one 7 (.front 8 (.one 9 (.front 10 (.one 11 .done)))))) (.one 7 (.front 8 (.alt (.one 5 (.one 9 (.front 10 (.one 11 .done)))) (.one 9 (.one 5 (.front 10 (.one 11 .done))))))))) (.alt (.one 5 (.alt (.one 3 (.one 7 (.front 8 (.one 9 (.front 10 (.one 11 .done)))))) (.one 7 (.one 3 (.front 8 (.one 9 (.front 10 (.one 11 .done)))))))) (.one 7 (.alt (.one 3 (.front 8 (.alt (.one 5 (.one 9 (.front 10 (.one 11 .done)))) (.one 9 (.one 5 (.front 10 (.one 11 .done))))))) (.one 5 (.one 3 (.front 8 (.one 9 (.front 10 (.one 11 .done)))))))))))) (.alt (.one 3 (.alt (.one 1 (.front 6 (.alt (.one 5 (.one 7 (.front 8 (.one 9 (.front 10 (.one 11 .done)))))) (.one 7 (.front 8 (.alt (.one 5 (.one 9 (.front 10 (.one 11 .done)))) (.one 9 (.one 5 (.front 10 (.one 11 .done)))))))))) (.one 5 (.one 1 (.front 6 (.one 7 (.front 8 (.one 9 (.front 10 (.one 11 .done)))))))))) (.one 5 (.alt (.one 1 (.front 6 (.alt (.one 3 (.one 7 (.front 8 (.one 9 (.front 10 (.one 11 .done)))))) (.one 7 (.one 3 (.front 8 (.one 9 (.front 10 (.one 11 .done))))))))) (.one 3 (.one 1 (.front 6 (.one 7 (.front 8 (.one 9 (.front 10 (.one 11 .done))))))))))))))
theorem bare_of {r : RD} (h : bareB r = true) : r = ⟨r.name, r.src, r.dst, r.need, r.give, r.move, 0, 0, 0, [], [], [], [], 0⟩ := by
 unfold bareB at h
 simp only [Bool.and_eq_true, beq_iff_eq] at h
 obtain ⟨⟨⟨⟨⟨⟨⟨h1, h2⟩, h3⟩, h4⟩, h5⟩, h6⟩, h7⟩, h8⟩ := h
 obtain ⟨a, b, c, d, e, f, g, h, i, j, k, l, m, n⟩ := r
 simp only at h1 h2 h3 h4 h5 h6 h7 h8
 rw [h1, h2, h3, List.eq_nil_of_length_eq_zero h4, List.eq_nil_of_length_eq_zero h5, List.eq_nil_of_length_eq_zero h6, List.eq_nil_of_length_eq_zero h7, h8]
abbrev bareR (nm : ByteArray) (s d : Int) (nd gv mv : List Int) : RD := ⟨nm, s, d, nd, gv, mv, 0, 0, 0, [], [], [], [], 0⟩
theorem con_same_only (nm : ByteArray) (s d : Int) (nd gv mv : List Int) (hl : (bareR nm s d nd gv mv).Len) : Con Tryz.prog 146 [vRule (bareR nm s d nd gv mv), .ag [vStr nm, vi s, vi d, vs 0 nd, vs 0 gv, vs 0 mv, vi 0, vi 0, vi 0, .nil, .nil, .nil, .nil, vi 0]] [] fun x _ => x = vb true :=
 (con_same_self _ hl).leA ⟨leV_refl _, leV_ag ⟨leV_refl _, leV_refl _, leV_refl _, leV_refl _, leV_refl _, leV_refl _, leV_refl _, leV_refl _, leV_refl _, leV_nil 0 1, leV_nil 0 1, leV_nil 0 3, leV_nil 0 1, leV_refl _, trivial⟩, trivial⟩
theorem con_right (m : MD) (r : RD) (hk : m.kind = 1) (hs : m.states.length <= 1000000) (hp : m.places.length <= 1000000) (hl : r.Len) (hr : ruleB m.states.length m.places.length r = true) (hb : bareB r = true) : Con Tryz.prog 107 [vM m, vRule r] [] fun x _ => x = vb true := by
 obtain ⟨nm, s, d, nd, gv, mv, rfl⟩ : ∃ nm s d nd gv mv, r = bareR nm s d nd gv mv := ⟨_, _, _, _, _, _, bare_of hb⟩
 refine Con.intro Tryz.func107 rfl Tryz.ntmps107 Tryz.results107 (by kernel_rfl) (by simp) 3 (by simp) ?_
 unfold ruleB indexB at hr
 simp only [Bool.and_eq_true] at hr
 obtain ⟨⟨⟨h1, h2⟩, h3⟩, h4⟩ := hr
 have h1 : (decide (0 <= d) && decide (d < (m.states.length : Int))) = true := by rw [Bool.and_eq_true]; exact h1
 have h2 : (decide (0 <= s) && decide (s < (m.states.length : Int))) = true := by rw [Bool.and_eq_true]; exact h2
 simp only [go_sem, List.map_nil]
 refine CallU.free (con_index d m.states.length (by omega) (by omega)) (by simp only [go_sem]) (by simp only [go_sem]) ?_
 rintro x bx rfl
 simp only [go_sem, h1]
 refine CallU.free (con_index s m.states.length (by omega) (by omega)) (by simp only [go_sem]) (by simp only [go_sem]) ?_
 rintro x bx rfl
 simp only [go_sem, h2, hk]
 refine DrawK.meet ⟨142, [(2, .pb 0 0), (3, .pb 1 0), (4, vb false), (6, .pb 2 0)], [cM m, [vStr nm, vi s, vi d, vs 0 nd, vs 0 gv, vs 0 mv, vi 0, vi 0, vi 0, vs 0 [], vs 0 [], .sl 0 3 [], vs 0 [], vi 0], [vStr nm, vi s, vi d, vs 0 nd, vs 0 gv, vs 0 mv, vi 0, vi 0, vi 0, .nil, .nil, .nil, .nil, vi 0]]⟩ ?_ ?_
 ·refine DrawK.tree rightTree mixed (by kernel_rfl) ?_
  unfold rightTree
  repeat' (first | with_reducible apply andK_mk | simp only [go_sem, hk, List.map_nil])
 ·simp only [go_sem]
  refine CallU.free (con_changes m (bareR nm s d nd gv mv) hl) (by simp only [go_sem]) (by simp only [go_sem, hk, List.map_nil]) ?_
  rintro x bx rfl
  simp only [go_sem, h3]
  refine CallU.free (con_moves m (bareR nm s d nd gv mv) hl hp) (by simp only [go_sem]) (by simp only [go_sem, hk, List.map_nil]) ?_
  rintro x bx rfl
  simp only [go_sem, h4]
  refine CallU.free (con_same_only nm s d nd gv mv hl) (by simp only [go_sem]) (by simp only [go_sem, List.map_nil]) ?_
  rintro x bx rfl
  simp only [go_sem]
theorem con_check1 (m : MD) (r : RD) (hk : m.kind = 1) (hs : m.states.length <= 1000000) (hp : m.places.length <= 1000000) (hl : r.Len) (hr : ruleB m.states.length m.places.length r = true) (hb : bareB r = true) : Con Tryz.prog 106 [vRule r, .fp (cM m) 0] [] fun x _ => x = .sc (.bool false) := by
 refine Con.intro Tryz.func106 rfl Tryz.ntmps106 Tryz.results106 (by kernel_rfl) (by simp) 1 (by simp) ?_
 simp only [go_sem]
 refine CallU.free (con_right m r hk hs hp hl hr hb) (by simp only [go_sem]) (by simp only [go_sem]) ?_
 rintro x bx rfl
 simp only [go_sem]
def vPT (p : Int × Int) : AV := .ag [vi p.1, vi p.2, .nil, .nil]
def partsP (ns np : Nat) : List (Int × Int) := (2, (ns : Int)) :: List.replicate np (1, 0)
def flatT (t : Nat) (ps : List (Int × Int)) : AV := .ag [vi 3, vi 0, .nil, .sl t 4 (ps.map vPT)]
attribute [go_sem] vPT flatT
theorem parts_len (ns np : Nat) : (partsP ns np).length = np + 1 := by simp [partsP]
theorem parts_succ (ns i : Nat) : partsP ns (i + 1) = partsP ns i ++ [(1, 0)] := by unfold partsP; rw [List.replicate_succ']; rfl
theorem getPT {l : List (Int × Int)} {i : Nat} (h : i < l.length) : (l.map vPT)[i]? = some (.ag [.sc (.int .i64 l[i]!.1), .sc (.int .i64 l[i]!.2), .nil, .nil]) := by
 rw [List.getElem?_map, List.getElem?_eq_getElem h, getElem!_pos l i h, Option.map_some]; rfl
theorem con_label (n : Nat) : Con Tryz.prog 184 [vi n] [] fun r _ => r = vPT (2, n) := by
 refine Con.intro Tryz.func184 rfl Tryz.ntmps184 Tryz.results184 (by kernel_rfl) (by simp) 0 (by simp) ?_
 simp only [go_sem]
theorem con_typed (m : MD) (hk : m.kind = 1) (hp : m.places.length <= 1000000) : Con Tryz.prog 148 [vM m] [] fun r _ => r = flatT 2 (partsP m.states.length m.places.length) := by
 refine Con.intro Tryz.func148 rfl Tryz.ntmps148 Tryz.results148 (by kernel_rfl) (by simp) 0 (by simp) ?_
 simp only [go_sem, hk]
 refine CallU.free (con_label m.states.length) (by simp only [go_sem]) (by simp only [go_sem]) ?_
 rintro r bx rfl
 simp only [go_sem]
 refine LoopK.intro (fun i : Nat => ⟨70, [(1, .pb 0 0), (2, .pb 1 0), (3, .sl 640 4 ((partsP m.states.length i).map vPT)), (14, vi m.places.length), (15, vi i)], cM m :: [.any, .any, .any, .any] :: Rk 4 i⟩)
  (fun i => m.places.length - i) (fun i => i <= m.places.length) 0 (by omega) ?_ ?_
 ·simp only [go_sem, hk, partsP, List.replicate_zero, List.map_cons, List.map_nil]
  exact leB_self _
 rintro i hi
 by_cases h : i < m.places.length
 ·have hw : IntKind.i64.wrap (i + 1) = i + 1 := wrap_in (by omega) (by omega)
  have hB := Rk_len 4 i
  have n0 := fun L : List (List AV) => app_at0 (L := L) hB
  have s0 := fun (L : List (List AV)) z => app_set0 (L := L) (z := z) hB
  have e := parts_succ m.states.length i
  simp only [go_sem, h, hk, hw, hB, n0, s0]
  refine ⟨by simp only [roomFor, parts_len]; omega, ?_⟩
  refine roundK.intro (i + 1) (by omega) (by omega) ?_
  simp only [go_sem, Rk_succ, e, List.map_append, List.map_cons, List.map_nil]
  exact leB_RkA ⟨leC_any _ 4 rfl, trivial⟩
 ·obtain rfl : i = m.places.length := by omega
  simp only [go_sem, h]
def TellsP (f : FuncId) (caps : List AV) (l : List (Int × Int)) (p : Int × Int -> Bool) : Prop := ∀ x ∈ l, Con Tryz.prog f ([vPT x] ++ caps) [] fun r _ => r = .sc (.bool (p x))
theorem con_indexPT (l : List (Int × Int)) (f : FuncId) (caps : List AV) (p : Int × Int -> Bool) (hc : mapTops (viewV []) caps = caps) (hf : TellsP f caps l p) (hl : l.length <= 9223372036854775806) : Con Tryz.prog 218 [.sl 0 4 (l.map vPT), .fn f caps] [] fun r _ => r = vi (findI p l) := by
 refine Con.intro Tryz.func218 rfl Tryz.ntmps218 Tryz.results218 (by kernel_rfl) (by simp) 0 (by simp) ?_
 simp only [go_sem]
 refine LoopK.intro (fun i : Nat => ⟨19, [(0, .sl 0 4 (l.map vPT)), (1, .fn f caps), (7, vi l.length), (8, vi i)], []⟩)
  (fun i => l.length - i) (fun i => i <= l.length /\ ∀ j, j < i -> p l[j]! = false) 0 ⟨by omega, fun j hj => by omega⟩ ?_ ?_
 ·simp only [go_sem]
  all_goals exact leV_refl _
 ·rintro i ⟨hi, hb⟩
  by_cases h : i < l.length
  ·have hg := getPT h
   have hw : IntKind.i64.wrap (i + 1) = i + 1 := wrap_in (by omega) (by omega)
   simp only [go_sem, h, hg]
   refine CallU.look (hf l[i]! (mem_bangI h)) (by simp only [go_sem]) (by simp only [go_sem, hc]) ?_
   rintro r bx rfl
   cases hp : p l[i]!
   ·simp only [go_sem, hw]
    refine roundK.intro (i + 1) ⟨by omega, fun j hj => ?_⟩ (by omega) ?_
    ·by_cases hji : j = i
     ·subst hji; exact hp
     ·exact hb j (by omega)
    ·simp only [go_sem]
   ·simp only [go_sem]
    rw [findI_stop h hb hp]
  ·simp only [go_sem, h]
   rw [findI_none (fun j hj => hb j (by omega))]
theorem con_containsPT (l : List (Int × Int)) (f : FuncId) (caps : List AV) (p : Int × Int -> Bool) (hc : mapTops (viewV []) caps = caps) (hf : TellsP f caps l p) (hl : l.length <= 9223372036854775806) : Con Tryz.prog 208 [.sl 0 4 (l.map vPT), .fn f caps] [] fun r _ => r = .sc (.bool (l.any p)) := by
 refine Con.intro Tryz.func208 rfl Tryz.ntmps208 Tryz.results208 (by kernel_rfl) (by simp) 0 (by simp) ?_
 simp only [go_sem]
 refine CallU.look (con_indexPT l f caps p hc hf hl) (by simp only [go_sem]) (by simp only [go_sem]) ?_
 rintro r bx rfl
 simp only [go_sem, findI_ge]
def LeafP (p : Int × Int) : Prop := p = (1, 0) \/ p.1 = 2 /\ 1 <= p.2 /\ p.2 <= 16
theorem con_rightLeaf (p : Int × Int) (d : Int) (hd : d ≠ 0) (hp : LeafP p) : Con Tryz.prog 197 [vPT p, vi d] [] fun r _ => r = vb true := by
 refine Con.intro Tryz.func197 rfl Tryz.ntmps197 Tryz.results197 (by kernel_rfl) (by simp) 2 (by simp) ?_
 have hd' : (d == 0) = false := beq_eq_false_iff_ne.2 hd
 obtain ⟨k, s⟩ := p
 rcases hp with hp | ⟨rfl, h1, h2⟩
 ·cases hp
  simp only [go_sem, hd']
 ·simp only at h1 h2
  simp only [go_sem, hd', h1, h2]
theorem con_right1 (p : Int × Int) (hp : LeafP p) : Con Tryz.prog 209 [vPT p, .fp [vi 8] 0] [] fun r _ => r = .sc (.bool false) := by
 refine Con.intro Tryz.func209 rfl Tryz.ntmps209 Tryz.results209 (by kernel_rfl) (by simp) 1 (by simp) ?_
 have hw : IntKind.i64.wrap 7 = 7 := wrap_in (by omega) (by omega)
 simp only [go_sem, hw]
 refine CallU.free (con_rightLeaf p 7 (by omega) hp) (by simp only [go_sem]) (by simp only [go_sem]) ?_
 rintro r bx rfl
 simp only [go_sem]
theorem any_false {α : Type} (l : List α) : (l.any fun _ => false) = false := by simp
theorem con_rightFlat (ps : List (Int × Int)) (h1 : 1 <= ps.length) (h2 : ps.length <= 8) (hp : ∀ p ∈ ps, LeafP p) : Con Tryz.prog 197 [flatT 0 ps, vi 8] [] fun r _ => r = vb true := by
 refine Con.intro Tryz.func197 rfl Tryz.ntmps197 Tryz.results197 (by kernel_rfl) (by simp) 2 (by simp) ?_
 have a1 : ((ps.length : Int) == 0) = false := beq_eq_false_iff_ne.2 (by omega)
 have a2 : ¬ ((8 : Int) < ps.length) := by omega
 simp only [go_sem, a1, a2]
 refine CallU.look (con_containsPT ps 209 [.fp [vi 8] 0] (fun _ => false) (by simp only [go_sem]) (fun x hx => con_right1 x (hp x hx)) (by omega)) (by simp only [go_sem]) (by simp only [go_sem]) ?_
 rintro r bx rfl
 simp only [go_sem, any_false]
theorem con_ocheck (ps : List (Int × Int)) (h1 : 1 <= ps.length) (h2 : ps.length <= 8) (hp : ∀ p ∈ ps, LeafP p) : Con Tryz.prog 181 [flatT 0 ps] [] fun r _ => r = vi 0 := by
 refine Con.intro Tryz.func181 rfl Tryz.ntmps181 Tryz.results181 (by kernel_rfl) (by simp) 1 (by simp) ?_
 simp only [go_sem]
 refine CallU.free (con_rightFlat ps h1 h2 hp) (by simp only [go_sem]) (by simp only [go_sem]) ?_
 rintro r bx rfl
 simp only [go_sem]
end Go.AM
