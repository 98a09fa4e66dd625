/- CmM CmN CmO CmP -/
import Derived.Test.YtapjfgddbfneaaaGreatg7
namespace Go.AM
open Go Go.Proofs Go.RowKit
set_option maxRecDepth 100000
set_option maxHeartbeats 8000000
theorem con_changes1 (x : Int) : Con Tryz.prog 171 [vi x] [] fun r _ => r = .sc (.bool (betweenB x 0 16)) := by
 refine Con.intro Tryz.func171 rfl Tryz.ntmps171 Tryz.results171 (by kernel_rfl) (by simp) 0 (by simp) ?_
 simp only [go_sem]
 refine CallU.free (con_between x 0 16) (by simp only [go_sem]) (by simp only [go_sem]) ?_
 rintro r bx rfl
 simp only [go_sem]
structure RD.Len (r : RD) : Prop where
 need : r.need.length <= 9223372036854775806
 give : r.give.length <= 9223372036854775806
 move : r.move.length <= 9223372036854775806
 path : r.path.length <= 9223372036854775806
 next : r.next.length <= 9223372036854775806
 takes : r.takes.length <= 9223372036854775806
 makes : r.makes.length <= 9223372036854775806
theorem con_changes (m : MD) (r : RD) (hl : r.Len) : Con Tryz.prog 139 [vM m, vRule r] [] fun x _ => x = vb (changesB m.places.length r) := by
 refine Con.intro Tryz.func139 rfl Tryz.ntmps139 Tryz.results139 (by kernel_rfl) (by simp) 2 (by simp) ?_
 unfold changesB
 by_cases h1 : r.need.length = m.places.length
 case neg =>
  have h1' : ((r.need.length : Int) == (m.places.length : Int)) = false := beq_eq_false_iff_ne.2 (by omega)
  simp only [go_sem, h1', h1, decide_false, Bool.false_and]
 have h1' : ((r.need.length : Int) == (m.places.length : Int)) = true := beq_iff_eq.2 (by omega)
 by_cases h2 : r.give.length = m.places.length
 case neg =>
  have h2' : ((r.give.length : Int) == (m.places.length : Int)) = false := beq_eq_false_iff_ne.2 (by omega)
  simp only [go_sem, h1', h2', h2, decide_false, Bool.false_and, Bool.and_false]
 have h2' : ((r.give.length : Int) == (m.places.length : Int)) = true := beq_iff_eq.2 (by omega)
 simp only [go_sem, h1', h2']
 refine CallU.free (con_all r.need 171 [] (fun x => betweenB x 0 16) rfl (fun x _ => con_changes1 x) hl.need) (by simp only [go_sem]) (by simp only [go_sem]) ?_
 rintro x bx rfl
 change _ /\ _
 cases h3 : smallB r.need
 ·have h3' : (r.need.all fun x => betweenB x 0 16) = false := h3
  simp only [go_sem, h3', Bool.false_and, Bool.and_false]
 have h3' : (r.need.all fun x => betweenB x 0 16) = true := h3
 simp only [go_sem, h3']
 refine CallU.free (con_all r.give 171 [] (fun x => betweenB x 0 16) rfl (fun x _ => con_changes1 x) hl.give) (by simp only [go_sem]) (by simp only [go_sem]) ?_
 rintro x bx rfl
 simp only [go_sem, h1, h2, decide_true, Bool.true_and]
 rfl
theorem con_moves1 (x : Int) (n : Nat) (hn : n <= 1000000) : Con Tryz.prog 172 [vi x, .fp [vi n] 0] [] fun r _ => r = .sc (.bool (betweenB x (-1) (n - 1))) := by
 refine Con.intro Tryz.func172 rfl Tryz.ntmps172 Tryz.results172 (by kernel_rfl) (by simp) 0 (by simp) ?_
 have hw : IntKind.i64.wrap ((n : Int) - 1) = n - 1 := wrap_in (by omega) (by omega)
 simp only [go_sem, hw]
 refine CallU.free (con_between x (-1) (n - 1)) (by simp only [go_sem]) (by simp only [go_sem]) ?_
 rintro r bx rfl
 simp only [go_sem]
theorem con_moves (m : MD) (r : RD) (hl : r.Len) (hm : m.places.length <= 1000000) : Con Tryz.prog 140 [vM m, vRule r] [] fun x _ => x = vb (movesB m.places.length r) := by
 refine Con.intro Tryz.func140 rfl Tryz.ntmps140 Tryz.results140 (by kernel_rfl) (by simp) 3 (by simp) ?_
 unfold movesB
 by_cases h1 : r.move.length = 0
 ·have h1' : ((r.move.length : Int) == 0) = true := beq_iff_eq.2 (by omega)
  simp only [go_sem, h1]
  all_goals simp
 have h1' : ((r.move.length : Int) == 0) = false := beq_eq_false_iff_ne.2 (by omega)
 have h1n : (r.move.length == 0) = false := beq_eq_false_iff_ne.2 h1
 by_cases h2 : r.move.length = m.places.length
 case neg =>
  have h2' : ((r.move.length : Int) == (m.places.length : Int)) = false := beq_eq_false_iff_ne.2 (by omega)
  simp only [go_sem, h1', h2', h1n, h2, decide_false, Bool.false_and, Bool.or_false]
 have h2' : ((r.move.length : Int) == (m.places.length : Int)) = true := beq_iff_eq.2 (by omega)
 simp only [go_sem, h1', h2']
 refine CallU.look (con_all r.move 172 [.fp [vi m.places.length] 0] (fun x => betweenB x (-1) (m.places.length - 1)) (by simp only [go_sem]) (fun x _ => con_moves1 x m.places.length hm) hl.move) (by simp only [go_sem]) (by simp only [go_sem]) ?_
 rintro x bx rfl
 simp only [go_sem]
 rw [h1n, decide_eq_true h2]; simp
theorem getTake {l : List (Int × Int × Int)} {i : Nat} (h : i < l.length) : (l.map vTake)[i]? = some (.ag [.sc (.int .i64 l[i]!.1), .sc (.int .i64 l[i]!.2.1), .sc (.int .i64 l[i]!.2.2)]) := by
 rw [List.getElem?_map, List.getElem?_eq_getElem h, getElem!_pos l i h, Option.map_some]; rfl
theorem eqA_stop {α : Type} [BEq α] [LawfulBEq α] [Inhabited α] {a b : List α} {i : Nat} (h : a[i]! ≠ b[i]!) : (a == b) = false := by
 rw [beq_eq_false_iff_ne]; intro e; rw [e] at h; exact h rfl
theorem eqA_all {α : Type} [BEq α] [LawfulBEq α] [Inhabited α] {a b : List α} (hl : a.length = b.length) (h : ∀ j, j < a.length -> a[j]! = b[j]!) : (a == b) = true := by
 rw [beq_iff_eq]
 apply List.ext_getElem hl
 intro i h1 h2
 have := h i h1
 rw [getElem!_pos a i h1, getElem!_pos b i h2] at this; exact this
theorem eqA_len {α : Type} [BEq α] [LawfulBEq α] {a b : List α} (h : a.length ≠ b.length) : (a == b) = false := by
 rw [beq_eq_false_iff_ne]; intro e; rw [e] at h; exact h rfl
@[go_sem] theorem flatF_Take : flatF Tryz.prog 193 = some [(0, true), (1, true), (2, true)] := by kernel_rfl
theorem con_equalTake (a b : List (Int × Int × Int)) (hl : a.length <= 9223372036854775806) : Con Tryz.prog 180 [.sl 0 3 (a.map vTake), .sl 0 3 (b.map vTake)] [] fun r _ => r = .sc (.bool (a == b)) := by
 refine Con.intro Tryz.func180 rfl Tryz.ntmps180 Tryz.results180 (by kernel_rfl) (by simp) 0 (by simp) ?_
 by_cases he : a.length = b.length
 case neg =>
  have he' : ((a.length : Int) != (b.length : Int)) = true := bne_iff_ne.2 (by omega)
  simp only [go_sem, he', eqA_len he]
 simp only [go_sem, he]
 refine LoopK.intro (fun i : Nat => ⟨26, [(0, .sl 0 3 (a.map vTake)), (1, .sl 0 3 (b.map vTake)), (12, vi a.length), (13, vi i)], []⟩)
  (fun i => a.length - i) (fun i => i <= a.length /\ ∀ j, j < i -> a[j]! = b[j]!) 0 ⟨by omega, fun j hj => by omega⟩ ?_ ?_
 ·simp only [go_sem, he]
  all_goals exact leV_refl _
 rintro i ⟨hi, hb⟩
 by_cases h : i < a.length
 ·have h2 : i < b.length := by omega
  have g1 := getTake h
  have g2 := getTake h2
  have hw : IntKind.i64.wrap (i + 1) = i + 1 := wrap_in (by omega) (by omega)
  simp only [go_sem, h]
  refine DrawK.walk 9 mixed (by kernel_rfl) ?_
  by_cases hp : a[i]! = b[i]!
  ·simp only [go_sem, h, h2, g1, g2, hp, hw]
   refine roundK.intro (i + 1) ⟨by omega, fun j hj => ?_⟩ (by omega) ?_
   ·by_cases hji : j = i
    ·subst hji; exact hp
    ·exact hb j (by omega)
   ·simp only [go_sem]
  ·have hp' : (a[i]!.fst == b[i]!.fst && (a[i]!.snd.fst == b[i]!.snd.fst && a[i]!.snd.snd == b[i]!.snd.snd)) = false := by
    rw [Bool.eq_false_iff]
    intro hh
    simp only [Bool.and_eq_true, beq_iff_eq] at hh
    exact hp (Prod.ext hh.1 (Prod.ext hh.2.1 hh.2.2))
   simp only [go_sem, h, h2, g1, g2, hp']
   rw [eqA_stop hp]
 ·simp only [go_sem, h]
  rw [eqA_all he (fun j hj => hb j (by omega))]
theorem con_same_self (a : RD) (hl : a.Len) : Con Tryz.prog 146 [vRule a, vRule a] [] fun x _ => x = vb true := by
 refine Con.intro Tryz.func146 rfl Tryz.ntmps146 Tryz.results146 (by kernel_rfl) (by simp) 2 (by simp) ?_
 dsimp only [List.append]
 simp only [go_sem, beq_self_eq_true]
 refine CallU.free (con_equalInt a.need a.need (hl.need)) (by simp only [go_sem]) (by simp only [go_sem]) ?_
 rintro r bx rfl
 simp only [go_sem, beq_self_eq_true]
 refine CallU.free (con_equalInt a.give a.give (hl.give)) (by simp only [go_sem]) (by simp only [go_sem]) ?_
 rintro r bx rfl
 simp only [go_sem, beq_self_eq_true]
 refine CallU.free (con_equalInt a.move a.move (hl.move)) (by simp only [go_sem]) (by simp only [go_sem]) ?_
 rintro r bx rfl
 simp only [go_sem, beq_self_eq_true]
 refine CallU.free (con_equalInt a.path a.path (hl.path)) (by simp only [go_sem]) (by simp only [go_sem]) ?_
 rintro r bx rfl
 simp only [go_sem, beq_self_eq_true]
 refine CallU.free (con_equalInt a.next a.next (hl.next)) (by simp only [go_sem]) (by simp only [go_sem]) ?_
 rintro r bx rfl
 simp only [go_sem, beq_self_eq_true]
 refine CallU.free (con_equalTake a.takes a.takes (hl.takes)) (by simp only [go_sem]) (by simp only [go_sem]) ?_
 rintro r bx rfl
 simp only [go_sem, beq_self_eq_true]
 refine CallU.free (con_equalInt a.makes a.makes (hl.makes)) (by simp only [go_sem]) (by simp only [go_sem]) ?_
 rintro r bx rfl
 simp only [go_sem, beq_self_eq_true]
theorem Con.leA {P : Program} {f : FuncId} {args args' : List AV} {bx : List (List AV)} {post : AV -> List (List AV) -> Prop} (h : Con P f args bx post) (ha : leC args' args) : Con P f args' bx post :=
 h.args fun _ _ _ hv => leC_pw ha hv
theorem DrawK.meet {P : Program} {ops : Array Oper} {σ : St} {K : St -> Prop} (τ : St) (h : DrawK P ops σ fun σ' => σ'.le τ) (hk : K τ) : DrawK P ops σ K :=
 fun G0 w0 G a w id Q t hs hQ => h G0 w0 G a w id Q t hs fun _ G' a' w' hl h' => hQ τ G' a' w' hk (h'.le hl)
theorem andK_mk {p q : Prop} (h1 : p) (h2 : q) : andK p q := ⟨h1, h2⟩
def rightTree : Tr := .front 0 (.front 2 (.front 4 (.alt (.one 1 (.front 6 (.alt (.one 3 (.alt (.one 5 (.one 7 (.front 8 (.one 9 (.front 10 (.one 11 .done)))))) (.one 7 (.front 8 (.alt (.one 5 (.one 9 (.front 10 (.one 11 .done)))) (.one 9 (.one 5 (.front 10 (.one 11 .done))))))))) (.alt (.one 5 (.alt (.one 3 (.one 7 (.front 8 (.one 9 (.front 10 (.one 11 .done)))))) (.one 7 (.one 3 (.front 8 (.one 9 (.front 10 (.one 11 .done)))))))) (.one 7 (.alt (.one 3 (.front 8 (.alt (.one 5 (.one 9 (.front 10 (.one 11 .done)))) (.one 9 (.one 5 (.front 10 (.one 11 .done))))))) (.one 5 (.one 3 (.front 8 (.one 9 (.front 10 (.one 11 .done)))))))))))) (.alt (.one 3 (.alt (.one 1 (.front 6 (.alt (.one 5 (.one 7 (.front 8 (.one 9 (.front 10 (.one 11 .done)))))) (.one 7 (.front 8 (.alt (.one 5 (.one 9 (.front 10 (.one 11 .done)))) (.one 9 (.one 5 (.front 10 (.one 11 .done)))))))))) (.one 5 (.one 1 (.front 6 (.one 7 (.front 8 (.one 9 (.front 10 (.one 11 .done)))))))))) (.one 5 (.alt (.one 1 (.front 6 (.alt (.one 3 (.one 7 (.front 8 (.one 9 (.front 10 (.one 11 .done)))))) (.one 7 (.one 3 (.front 8 (.one 9 (.front 10 (.one 11 .done))))))))) (.one 3 (.one 1 (.front 6 (.one 7 (.front 8 (.one 9 (.front 10 (.one 11 .done))))))))))))))
theorem bare_of {r : RD} (h : bareB r = true) : r = ⟨r.name, r.src, r.dst, r.need, r.give, r.move, 0, 0, 0, [], [], [], [], 0⟩ := by
 unfold bareB at h
 simp only [Bool.and_eq_true, beq_iff_eq] at h
 obtain ⟨⟨⟨⟨⟨⟨⟨h1, h2⟩, h3⟩, h4⟩, h5⟩, h6⟩, h7⟩, h8⟩ := h
 obtain ⟨a, b, c, d, e, f, g, h, i, j, k, l, m, n⟩ := r
 simp only at h1 h2 h3 h4 h5 h6 h7 h8
 rw [h1, h2, h3, List.eq_nil_of_length_eq_zero h4, List.eq_nil_of_length_eq_zero h5, List.eq_nil_of_length_eq_zero h6, List.eq_nil_of_length_eq_zero h7, h8]
abbrev bareR (nm : ByteArray) (s d : Int) (nd gv mv : List Int) : RD := ⟨nm, s, d, nd, gv, mv, 0, 0, 0, [], [], [], [], 0⟩
theorem con_same_only (nm : ByteArray) (s d : Int) (nd gv mv : List Int) (hl : (bareR nm s d nd gv mv).Len) : Con Tryz.prog 146 [vRule (bareR nm s d nd gv mv), .ag [vStr nm, vi s, vi d, vs 0 nd, vs 0 gv, vs 0 mv, vi 0, vi 0, vi 0, .nil, .nil, .nil, .nil, vi 0]] [] fun x _ => x = vb true :=
 (con_same_self _ hl).leA ⟨leV_refl _, leV_ag ⟨leV_refl _, leV_refl _, leV_refl _, leV_refl _, leV_refl _, leV_refl _, leV_refl _, leV_refl _, leV_refl _, leV_nil 0 1, leV_nil 0 1, leV_nil 0 3, leV_nil 0 1, leV_refl _, trivial⟩, trivial⟩
theorem con_right (m : MD) (r : RD) (hk : m.kind = 1) (hs : m.states.length <= 1000000) (hp : m.places.length <= 1000000) (hl : r.Len) (hr : ruleB m.states.length m.places.length r = true) (hb : bareB r = true) : Con Tryz.prog 107 [vM m, vRule r] [] fun x _ => x = vb true := by
 obtain ⟨nm, s, d, nd, gv, mv, rfl⟩ : ∃ nm s d nd gv mv, r = bareR nm s d nd gv mv := ⟨_, _, _, _, _, _, bare_of hb⟩
 refine Con.intro Tryz.func107 rfl Tryz.ntmps107 Tryz.results107 (by kernel_rfl) (by simp) 3 (by simp) ?_
 unfold ruleB indexB at hr
 simp only [Bool.and_eq_true] at hr
 obtain ⟨⟨⟨h1, h2⟩, h3⟩, h4⟩ := hr
 have h1 : (decide (0 <= d) && decide (d < (m.states.length : Int))) = true := by rw [Bool.and_eq_true]; exact h1
 have h2 : (decide (0 <= s) && decide (s < (m.states.length : Int))) = true := by rw [Bool.and_eq_true]; exact h2
 simp only [go_sem, List.map_nil]
 refine CallU.free (con_index d m.states.length (by omega) (by omega)) (by simp only [go_sem]) (by simp only [go_sem]) ?_
 rintro x bx rfl
 simp only [go_sem, h1]
 refine CallU.free (con_index s m.states.length (by omega) (by omega)) (by simp only [go_sem]) (by simp only [go_sem]) ?_
 rintro x bx rfl
 simp only [go_sem, h2, hk]
 refine DrawK.meet ⟨142, [(2, .pb 0 0), (3, .pb 1 0), (4, vb false), (6, .pb 2 0)], [cM m, [vStr nm, vi s, vi d, vs 0 nd, vs 0 gv, vs 0 mv, vi 0, vi 0, vi 0, vs 0 [], vs 0 [], .sl 0 3 [], vs 0 [], vi 0], [vStr nm, vi s, vi d, vs 0 nd, vs 0 gv, vs 0 mv, vi 0, vi 0, vi 0, .nil, .nil, .nil, .nil, vi 0]]⟩ ?_ ?_
 ·refine DrawK.tree rightTree mixed (by kernel_rfl) ?_
  unfold rightTree
  repeat' (first | with_reducible apply andK_mk | simp only [go_sem, hk, List.map_nil])
 ·simp only [go_sem]
  refine CallU.free (con_changes m (bareR nm s d nd gv mv) hl) (by simp only [go_sem]) (by simp only [go_sem, hk, List.map_nil]) ?_
  rintro x bx rfl
  simp only [go_sem, h3]
  refine CallU.free (con_moves m (bareR nm s d nd gv mv) hl hp) (by simp only [go_sem]) (by simp only [go_sem, hk, List.map_nil]) ?_
  rintro x bx rfl
  simp only [go_sem, h4]
  refine CallU.free (con_same_only nm s d nd gv mv hl) (by simp only [go_sem]) (by simp only [go_sem, List.map_nil]) ?_
  rintro x bx rfl
  simp only [go_sem]
theorem con_check1 (m : MD) (r : RD) (hk : m.kind = 1) (hs : m.states.length <= 1000000) (hp : m.places.length <= 1000000) (hl : r.Len) (hr : ruleB m.states.length m.places.length r = true) (hb : bareB r = true) : Con Tryz.prog 106 [vRule r, .fp (cM m) 0] [] fun x _ => x = .sc (.bool false) := by
 refine Con.intro Tryz.func106 rfl Tryz.ntmps106 Tryz.results106 (by kernel_rfl) (by simp) 1 (by simp) ?_
 simp only [go_sem]
 refine CallU.free (con_right m r hk hs hp hl hr hb) (by simp only [go_sem]) (by simp only [go_sem]) ?_
 rintro x bx rfl
 simp only [go_sem]
def vPT (p : Int × Int) : AV := .ag [vi p.1, vi p.2, .nil, .nil]
def partsP (ns np : Nat) : List (Int × Int) := (2, (ns : Int)) :: List.replicate np (1, 0)
def flatT (t : Nat) (ps : List (Int × Int)) : AV := .ag [vi 3, vi 0, .nil, .sl t 4 (ps.map vPT)]
attribute [go_sem] vPT flatT
theorem parts_len (ns np : Nat) : (partsP ns np).length = np + 1 := by simp [partsP]
theorem parts_succ (ns i : Nat) : partsP ns (i + 1) = partsP ns i ++ [(1, 0)] := by unfold partsP; rw [List.replicate_succ']; rfl
theorem getPT {l : List (Int × Int)} {i : Nat} (h : i < l.length) : (l.map vPT)[i]? = some (.ag [.sc (.int .i64 l[i]!.1), .sc (.int .i64 l[i]!.2), .nil, .nil]) := by
 rw [List.getElem?_map, List.getElem?_eq_getElem h, getElem!_pos l i h, Option.map_some]; rfl
theorem con_label (n : Nat) : Con Tryz.prog 184 [vi n] [] fun r _ => r = vPT (2, n) := by
 refine Con.intro Tryz.func184 rfl Tryz.ntmps184 Tryz.results184 (by kernel_rfl) (by simp) 0 (by simp) ?_
 simp only [go_sem]
theorem con_typed (m : MD) (hk : m.kind = 1) (hp : m.places.length <= 1000000) : Con Tryz.prog 148 [vM m] [] fun r _ => r = flatT 2 (partsP m.states.length m.places.length) := by
 refine Con.intro Tryz.func148 rfl Tryz.ntmps148 Tryz.results148 (by kernel_rfl) (by simp) 0 (by simp) ?_
 simp only [go_sem, hk]
 refine CallU.free (con_label m.states.length) (by simp only [go_sem]) (by simp only [go_sem]) ?_
 rintro r bx rfl
 simp only [go_sem]
 refine LoopK.intro (fun i : Nat => ⟨70, [(1, .pb 0 0), (2, .pb 1 0), (3, .sl 640 4 ((partsP m.states.length i).map vPT)), (14, vi m.places.length), (15, vi i)], cM m :: [.any, .any, .any, .any] :: Rk 4 i⟩)
  (fun i => m.places.length - i) (fun i => i <= m.places.length) 0 (by omega) ?_ ?_
 ·simp only [go_sem, hk, partsP, List.replicate_zero, List.map_cons, List.map_nil]
  exact leB_self _
 rintro i hi
 by_cases h : i < m.places.length
 ·have hw : IntKind.i64.wrap (i + 1) = i + 1 := wrap_in (by omega) (by omega)
  have hB := Rk_len 4 i
  have n0 := fun L : List (List AV) => app_at0 (L := L) hB
  have s0 := fun (L : List (List AV)) z => app_set0 (L := L) (z := z) hB
  have e := parts_succ m.states.length i
  simp only [go_sem, h, hk, hw, hB, n0, s0]
  refine ⟨by simp only [roomFor, parts_len]; omega, ?_⟩
  refine roundK.intro (i + 1) (by omega) (by omega) ?_
  simp only [go_sem, Rk_succ, e, List.map_append, List.map_cons, List.map_nil]
  exact leB_RkA ⟨leC_any _ 4 rfl, trivial⟩
 ·obtain rfl : i = m.places.length := by omega
  simp only [go_sem, h]
def TellsP (f : FuncId) (caps : List AV) (l : List (Int × Int)) (p : Int × Int -> Bool) : Prop := ∀ x ∈ l, Con Tryz.prog f ([vPT x] ++ caps) [] fun r _ => r = .sc (.bool (p x))
theorem con_indexPT (l : List (Int × Int)) (f : FuncId) (caps : List AV) (p : Int × Int -> Bool) (hc : mapTops (viewV []) caps = caps) (hf : TellsP f caps l p) (hl : l.length <= 9223372036854775806) : Con Tryz.prog 218 [.sl 0 4 (l.map vPT), .fn f caps] [] fun r _ => r = vi (findI p l) := by
 refine Con.intro Tryz.func218 rfl Tryz.ntmps218 Tryz.results218 (by kernel_rfl) (by simp) 0 (by simp) ?_
 simp only [go_sem]
 refine LoopK.intro (fun i : Nat => ⟨19, [(0, .sl 0 4 (l.map vPT)), (1, .fn f caps), (7, vi l.length), (8, vi i)], []⟩)
  (fun i => l.length - i) (fun i => i <= l.length /\ ∀ j, j < i -> p l[j]! = false) 0 ⟨by omega, fun j hj => by omega⟩ ?_ ?_
 ·simp only [go_sem]
  all_goals exact leV_refl _
 ·rintro i ⟨hi, hb⟩
  by_cases h : i < l.length
  ·have hg := getPT h
   have hw : IntKind.i64.wrap (i + 1) = i + 1 := wrap_in (by omega) (by omega)
   simp only [go_sem, h, hg]
   refine CallU.look (hf l[i]! (mem_bangI h)) (by simp only [go_sem]) (by simp only [go_sem, hc]) ?_
   rintro r bx rfl
   cases hp : p l[i]!
   ·simp only [go_sem, hw]
    refine roundK.intro (i + 1) ⟨by omega, fun j hj => ?_⟩ (by omega) ?_
    ·by_cases hji : j = i
     ·subst hji; exact hp
     ·exact hb j (by omega)
    ·simp only [go_sem]
   ·simp only [go_sem]
    rw [findI_stop h hb hp]
  ·simp only [go_sem, h]
   rw [findI_none (fun j hj => hb j (by omega))]
theorem con_containsPT (l : List (Int × Int)) (f : FuncId) (caps : List AV) (p : Int × Int -> Bool) (hc : mapTops (viewV []) caps = caps) (hf : TellsP f caps l p) (hl : l.length <= 9223372036854775806) : Con Tryz.prog 208 [.sl 0 4 (l.map vPT), .fn f caps] [] fun r _ => r = .sc (.bool (l.any p)) := by
 refine Con.intro Tryz.func208 rfl Tryz.ntmps208 Tryz.results208 (by kernel_rfl) (by simp) 0 (by simp) ?_
 simp only [go_sem]
 refine CallU.look (con_indexPT l f caps p hc hf hl) (by simp only [go_sem]) (by simp only [go_sem]) ?_
 rintro r bx rfl
 simp only [go_sem, findI_ge]
def LeafP (p : Int × Int) : Prop := p = (1, 0) \/ p.1 = 2 /\ 1 <= p.2 /\ p.2 <= 16
theorem con_rightLeaf (p : Int × Int) (d : Int) (hd : d ≠ 0) (hp : LeafP p) : Con Tryz.prog 197 [vPT p, vi d] [] fun r _ => r = vb true := by
 refine Con.intro Tryz.func197 rfl Tryz.ntmps197 Tryz.results197 (by kernel_rfl) (by simp) 2 (by simp) ?_
 have hd' : (d == 0) = false := beq_eq_false_iff_ne.2 hd
 obtain ⟨k, s⟩ := p
 rcases hp with hp | ⟨rfl, h1, h2⟩
 ·cases hp
  simp only [go_sem, hd']
 ·simp only at h1 h2
  simp only [go_sem, hd', h1, h2]
theorem con_right1 (p : Int × Int) (hp : LeafP p) : Con Tryz.prog 209 [vPT p, .fp [vi 8] 0] [] fun r _ => r = .sc (.bool false) := by
 refine Con.intro Tryz.func209 rfl Tryz.ntmps209 Tryz.results209 (by kernel_rfl) (by simp) 1 (by simp) ?_
 have hw : IntKind.i64.wrap 7 = 7 := wrap_in (by omega) (by omega)
 simp only [go_sem, hw]
 refine CallU.free (con_rightLeaf p 7 (by omega) hp) (by simp only [go_sem]) (by simp only [go_sem]) ?_
 rintro r bx rfl
 simp only [go_sem]
theorem any_false {α : Type} (l : List α) : (l.any fun _ => false) = false := by simp
theorem con_rightFlat (ps : List (Int × Int)) (h1 : 1 <= ps.length) (h2 : ps.length <= 8) (hp : ∀ p ∈ ps, LeafP p) : Con Tryz.prog 197 [flatT 0 ps, vi 8] [] fun r _ => r = vb true := by
 refine Con.intro Tryz.func197 rfl Tryz.ntmps197 Tryz.results197 (by kernel_rfl) (by simp) 2 (by simp) ?_
 have a1 : ((ps.length : Int) == 0) = false := beq_eq_false_iff_ne.2 (by omega)
 have a2 : ¬ ((8 : Int) < ps.length) := by omega
 simp only [go_sem, a1, a2]
 refine CallU.look (con_containsPT ps 209 [.fp [vi 8] 0] (fun _ => false) (by simp only [go_sem]) (fun x hx => con_right1 x (hp x hx)) (by omega)) (by simp only [go_sem]) (by simp only [go_sem]) ?_
 rintro r bx rfl
 simp only [go_sem, any_false]
theorem con_ocheck (ps : List (Int × Int)) (h1 : 1 <= ps.length) (h2 : ps.length <= 8) (hp : ∀ p ∈ ps, LeafP p) : Con Tryz.prog 181 [flatT 0 ps] [] fun r _ => r = vi 0 := by
 refine Con.intro Tryz.func181 rfl Tryz.ntmps181 Tryz.results181 (by kernel_rfl) (by simp) 1 (by simp) ?_
 simp only [go_sem]
 refine CallU.free (con_rightFlat ps h1 h2 hp) (by simp only [go_sem]) (by simp only [go_sem]) ?_
 rintro r bx rfl
 simp only [go_sem]
mutual
def countV : CV -> Int -> Int
 | .mk _ kids, most => countVs kids most 1
def countVs : List CV -> Int -> Int -> Int
 | [], _, n => n
 | k :: l, most, n => if most < n then n else countVs l most (n + countV k (most - n))
end
mutual
theorem countV_bnd : ∀ (v : CV) (most : Int), 0 <= most -> 1 <= countV v most /\ countV v most <= most + 1
 | .mk _ kids, most, h => by
  have := countVs_bnd kids most 1 h (by omega) (by omega)
  rw [countV]; exact this
theorem countVs_bnd : ∀ (l : List CV) (most n : Int), 0 <= most -> 1 <= n -> n <= most + 1 -> 1 <= countVs l most n /\ countVs l most n <= most + 1
 | [], most, n, h, h1, h2 => by rw [countVs]; exact ⟨h1, h2⟩
 | k :: l, most, n, h, h1, h2 => by
  rw [countVs]
  by_cases hm : most < n
  ·rw [if_pos hm]; exact ⟨h1, h2⟩
  ·rw [if_neg hm]
   have := countV_bnd k (most - n) (by omega)
   exact countVs_bnd l most _ h (by omega) (by omega)
end
theorem drop_kid {l : List CV} {i : Nat} (h : i < l.length) : l.drop i = l[i]! :: l.drop (i + 1) := by
 rw [List.drop_eq_getElem_cons h, getElem!_pos l i h]
theorem con_count (v : CV) (most : Int) (h1 : 0 <= most) (h2 : most <= 128) (hv : v.Ok) : Con Tryz.prog 198 [vV v, vi most] [] fun r _ => r = vi (countV v most) := by
 have key : ∀ (s : Nat) (v : CV) (most : Int), SizeOf.sizeOf v <= s -> 0 <= most -> most <= 128 -> v.Ok -> Con Tryz.prog 198 [vV v, vi most] [] fun r _ => r = vi (countV v most) := by
  intro s
  induction s with
  | zero => intro v _ hs; cases v; rw [CV.mk.sizeOf_spec] at hs; omega
  | succ s ih =>
   intro v most hs h1 h2 hv
   have hlen := hv.len
   have e0 : countV v most = countVs v.kids most 1 := by cases v; rw [countV]; rfl
   rw [vV_eq, e0]
   refine Con.intro Tryz.func198 rfl Tryz.ntmps198 Tryz.results198 (by kernel_rfl) (by simp) 1 (by simp) ?_
   simp only [go_sem]
   refine LoopK.intro (fun q : Nat × Int => ⟨27, [(1, vi most), (2, .pb 0 0), (5, vi q.2), (9, .sl 0 2 (v.kids.map vV)), (10, vi v.kids.length), (11, vi q.1)], [vi v.n, .sl 0 2 (v.kids.map vV)] :: Rk 2 q.1⟩)
    (fun q => v.kids.length - q.1) (fun q => q.1 <= v.kids.length /\ 1 <= q.2 /\ q.2 <= most + 1 /\ countVs (v.kids.drop q.1) most q.2 = countVs v.kids most 1) (0, 1) ⟨by simp, by simp, by show (1 : Int) <= most + 1; omega, rfl⟩ ?_ ?_
   ·simp only [go_sem]
    exact leB_self _
   rintro ⟨i, n⟩ ⟨hi, hn1, hn2, he⟩
   simp only at hi hn1 hn2 he
   by_cases h : i < v.kids.length
   ·have hg := getvV h
    have hw : IntKind.i64.wrap (i + 1) = i + 1 := wrap_in (by omega) (by omega)
    have hB := Rk_len 2 i
    have n0 := fun L : List (List AV) => app_at0 (L := L) hB
    have s0 := fun (L : List (List AV)) z => app_set0 (L := L) (z := z) hB
    rw [drop_kid h, countVs] at he
    by_cases hm : most < n
    ·rw [if_pos hm] at he
     simp only [go_sem, h, hg, hB, n0, s0, hm]
     rw [he]
    ·rw [if_neg hm] at he
     have hmem : v.kids[i]! ∈ v.kids := mem_bangI h
     have hk := countV_bnd v.kids[i]! (most - n) (by omega)
     have hw2 : IntKind.i64.wrap (most - n) = most - n := wrap_in (by omega) (by omega)
     have hw3 : IntKind.i64.wrap (n + countV v.kids[i]! (most - n)) = n + countV v.kids[i]! (most - n) := wrap_in (by omega) (by omega)
     simp only [go_sem, h, hg, hB, n0, s0, hm, hw2]
     refine CallU.free (ih v.kids[i]! (most - n) (by have := kid_size hmem; omega) (by omega) (by omega) (hv.kid hmem)) (by simp only [go_sem]) (by simp only [go_sem, vV_eq]) ?_
     rintro r bx rfl
     simp only [go_sem, hw, hw3]
     refine roundK.intro (i + 1, n + countV v.kids[i]! (most - n)) ⟨by show i + 1 <= _; omega, by show 1 <= n + _; omega, by show n + _ <= most + 1; omega, he⟩ (by show v.kids.length - (i + 1) < v.kids.length - i; omega) ?_
     simp only [go_sem, Rk_succ]
     exact leB_RkA ⟨leC_any _ 2 rfl, trivial⟩
   ·obtain rfl : i = v.kids.length := by omega
    rw [List.drop_length, countVs] at he
    simp only [go_sem, h, he]
 exact key _ v most (Nat.le_refl _) h1 h2 hv
theorem con_size (v : CV) (hv : v.Ok) : Con Tryz.prog 182 [vV v] [] fun r _ => r = vi (countV v 128) := by
 rw [vV_eq]
 refine Con.intro Tryz.func182 rfl Tryz.ntmps182 Tryz.results182 (by kernel_rfl) (by simp) 1 (by simp) ?_
 simp only [go_sem]
 refine CallU.free (con_count v 128 (by omega) (by omega) hv) (by simp only [go_sem]) (by simp only [go_sem, vV_eq]) ?_
 rintro r bx rfl
 have hb := countV_bnd v 128 (by omega)
 have e : min (countV v 128) 129 = countV v 128 := by omega
 simp only [go_sem, e]
def leafOk (p : Int × Int) (v : CV) : Bool := if p.1 = 1 then decide (0 <= v.n) && decide (v.n <= 1048576) && v.kids.length == 0 else decide (0 <= v.n) && decide (v.n < p.2) && v.kids.length == 0
theorem zero_len {α : Type} (l : List α) : ((l.length : Int) == 0) = (l.length == 0) := by rw [Bool.eq_iff_iff]; simp
theorem con_olabel (v : CV) (s : Int) : Con Tryz.prog 199 [vV v, vi s] [] fun r _ => r = vb (decide (0 <= v.n) && decide (v.n < s) && v.kids.length == 0) := by
 rw [vV_eq]
 refine Con.intro Tryz.func199 rfl Tryz.ntmps199 Tryz.results199 (by kernel_rfl) (by simp) 1 (by simp) ?_
 by_cases h1 : 0 <= v.n
 ·by_cases h2 : v.n < s
  ·simp only [go_sem, h1, h2, zero_len, decide_true, Bool.true_and]
  ·simp only [go_sem, h1, h2, decide_false, Bool.false_and, Bool.and_false]
 ·simp only [go_sem, h1, decide_false, Bool.false_and]
theorem con_oneLeaf (p : Int × Int) (v : CV) (hp : LeafP p) : Con Tryz.prog 183 [vPT p, vV v] [] fun r _ => r = vb (leafOk p v) := by
 rw [vV_eq]
 refine Con.intro Tryz.func183 rfl Tryz.ntmps183 Tryz.results183 (by kernel_rfl) (by simp) 2 (by simp) ?_
 obtain ⟨k, s⟩ := p
 rcases hp with hp | ⟨rfl, h1, h2⟩
 ·cases hp
  have e : leafOk (1, 0) v = (decide (0 <= v.n) && decide (v.n <= 1048576) && v.kids.length == 0) := by unfold leafOk; rw [if_pos rfl]
  rw [e]
  by_cases h1 : 0 <= v.n
  ·by_cases h2 : v.n <= 1048576
   ·simp only [go_sem, h1, h2, zero_len, decide_true, Bool.true_and]
   ·simp only [go_sem, h1, h2, decide_false, Bool.false_and, Bool.and_false]
  ·simp only [go_sem, h1, decide_false, Bool.false_and]
 ·have e : leafOk (2, s) v = (decide (0 <= v.n) && decide (v.n < s) && v.kids.length == 0) := by unfold leafOk; rw [if_neg (by simp)]
  rw [e]
  simp only [go_sem]
  refine CallU.free (con_olabel v s) (by simp only [go_sem]) (by simp only [go_sem, vV_eq]) ?_
  rintro r bx rfl
  simp only [go_sem]
def flatOk (ps : List (Int × Int)) (v : CV) : Bool := v.n == 0 && decide (v.kids.length = ps.length) && (List.range ps.length).all fun i => leafOk ps[i]! v.kids[i]!
theorem flat_bad {ps : List (Int × Int)} {v : CV} {i : Nat} (h : i < ps.length) (hb : leafOk ps[i]! v.kids[i]! = false) : flatOk ps v = false := by
 unfold flatOk
 have : ((List.range ps.length).all fun i => leafOk ps[i]! v.kids[i]!) = false := by
  rw [List.all_eq_false]; exact ⟨i, List.mem_range.2 h, by rw [hb]; simp⟩
 rw [this, Bool.and_false]
theorem flat_good {ps : List (Int × Int)} {v : CV} (h0 : v.n = 0) (hl : v.kids.length = ps.length) (h : ∀ i, i < ps.length -> leafOk ps[i]! v.kids[i]! = true) : flatOk ps v = true := by
 unfold flatOk
 have : ((List.range ps.length).all fun i => leafOk ps[i]! v.kids[i]!) = true := by
  rw [List.all_eq_true]; exact fun i hi => h i (List.mem_range.1 hi)
 rw [this, h0, decide_eq_true hl]; rfl
theorem con_oneFlat (ps : List (Int × Int)) (v : CV) (hp : ∀ p ∈ ps, LeafP p) (hl : v.kids.length <= 9223372036854775806) : Con Tryz.prog 183 [flatT 0 ps, vV v] [] fun r _ => r = vb (flatOk ps v) := by
 rw [vV_eq]
 refine Con.intro Tryz.func183 rfl Tryz.ntmps183 Tryz.results183 (by kernel_rfl) (by simp) 2 (by simp) ?_
 by_cases h0 : v.n = 0
 case neg =>
  have h0' : (v.n != 0) = true := bne_iff_ne.2 h0
  have e : flatOk ps v = false := by unfold flatOk; rw [beq_eq_false_iff_ne.2 h0]; rfl
  simp only [go_sem, h0', e]
 have h0' : (v.n != 0) = false := by rw [h0]; rfl
 by_cases hn : v.kids.length = ps.length
 case neg =>
  have hn' : ((v.kids.length : Int) != (ps.length : Int)) = true := bne_iff_ne.2 (by omega)
  have e : flatOk ps v = false := by unfold flatOk; rw [decide_eq_false hn, Bool.and_false]; rfl
  simp only [go_sem, h0', hn', e]
 have hn' : ((v.kids.length : Int) != (ps.length : Int)) = false := by rw [hn]; simp
 simp only [go_sem, h0', hn']
 refine LoopK.intro (fun i : Nat => ⟨110, [(2, .pb 0 0), (3, .pb 1 0), (46, .sl 0 2 (v.kids.map vV)), (47, vi v.kids.length), (48, vi i)], [vi 3, vi 0, .nil, .sl 0 4 (ps.map vPT)] :: [vi v.n, .sl 0 2 (v.kids.map vV)] :: Rk 2 i⟩)
  (fun i => v.kids.length - i) (fun i => i <= v.kids.length /\ ∀ j, j < i -> leafOk ps[j]! v.kids[j]! = true) 0 ⟨by omega, fun j hj => by omega⟩ ?_ ?_
 ·simp only [go_sem]
  exact leB_self _
 rintro i ⟨hi, hb⟩
 by_cases h : i < v.kids.length
 ·have h2 : i < ps.length := by omega
  have hg := getvV h
  have hg2 := getPT h2
  have hw : IntKind.i64.wrap (i + 1) = i + 1 := wrap_in (by omega) (by omega)
  have hB := Rk_len 2 i
  have n0 := fun L : List (List AV) => app_at0 (L := L) hB
  have s0 := fun (L : List (List AV)) z => app_set0 (L := L) (z := z) hB
  simp only [go_sem, h, hg, hB, n0, s0]
  refine DrawK.walk 8 mixed (by kernel_rfl) ?_
  simp only [go_sem, h2, hg2, n0]
  refine CallY.mk (con_oneLeaf ps[i]! v.kids[i]! (hp _ (mem_bangI h2))) (by simp only [go_sem, vV_eq]) (by simp only [go_sem]) (.inl (by simp only [go_sem])) ?_
  cases hq : leafOk ps[i]! v.kids[i]!
  ·simp only [go_sem]
   rw [flat_bad h2 hq]
  ·simp only [go_sem, hw]
   refine roundK.intro (i + 1) ⟨by omega, fun j hj => ?_⟩ (by omega) ?_
   ·by_cases hji : j = i
    ·subst hji; exact hq
    ·exact hb j (by omega)
   ·simp only [go_sem, Rk_succ]
    exact leB_RkA ⟨leC_any _ 2 rfl, trivial⟩
 ·simp only [go_sem, h]
  rw [flat_good h0 hn (fun j hj => hb j (by omega))]
end Go.AM
