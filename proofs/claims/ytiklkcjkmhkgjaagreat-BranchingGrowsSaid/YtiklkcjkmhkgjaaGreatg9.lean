/- CmM CmN CmO CmP GA -/
import Derived.Test.YtiklkcjkmhkgjaaGreatg8
namespace Go.AM
open Go Go.Proofs Go.RowKit
set_option maxRecDepth 100000
set_option maxHeartbeats 8000000
theorem con_changes1 (x : Int) : Con Tryz.prog 158 [vi x] [] fun r _ => r = .sc (.bool (betweenB x 0 16)) := by
 refine Con.intro Tryz.func158 rfl Tryz.ntmps158 Tryz.results158 (by kernel_rfl) (by simp) 0 (by simp) ?_
 simp only [go_sem]
 refine CallU.free (con_between x 0 16) (by simp only [go_sem]) (by simp only [go_sem]) ?_
 rintro r bx rfl
 simp only [go_sem]
structure RD.Len (r : RD) : Prop where
 need : r.need.length <= 9223372036854775806
 give : r.give.length <= 9223372036854775806
 move : r.move.length <= 9223372036854775806
 path : r.path.length <= 9223372036854775806
 next : r.next.length <= 9223372036854775806
 takes : r.takes.length <= 9223372036854775806
 makes : r.makes.length <= 9223372036854775806
theorem con_changes (m : MD) (r : RD) (hl : r.Len) : Con Tryz.prog 132 [vM m, vRule r] [] fun x _ => x = vb (changesB m.places.length r) := by
 refine Con.intro Tryz.func132 rfl Tryz.ntmps132 Tryz.results132 (by kernel_rfl) (by simp) 2 (by simp) ?_
 unfold changesB
 by_cases h1 : r.need.length = m.places.length
 case neg =>
  have h1' : ((r.need.length : Int) == (m.places.length : Int)) = false := beq_eq_false_iff_ne.2 (by omega)
  simp only [go_sem, h1', h1, decide_false, Bool.false_and]
 have h1' : ((r.need.length : Int) == (m.places.length : Int)) = true := beq_iff_eq.2 (by omega)
 by_cases h2 : r.give.length = m.places.length
 case neg =>
  have h2' : ((r.give.length : Int) == (m.places.length : Int)) = false := beq_eq_false_iff_ne.2 (by omega)
  simp only [go_sem, h1', h2', h2, decide_false, Bool.false_and, Bool.and_false]
 have h2' : ((r.give.length : Int) == (m.places.length : Int)) = true := beq_iff_eq.2 (by omega)
 simp only [go_sem, h1', h2']
 refine CallU.free (con_all r.need 158 [] (fun x => betweenB x 0 16) rfl (fun x _ => con_changes1 x) hl.need) (by simp only [go_sem]) (by simp only [go_sem]) ?_
 rintro x bx rfl
 change _ /\ _
 cases h3 : smallB r.need
 ·have h3' : (r.need.all fun x => betweenB x 0 16) = false := h3
  simp only [go_sem, h3', Bool.false_and, Bool.and_false]
 have h3' : (r.need.all fun x => betweenB x 0 16) = true := h3
 simp only [go_sem, h3']
 refine CallU.free (con_all r.give 158 [] (fun x => betweenB x 0 16) rfl (fun x _ => con_changes1 x) hl.give) (by simp only [go_sem]) (by simp only [go_sem]) ?_
 rintro x bx rfl
 simp only [go_sem, h1, h2, decide_true, Bool.true_and]
 rfl
theorem con_moves1 (x : Int) (n : Nat) (hn : n <= 1000000) : Con Tryz.prog 159 [vi x, .fp [vi n] 0] [] fun r _ => r = .sc (.bool (betweenB x (-1) (n - 1))) := by
 refine Con.intro Tryz.func159 rfl Tryz.ntmps159 Tryz.results159 (by kernel_rfl) (by simp) 0 (by simp) ?_
 have hw : IntKind.i64.wrap ((n : Int) - 1) = n - 1 := wrap_in (by omega) (by omega)
 simp only [go_sem, hw]
 refine CallU.free (con_between x (-1) (n - 1)) (by simp only [go_sem]) (by simp only [go_sem]) ?_
 rintro r bx rfl
 simp only [go_sem]
theorem con_moves (m : MD) (r : RD) (hl : r.Len) (hm : m.places.length <= 1000000) : Con Tryz.prog 133 [vM m, vRule r] [] fun x _ => x = vb (movesB m.places.length r) := by
 refine Con.intro Tryz.func133 rfl Tryz.ntmps133 Tryz.results133 (by kernel_rfl) (by simp) 3 (by simp) ?_
 unfold movesB
 by_cases h1 : r.move.length = 0
 ·have h1' : ((r.move.length : Int) == 0) = true := beq_iff_eq.2 (by omega)
  simp only [go_sem, h1]
  all_goals simp
 have h1' : ((r.move.length : Int) == 0) = false := beq_eq_false_iff_ne.2 (by omega)
 have h1n : (r.move.length == 0) = false := beq_eq_false_iff_ne.2 h1
 by_cases h2 : r.move.length = m.places.length
 case neg =>
  have h2' : ((r.move.length : Int) == (m.places.length : Int)) = false := beq_eq_false_iff_ne.2 (by omega)
  simp only [go_sem, h1', h2', h1n, h2, decide_false, Bool.false_and, Bool.or_false]
 have h2' : ((r.move.length : Int) == (m.places.length : Int)) = true := beq_iff_eq.2 (by omega)
 simp only [go_sem, h1', h2']
 refine CallU.look (con_all r.move 159 [.fp [vi m.places.length] 0] (fun x => betweenB x (-1) (m.places.length - 1)) (by simp only [go_sem]) (fun x _ => con_moves1 x m.places.length hm) hl.move) (by simp only [go_sem]) (by simp only [go_sem]) ?_
 rintro x bx rfl
 simp only [go_sem]
 rw [h1n, decide_eq_true h2]; simp
theorem getTake {l : List (Int × Int × Int)} {i : Nat} (h : i < l.length) : (l.map vTake)[i]? = some (.ag [.sc (.int .i64 l[i]!.1), .sc (.int .i64 l[i]!.2.1), .sc (.int .i64 l[i]!.2.2)]) := by
 rw [List.getElem?_map, List.getElem?_eq_getElem h, getElem!_pos l i h, Option.map_some]; rfl
theorem eqA_stop {α : Type} [BEq α] [LawfulBEq α] [Inhabited α] {a b : List α} {i : Nat} (h : a[i]! ≠ b[i]!) : (a == b) = false := by
 rw [beq_eq_false_iff_ne]; intro e; rw [e] at h; exact h rfl
theorem eqA_all {α : Type} [BEq α] [LawfulBEq α] [Inhabited α] {a b : List α} (hl : a.length = b.length) (h : ∀ j, j < a.length -> a[j]! = b[j]!) : (a == b) = true := by
 rw [beq_iff_eq]
 apply List.ext_getElem hl
 intro i h1 h2
 have := h i h1
 rw [getElem!_pos a i h1, getElem!_pos b i h2] at this; exact this
theorem eqA_len {α : Type} [BEq α] [LawfulBEq α] {a b : List α} (h : a.length ≠ b.length) : (a == b) = false := by
 rw [beq_eq_false_iff_ne]; intro e; rw [e] at h; exact h rfl
@[go_sem] theorem flatF_Take : flatF Tryz.prog 86 = some [(0, true), (1, true), (2, true)] := by kernel_rfl
theorem con_equalTake (a b : List (Int × Int × Int)) (hl : a.length <= 9223372036854775806) : Con Tryz.prog 167 [.sl 0 3 (a.map vTake), .sl 0 3 (b.map vTake)] [] fun r _ => r = .sc (.bool (a == b)) := by
 refine Con.intro Tryz.func167 rfl Tryz.ntmps167 Tryz.results167 (by kernel_rfl) (by simp) 0 (by simp) ?_
 by_cases he : a.length = b.length
 case neg =>
  have he' : ((a.length : Int) != (b.length : Int)) = true := bne_iff_ne.2 (by omega)
  simp only [go_sem, he', eqA_len he]
 simp only [go_sem, he]
 refine LoopK.intro (fun i : Nat => ⟨26, [(0, .sl 0 3 (a.map vTake)), (1, .sl 0 3 (b.map vTake)), (12, vi a.length), (13, vi i)], []⟩)
  (fun i => a.length - i) (fun i => i <= a.length /\ ∀ j, j < i -> a[j]! = b[j]!) 0 ⟨by omega, fun j hj => by omega⟩ ?_ ?_
 ·simp only [go_sem, he]
  all_goals exact leV_refl _
 rintro i ⟨hi, hb⟩
 by_cases h : i < a.length
 ·have h2 : i < b.length := by omega
  have g1 := getTake h
  have g2 := getTake h2
  have hw : IntKind.i64.wrap (i + 1) = i + 1 := wrap_in (by omega) (by omega)
  simp only [go_sem, h]
  refine DrawK.walk 9 mixed (by kernel_rfl) ?_
  by_cases hp : a[i]! = b[i]!
  ·simp only [go_sem, h, h2, g1, g2, hp, hw]
   refine roundK.intro (i + 1) ⟨by omega, fun j hj => ?_⟩ (by omega) ?_
   ·by_cases hji : j = i
    ·subst hji; exact hp
    ·exact hb j (by omega)
   ·simp only [go_sem]
  ·have hp' : (a[i]!.fst == b[i]!.fst && (a[i]!.snd.fst == b[i]!.snd.fst && a[i]!.snd.snd == b[i]!.snd.snd)) = false := by
    rw [Bool.eq_false_iff]
    intro hh
    simp only [Bool.and_eq_true, beq_iff_eq] at hh
    exact hp (Prod.ext hh.1 (Prod.ext hh.2.1 hh.2.2))
   simp only [go_sem, h, h2, g1, g2, hp']
   rw [eqA_stop hp]
 ·simp only [go_sem, h]
  rw [eqA_all he (fun j hj => hb j (by omega))]
theorem Con.leA {P : Program} {f : FuncId} {args args' : List AV} {bx : List (List AV)} {post : AV -> List (List AV) -> Prop} (h : Con P f args bx post) (ha : leC args' args) : Con P f args' bx post :=
 h.args fun _ _ _ hv => leC_pw ha hv
theorem DrawK.meet {P : Program} {ops : Array Oper} {σ : St} {K : St -> Prop} (τ : St) (h : DrawK P ops σ fun σ' => σ'.le τ) (hk : K τ) : DrawK P ops σ K :=
 fun G0 w0 G a w id Q t hs hQ => h G0 w0 G a w id Q t hs fun _ G' a' w' hl h' => hQ τ G' a' w' hk (h'.le hl)
theorem andK_mk {p q : Prop} (h1 : p) (h2 : q) : andK p q := ⟨h1, h2⟩
def rightTree : Tr := .front 0 (.front 2 (.front 4 (.alt (.one 1 (.front 6 (.alt (.one 3 (.alt (.one 5 (.one 7 (.front 8 (.one 9 (.front 10 (.one 11 .done)))))) (.one 7 (.front 8 (.alt (.one 5 (.one 9 (.front 10 (.one 11 .done)))) (.one 9 (.one 5 (.front 10 (.one 11 .done))))))))) (.alt (.one 5 (.alt (.one 3 (.one 7 (.front 8 (.one 9 (.front 10 (.one 11 .done)))))) (.one 7 (.one 3 (.front 8 (.one 9 (.front 10 (.one 11 .done)))))))) (.one 7 (.alt (.one 3 (.front 8 (.alt (.one 5 (.one 9 (.front 10 (.one 11 .done)))) (.one 9 (.one 5 (.front 10 (.one 11 .done))))))) (.one 5 (.one 3 (.front 8 (.one 9 (.front 10 (.one 11 .done)))))))))))) (.alt (.one 3 (.alt (.one 1 (.front 6 (.alt (.one 5 (.one 7 (.front 8 (.one 9 (.front 10 (.one 11 .done)))))) (.one 7 (.front 8 (.alt (.one 5 (.one 9 (.front 10 (.one 11 .done)))) (.one 9 (.one 5 (.front 10 (.one 11 .done)))))))))) (.one 5 (.one 1 (.front 6 (.one 7 (.front 8 (.one 9 (.front 10 (.one 11 .done)))))))))) (.one 5 (.alt (.one 1 (.front 6 (.alt (.one 3 (.one 7 (.front 8 (.one 9 (.front 10 (.one 11 .done)))))) (.one 7 (.one 3 (.front 8 (.one 9 (.front 10 (.one 11 .done))))))))) (.one 3 (.one 1 (.front 6 (.one 7 (.front 8 (.one 9 (.front 10 (.one 11 .done))))))))))))))
def vPT (p : Int × Int) : AV := .ag [vi p.1, vi p.2, .nil, .nil]
def partsP (ns np : Nat) : List (Int × Int) := (2, (ns : Int)) :: List.replicate np (1, 0)
def flatT (t : Nat) (ps : List (Int × Int)) : AV := .ag [vi 3, vi 0, .nil, .sl t 4 (ps.map vPT)]
attribute [go_sem] vPT flatT
theorem parts_len (ns np : Nat) : (partsP ns np).length = np + 1 := by simp [partsP]
theorem parts_succ (ns i : Nat) : partsP ns (i + 1) = partsP ns i ++ [(1, 0)] := by unfold partsP; rw [List.replicate_succ']; rfl
theorem getPT {l : List (Int × Int)} {i : Nat} (h : i < l.length) : (l.map vPT)[i]? = some (.ag [.sc (.int .i64 l[i]!.1), .sc (.int .i64 l[i]!.2), .nil, .nil]) := by
 rw [List.getElem?_map, List.getElem?_eq_getElem h, getElem!_pos l i h, Option.map_some]; rfl
theorem con_label (n : Nat) : Con Tryz.prog 171 [vi n] [] fun r _ => r = vPT (2, n) := by
 refine Con.intro Tryz.func171 rfl Tryz.ntmps171 Tryz.results171 (by kernel_rfl) (by simp) 0 (by simp) ?_
 simp only [go_sem]
def LeafP (p : Int × Int) : Prop := p = (1, 0) \/ p.1 = 2 /\ 1 <= p.2 /\ p.2 <= 16
mutual
def countV : CV -> Int -> Int
 | .mk _ kids, most => countVs kids most 1
def countVs : List CV -> Int -> Int -> Int
 | [], _, n => n
 | k :: l, most, n => if most < n then n else countVs l most (n + countV k (most - n))
end
mutual
theorem countV_bnd : ∀ (v : CV) (most : Int), 0 <= most -> 1 <= countV v most /\ countV v most <= most + 1
 | .mk _ kids, most, h => by
  have := countVs_bnd kids most 1 h (by omega) (by omega)
  rw [countV]; exact this
theorem countVs_bnd : ∀ (l : List CV) (most n : Int), 0 <= most -> 1 <= n -> n <= most + 1 -> 1 <= countVs l most n /\ countVs l most n <= most + 1
 | [], most, n, h, h1, h2 => by rw [countVs]; exact ⟨h1, h2⟩
 | k :: l, most, n, h, h1, h2 => by
  rw [countVs]
  by_cases hm : most < n
  ·rw [if_pos hm]; exact ⟨h1, h2⟩
  ·rw [if_neg hm]
   have := countV_bnd k (most - n) (by omega)
   exact countVs_bnd l most _ h (by omega) (by omega)
end
theorem drop_kid {l : List CV} {i : Nat} (h : i < l.length) : l.drop i = l[i]! :: l.drop (i + 1) := by
 rw [List.drop_eq_getElem_cons h, getElem!_pos l i h]
theorem con_count (v : CV) (most : Int) (h1 : 0 <= most) (h2 : most <= 128) (hv : v.Ok) : Con Tryz.prog 183 [vV v, vi most] [] fun r _ => r = vi (countV v most) := by
 have key : ∀ (s : Nat) (v : CV) (most : Int), SizeOf.sizeOf v <= s -> 0 <= most -> most <= 128 -> v.Ok -> Con Tryz.prog 183 [vV v, vi most] [] fun r _ => r = vi (countV v most) := by
  intro s
  induction s with
  | zero => intro v _ hs; cases v; rw [CV.mk.sizeOf_spec] at hs; omega
  | succ s ih =>
   intro v most hs h1 h2 hv
   have hlen := hv.len
   have e0 : countV v most = countVs v.kids most 1 := by cases v; rw [countV]; rfl
   rw [vV_eq, e0]
   refine Con.intro Tryz.func183 rfl Tryz.ntmps183 Tryz.results183 (by kernel_rfl) (by simp) 1 (by simp) ?_
   simp only [go_sem]
   refine LoopK.intro (fun q : Nat × Int => ⟨27, [(1, vi most), (2, .pb 0 0), (5, vi q.2), (9, .sl 0 2 (v.kids.map vV)), (10, vi v.kids.length), (11, vi q.1)], [vi v.n, .sl 0 2 (v.kids.map vV)] :: Rk 2 q.1⟩)
    (fun q => v.kids.length - q.1) (fun q => q.1 <= v.kids.length /\ 1 <= q.2 /\ q.2 <= most + 1 /\ countVs (v.kids.drop q.1) most q.2 = countVs v.kids most 1) (0, 1) ⟨by simp, by simp, by show (1 : Int) <= most + 1; omega, rfl⟩ ?_ ?_
   ·simp only [go_sem]
    exact leB_self _
   rintro ⟨i, n⟩ ⟨hi, hn1, hn2, he⟩
   simp only at hi hn1 hn2 he
   by_cases h : i < v.kids.length
   ·have hg := getvV h
    have hw : IntKind.i64.wrap (i + 1) = i + 1 := wrap_in (by omega) (by omega)
    have hB := Rk_len 2 i
    have n0 := fun L : List (List AV) => app_at0 (L := L) hB
    have s0 := fun (L : List (List AV)) z => app_set0 (L := L) (z := z) hB
    rw [drop_kid h, countVs] at he
    by_cases hm : most < n
    ·rw [if_pos hm] at he
     simp only [go_sem, h, hg, hB, n0, s0, hm]
     rw [he]
    ·rw [if_neg hm] at he
     have hmem : v.kids[i]! ∈ v.kids := mem_bangI h
     have hk := countV_bnd v.kids[i]! (most - n) (by omega)
     have hw2 : IntKind.i64.wrap (most - n) = most - n := wrap_in (by omega) (by omega)
     have hw3 : IntKind.i64.wrap (n + countV v.kids[i]! (most - n)) = n + countV v.kids[i]! (most - n) := wrap_in (by omega) (by omega)
     simp only [go_sem, h, hg, hB, n0, s0, hm, hw2]
     refine CallU.free (ih v.kids[i]! (most - n) (by have := kid_size hmem; omega) (by omega) (by omega) (hv.kid hmem)) (by simp only [go_sem]) (by simp only [go_sem, vV_eq]) ?_
     rintro r bx rfl
     simp only [go_sem, hw, hw3]
     refine roundK.intro (i + 1, n + countV v.kids[i]! (most - n)) ⟨by show i + 1 <= _; omega, by show 1 <= n + _; omega, by show n + _ <= most + 1; omega, he⟩ (by show v.kids.length - (i + 1) < v.kids.length - i; omega) ?_
     simp only [go_sem, Rk_succ]
     exact leB_RkA ⟨leC_any _ 2 rfl, trivial⟩
   ·obtain rfl : i = v.kids.length := by omega
    rw [List.drop_length, countVs] at he
    simp only [go_sem, h, he]
 exact key _ v most (Nat.le_refl _) h1 h2 hv
theorem con_size (v : CV) (hv : v.Ok) : Con Tryz.prog 169 [vV v] [] fun r _ => r = vi (countV v 128) := by
 rw [vV_eq]
 refine Con.intro Tryz.func169 rfl Tryz.ntmps169 Tryz.results169 (by kernel_rfl) (by simp) 1 (by simp) ?_
 simp only [go_sem]
 refine CallU.free (con_count v 128 (by omega) (by omega) hv) (by simp only [go_sem]) (by simp only [go_sem, vV_eq]) ?_
 rintro r bx rfl
 have hb := countV_bnd v 128 (by omega)
 have e : min (countV v 128) 129 = countV v 128 := by omega
 simp only [go_sem, e]
def leafOk (p : Int × Int) (v : CV) : Bool := if p.1 = 1 then decide (0 <= v.n) && decide (v.n <= 1048576) && v.kids.length == 0 else decide (0 <= v.n) && decide (v.n < p.2) && v.kids.length == 0
theorem zero_len {α : Type} (l : List α) : ((l.length : Int) == 0) = (l.length == 0) := by rw [Bool.eq_iff_iff]; simp
theorem con_olabel (v : CV) (s : Int) : Con Tryz.prog 184 [vV v, vi s] [] fun r _ => r = vb (decide (0 <= v.n) && decide (v.n < s) && v.kids.length == 0) := by
 rw [vV_eq]
 refine Con.intro Tryz.func184 rfl Tryz.ntmps184 Tryz.results184 (by kernel_rfl) (by simp) 1 (by simp) ?_
 by_cases h1 : 0 <= v.n
 ·by_cases h2 : v.n < s
  ·simp only [go_sem, h1, h2, zero_len, decide_true, Bool.true_and]
  ·simp only [go_sem, h1, h2, decide_false, Bool.false_and, Bool.and_false]
 ·simp only [go_sem, h1, decide_false, Bool.false_and]
def flatOk (ps : List (Int × Int)) (v : CV) : Bool := v.n == 0 && decide (v.kids.length = ps.length) && (List.range ps.length).all fun i => leafOk ps[i]! v.kids[i]!
theorem con_nan (x : Int) : Con Tryz.prog 175 [vi x] [] fun r _ => r = .sc (.bool false) := by
 refine Con.intro Tryz.func175 rfl Tryz.ntmps175 Tryz.results175 (by kernel_rfl) (by simp) 0 (by simp) ?_
 simp only [go_sem]
theorem con_cmpI (x y : Int) : Con Tryz.prog 143 [vi x, vi y] [] fun r _ => r = vi (ordI x y) := by
 refine Con.intro Tryz.func143 rfl Tryz.ntmps143 Tryz.results143 (by kernel_rfl) (by simp) 0 (by simp) ?_
 simp only [go_sem]
 refine CallU.free (con_nan x) (by simp only [go_sem]) (by simp only [go_sem]) ?_
 rintro r bx rfl
 simp only [go_sem]
 refine CallU.free (con_nan y) (by simp only [go_sem]) (by simp only [go_sem]) ?_
 rintro r bx rfl
 by_cases h1 : x < y
 ·have e : ordI x y = -1 := by unfold ordI; rw [if_pos h1]
  simp only [go_sem, h1, e]
 by_cases h2 : y < x
 ·have e : ordI x y = 1 := by unfold ordI; rw [if_neg h1, if_pos h2]
  simp only [go_sem, h1, h2, e]
 ·have e : ordI x y = 0 := by unfold ordI; rw [if_neg h1, if_neg h2]
  simp only [go_sem, h1, h2, e]
theorem con_or (l : List Int) (hl : l.length <= 9223372036854775807) : Con Tryz.prog 142 [vs 0 l] [] fun r _ => r = vi (orF l) := by
 refine Con.intro Tryz.func142 rfl Tryz.ntmps142 Tryz.results142 (by kernel_rfl) (by simp) 0 (by simp) ?_
 simp only [go_sem]
 refine LoopK.intro (fun i : Nat => ⟨18, [(3, vi 0), (6, vs 0 l), (7, vi l.length), (8, vi i)], []⟩)
  (fun i => l.length - i) (fun i => i <= l.length /\ orF (l.drop i) = orF l) 0 ⟨by omega, rfl⟩ ?_ ?_
 ·simp only [go_sem]
 rintro i ⟨hi, he⟩
 by_cases h : i < l.length
 ·have g1 := getv h
  have hw : IntKind.i64.wrap (i + 1) = i + 1 := wrap_in (by omega) (by omega)
  have hd : l.drop i = l[i]! :: l.drop (i + 1) := by rw [<- List.getElem_cons_drop h, <- getElem!_pos l i h]
  rw [hd] at he
  by_cases h0 : l[i]! = 0
  ·have hb : (l[i]! != 0) = false := by simp [h0]
   simp only [go_sem, h, g1, hb, hw]
   refine roundK.intro (i + 1) ⟨by omega, ?_⟩ (by omega) ?_
   ·rw [<- he]; unfold orF; rw [List.find?_cons_of_neg (by rw [hb]; simp)]
   ·simp only [go_sem]
  ·have hb : (l[i]! != 0) = true := bne_iff_ne.2 h0
   have e : orF l = l[i]! := by rw [<- he]; unfold orF; rw [List.find?_cons_of_pos (by exact hb)]; rfl
   simp only [go_sem, h, g1, hb, e]
 ·have e : orF l = 0 := by rw [<- he, List.drop_of_length_le (by omega)]; rfl
  simp only [go_sem, h, e]
theorem con_cmpfn (k l : List CV) (hk : k.length <= 9223372036854775807) (hl : l.length <= 9223372036854775807)
  (hrec : ∀ x ∈ k, ∀ y ∈ l, Con Tryz.prog 115 [vV x, vV y] [] fun r _ => r = vi (cmpV x y)) :
  Con Tryz.prog 144 [.sl 0 2 (k.map vV), .sl 0 2 (l.map vV), .fn 115 []] [] fun r _ => r = vi (cmpVs k l) := by
 refine Con.intro Tryz.func144 rfl Tryz.ntmps144 Tryz.results144 (by kernel_rfl) (by simp) 0 (by simp) ?_
 simp only [go_sem]
 refine LoopK.intro (fun i : Nat => ⟨39, [(0, .sl 0 2 (k.map vV)), (1, .sl 0 2 (l.map vV)), (2, .fn 115 []), (11, .sl 0 2 (k.map vV)), (12, vi k.length), (13, vi i)], Rk 2 (2 * i)⟩)
  (fun i => k.length - i) (fun i => i <= k.length /\ i <= l.length /\ cmpVs (k.drop i) (l.drop i) = cmpVs k l) 0 ⟨by omega, by omega, rfl⟩ ?_ ?_
 ·simp only [go_sem]
  first | trivial | exact leB_self _
 rintro i ⟨hi, hi2, he⟩
 by_cases h : i < k.length
 case neg =>
  have hie : i = k.length := by omega
  subst hie
  rw [List.drop_length] at he
  by_cases h2 : k.length < l.length
  ·have e : cmpVs k l = -1 := by
    rw [<- he]
    cases hd : l.drop k.length with
    | nil => have := congrArg List.length hd; rw [List.length_drop] at this; simp at this; omega
    | cons y t => rfl
   simp only [go_sem, h, h2, e]
  ·have e : cmpVs k l = 0 := by rw [<- he, List.drop_of_length_le (by omega)]; rfl
   simp only [go_sem, h, h2, e]
 have g1 := getvV h
 have hw : IntKind.i64.wrap (i + 1) = i + 1 := wrap_in (by omega) (by omega)
 have hB := Rk_len 2 (2 * i)
 have d1 : k.drop i = k[i]! :: k.drop (i + 1) := by rw [<- List.getElem_cons_drop h, <- getElem!_pos k i h]
 rw [d1] at he
 have n0 := fun L : List (List AV) => app_at0 (L := L) hB
 have n1 := fun L : List (List AV) => app_at1 (L := L) hB
 have s0 := fun (L : List (List AV)) z => app_set0 (L := L) (z := z) hB
 have s1 := fun (L : List (List AV)) z => app_set1 (L := L) (z := z) hB
 by_cases h2 : i < l.length
 case neg =>
  have e : cmpVs k l = 1 := by rw [<- he, show l.drop i = [] from List.drop_of_length_le (by omega)]; rfl
  have h3 : (l.length : Int) <= i := by omega
  simp only [go_sem, h, g1, hB, n0, s0, h3, e]
 have d2 : l.drop i = l[i]! :: l.drop (i + 1) := by rw [<- List.getElem_cons_drop h2, <- getElem!_pos l i h2]
 rw [d2, cmpVs] at he
 have g2 := getvV h2
 have h3 : ¬ ((l.length : Int) <= i) := by omega
 have hc := hrec _ (mem_bangI h) _ (mem_bangI h2)
 rw [vV_eq k[i]!, vV_eq l[i]!] at hc
 simp only [go_sem, h, h2, g1, g2, hB, n0, s0, n1, s1, h3, List.append_assoc, List.length_append, List.length_cons, List.length_nil]
 refine CallU.free hc (by simp only [go_sem]) (by simp only [go_sem]) ?_
 rintro r bx rfl
 by_cases h4 : cmpV k[i]! l[i]! = 0
 ·have h5 : (cmpV k[i]! l[i]! != 0) = false := by rw [h4]; rfl
  rw [if_neg (fun h' => h' h4)] at he
  simp only [go_sem, h5, hw]
  refine roundK.intro (i + 1) ⟨by omega, by omega, he⟩ (by omega) ?_
  simp only [go_sem, show 2 * (i + 1) = 2 * i + 1 + 1 by omega, Rk_succ2]
 ·have h5 : (cmpV k[i]! l[i]! != 0) = true := bne_iff_ne.2 h4
  rw [if_pos h4] at he
  rw [he] at h5
  simp only [go_sem, he, h5]
theorem con_compare : ∀ (N : Nat) (a b : CV), SizeOf.sizeOf a <= N -> a.Ok -> b.Ok -> Con Tryz.prog 115 [vV a, vV b] [] fun r _ => r = vi (cmpV a b) := by
 intro N
 induction N with
 | zero => intro a b hN; cases a; simp at hN
 | succ N ih =>
 intro a b hN ha hb
 have hc := con_cmpfn a.kids b.kids ha.len hb.len fun x hx y hy => ih x y (by have := kid_size hx; omega) (ha.kid hx) (hb.kid hy)
 have hor := or_cmp a b
 rw [vV_eq a, vV_eq b]
 refine Con.intro Tryz.func115 rfl Tryz.ntmps115 Tryz.results115 (by kernel_rfl) (by simp) 0 (by simp) ?_
 simp only [go_sem]
 refine DrawK.walk 18 mixed (by kernel_rfl) ?_
 simp only [go_sem]
 refine CallY.mk (con_cmpI a.n b.n) (by simp only [go_sem]) (by simp only [go_sem]) (.inl rfl) ?_
 simp only [go_sem]
 refine CallY.mk (con_cmpI a.kids.length b.kids.length) (by simp only [go_sem]) (by simp only [go_sem]) (.inl rfl) ?_
 simp only [go_sem]
 refine CallY.mk hc (by simp only [go_sem]) (by simp only [go_sem]) (.inl rfl) ?_
 simp only [go_sem]
 refine CallU.flat (con_or [ordI a.n b.n, ordI a.kids.length b.kids.length, cmpVs a.kids b.kids] (by simp)) (by simp only [go_sem]) (by simp only [go_sem]) ?_
 rintro r bx rfl
 simp only [go_sem, hor]
end Go.AM
