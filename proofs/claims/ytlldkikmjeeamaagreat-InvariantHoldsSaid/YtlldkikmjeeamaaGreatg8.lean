/-
  Walks: a model's numbers and ranks.
  Walks: a rule is right.
  Walks: a counter model's rule is right.
  Walks: types; flat types are right.
  Walks: values of flat types; a counter model is valid.
  Walks: a valid counter model is found valid.
  Walks: valid atoms, whether they hold, whether they are closed.
  Walks: whether an atom holds, and whether it is closed.
  Walks: Holds, Closed, Excludes.
  Walks: the reference of models: numbers and names.
  Walks: the reference of models: keywords, all names, rules.
  Walks: the reference of models: rules, the type of configurations.
  Walks: the reference of models: the type of configurations, valid types.
  Walks: the reference of models: right configurations, right models.
  Walks: the reference of chapter 32: what it computes with.
  Walks: the reference's steps of counter models: which rules can be used.
-/
import Derived.Test.YtlldkikmjeeamaaGreatg7
/-! ## CmL -/
namespace Go.AM
open Go Go.Proofs Go.RowKit

/-- the limits of a kind: places, letters, levels, age, each from .. to .. -/
def limF (k : Int) : List Int :=
  if k = 1 ∨ k = 6 then [1, 6, 0, 0, 0, 0, 0, 0] else if k = 2 ∨ k = 3 then [1, 2, 1, 6, 0, 0, 0, 0] else if k = 4 then [0, 0, 1, 6, 1, 2, 0, 0] else [1, 6, 0, 0, 0, 0, 0, 3]
abbrev lim (k : Int) (j : Nat) : Int := (limF k).getD j 0
def limV (l : List Int) : AV := .ag [vi (l.getD 0 0), vi (l.getD 1 0), vi (l.getD 2 0), vi (l.getD 3 0), vi (l.getD 4 0), vi (l.getD 5 0), vi (l.getD 6 0), vi (l.getD 7 0)]
set_option maxRecDepth 100000 in
theorem con_of (k : Int) : Con Tryz.prog 203 [vi k] [] fun r _ => r = limV (limF k) := by
  refine Con.intro Tryz.func203 rfl Tryz.ntmps203 Tryz.results203 (by kernel_rfl) (by simp) 0 (by simp) ?_
  by_cases k1 : k = 1
  · subst k1; simp only [go_sem]; rfl
  have b1 : (k == 1) = false := beq_eq_false_iff_ne.2 k1
  by_cases k6 : k = 6
  · subst k6; simp only [go_sem]; rfl
  have b6 : (k == 6) = false := beq_eq_false_iff_ne.2 k6
  by_cases k2 : k = 2
  · subst k2; simp only [go_sem]; rfl
  have b2 : (k == 2) = false := beq_eq_false_iff_ne.2 k2
  by_cases k3 : k = 3
  · subst k3; simp only [go_sem]; rfl
  have b3 : (k == 3) = false := beq_eq_false_iff_ne.2 k3
  by_cases k4 : k = 4
  · subst k4; simp only [go_sem]; rfl
  have b4 : (k == 4) = false := beq_eq_false_iff_ne.2 k4
  have e : limF k = [1, 6, 0, 0, 0, 0, 0, 3] := by unfold limF; rw [if_neg (by omega), if_neg (by omega), if_neg (by omega)]
  rw [e]
  simp only [go_sem, b1, b6, b2, b3, b4]
  rfl
/-- right numbers of everything -/
def sizedB (m : MD) : Bool := betweenB m.states.length 1 8 && decide (m.rules.length ≤ 12) && betweenB m.places.length (lim m.kind 0) (lim m.kind 1) && betweenB m.letters.length (lim m.kind 2) (lim m.kind 3) && betweenB m.levels (lim m.kind 4) (lim m.kind 5) && betweenB m.age (lim m.kind 6) (lim m.kind 7)
set_option maxRecDepth 100000 in
set_option maxHeartbeats 4000000 in
theorem con_sized (m : MD) : Con Tryz.prog 163 [vM m] [] fun r _ => r = vb (sizedB m) := by
  refine Con.intro Tryz.func163 rfl Tryz.ntmps163 Tryz.results163 (by kernel_rfl) (by simp) 2 (by simp) ?_
  simp only [go_sem]
  refine CallU.free (con_of m.kind) (by simp only [go_sem]) (by simp only [go_sem]) ?_
  rintro r bx rfl
  simp only [go_sem, limV]
  refine CallU.free (con_between m.states.length 1 8) (by simp only [go_sem]) (by simp only [go_sem]) ?_
  rintro r bx rfl
  unfold sizedB
  cases h1 : betweenB m.states.length 1 8
  · simp only [go_sem, Bool.false_and]
  by_cases h2 : (m.rules.length : Int) ≤ 12
  case neg =>
    have h2' : ¬ m.rules.length ≤ 12 := by omega
    simp only [go_sem, h2, h2', decide_false, Bool.and_false, Bool.false_and]
  have h2' : m.rules.length ≤ 12 := by omega
  simp only [go_sem, h2, decide_true]
  refine CallU.free (con_between m.places.length (lim m.kind 0) (lim m.kind 1)) (by simp only [go_sem]) (by simp only [go_sem]) ?_
  rintro r bx rfl
  cases h3 : betweenB m.places.length (lim m.kind 0) (lim m.kind 1)
  · simp only [go_sem, Bool.false_and]
  simp only [go_sem]
  refine CallU.free (con_between m.letters.length (lim m.kind 2) (lim m.kind 3)) (by simp only [go_sem]) (by simp only [go_sem]) ?_
  rintro r bx rfl
  cases h4 : betweenB m.letters.length (lim m.kind 2) (lim m.kind 3)
  · simp only [go_sem, Bool.false_and]
  simp only [go_sem]
  refine CallU.free (con_between m.levels (lim m.kind 4) (lim m.kind 5)) (by simp only [go_sem]) (by simp only [go_sem]) ?_
  rintro r bx rfl
  cases h5 : betweenB m.levels (lim m.kind 4) (lim m.kind 5)
  · simp only [go_sem, Bool.false_and]
  simp only [go_sem]
  refine CallU.free (con_between m.age (lim m.kind 6) (lim m.kind 7)) (by simp only [go_sem]) (by simp only [go_sem]) ?_
  rintro r bx rfl
  simp only [go_sem, h2', decide_true, Bool.true_and]

/-- ranks -/
def rankedB (m : MD) : Bool := if m.kind = 3 then decide (m.ranks.length = m.letters.length) && m.ranks.all fun r => betweenB r 0 5 else m.ranks.length == 0
set_option maxRecDepth 100000 in
theorem con_ranked1 (x : Int) : Con Tryz.prog 204 [vi x] [] fun r _ => r = .sc (.bool (!betweenB x 0 5)) := by
  refine Con.intro Tryz.func204 rfl Tryz.ntmps204 Tryz.results204 (by kernel_rfl) (by simp) 0 (by simp) ?_
  simp only [go_sem]
  refine CallU.free (con_between x 0 5) (by simp only [go_sem]) (by simp only [go_sem]) ?_
  rintro r bx rfl
  simp only [go_sem]
set_option maxRecDepth 100000 in
theorem con_ranked (m : MD) (h1 : m.ranks.length ≤ 9223372036854775806) : Con Tryz.prog 164 [vM m] [] fun r _ => r = vb (rankedB m) := by
  refine Con.intro Tryz.func164 rfl Tryz.ntmps164 Tryz.results164 (by kernel_rfl) (by simp) 1 (by simp) ?_
  unfold rankedB
  by_cases k3 : m.kind = 3
  case neg =>
    have b3 : (m.kind != 3) = true := bne_iff_ne.2 k3
    rw [if_neg k3]
    simp only [go_sem, b3]
    congr 2
    rw [Bool.eq_iff_iff]; simp
  rw [if_pos k3]
  have b3 : (m.kind != 3) = false := by rw [k3]; rfl
  by_cases hl : m.ranks.length = m.letters.length
  case neg =>
    have hl' : ((m.ranks.length : Int) == (m.letters.length : Int)) = false := beq_eq_false_iff_ne.2 (by omega)
    simp only [go_sem, b3, hl', hl, decide_false, Bool.false_and]
  have hl' : ((m.ranks.length : Int) == (m.letters.length : Int)) = true := beq_iff_eq.2 (by omega)
  simp only [go_sem, b3, hl']
  refine CallU.free (con_containsInt m.ranks 204 [] (fun r => !betweenB r 0 5) rfl (fun x _ => con_ranked1 x) h1) (by simp only [go_sem]) (by simp only [go_sem]) ?_
  rintro r bx rfl
  simp only [go_sem, any_not, hl, decide_true, Bool.true_and]
end Go.AM

/-! ## CmM -/
namespace Go.AM
open Go Go.Proofs Go.RowKit

set_option maxRecDepth 100000 in
theorem con_changes1 (x : Int) : Con Tryz.prog 239 [vi x] [] fun r _ => r = .sc (.bool (betweenB x 0 16)) := by
  refine Con.intro Tryz.func239 rfl Tryz.ntmps239 Tryz.results239 (by kernel_rfl) (by simp) 0 (by simp) ?_
  simp only [go_sem]
  refine CallU.free (con_between x 0 16) (by simp only [go_sem]) (by simp only [go_sem]) ?_
  rintro r bx rfl
  simp only [go_sem]
/-- the lists are not too long -/
structure RD.Len (r : RD) : Prop where
  need : r.need.length ≤ 9223372036854775806
  give : r.give.length ≤ 9223372036854775806
  move : r.move.length ≤ 9223372036854775806
  path : r.path.length ≤ 9223372036854775806
  next : r.next.length ≤ 9223372036854775806
  takes : r.takes.length ≤ 9223372036854775806
  makes : r.makes.length ≤ 9223372036854775806
set_option maxRecDepth 100000 in
set_option maxHeartbeats 1000000 in
theorem con_changes (m : MD) (r : RD) (hl : r.Len) : Con Tryz.prog 210 [vM m, vRule r] [] fun x _ => x = vb (changesB m.places.length r) := by
  refine Con.intro Tryz.func210 rfl Tryz.ntmps210 Tryz.results210 (by kernel_rfl) (by simp) 2 (by simp) ?_
  unfold changesB
  by_cases h1 : r.need.length = m.places.length
  case neg =>
    have h1' : ((r.need.length : Int) == (m.places.length : Int)) = false := beq_eq_false_iff_ne.2 (by omega)
    simp only [go_sem, h1', h1, decide_false, Bool.false_and]
  have h1' : ((r.need.length : Int) == (m.places.length : Int)) = true := beq_iff_eq.2 (by omega)
  by_cases h2 : r.give.length = m.places.length
  case neg =>
    have h2' : ((r.give.length : Int) == (m.places.length : Int)) = false := beq_eq_false_iff_ne.2 (by omega)
    simp only [go_sem, h1', h2', h2, decide_false, Bool.false_and, Bool.and_false]
  have h2' : ((r.give.length : Int) == (m.places.length : Int)) = true := beq_iff_eq.2 (by omega)
  simp only [go_sem, h1', h2']
  refine CallU.free (con_all r.need 239 [] (fun x => betweenB x 0 16) rfl (fun x _ => con_changes1 x) hl.need) (by simp only [go_sem]) (by simp only [go_sem]) ?_
  rintro x bx rfl
  change _ ∧ _
  cases h3 : smallB r.need
  · have h3' : (r.need.all fun x => betweenB x 0 16) = false := h3
    simp only [go_sem, h3', Bool.false_and, Bool.and_false]
  have h3' : (r.need.all fun x => betweenB x 0 16) = true := h3
  simp only [go_sem, h3']
  refine CallU.free (con_all r.give 239 [] (fun x => betweenB x 0 16) rfl (fun x _ => con_changes1 x) hl.give) (by simp only [go_sem]) (by simp only [go_sem]) ?_
  rintro x bx rfl
  simp only [go_sem, h1, h2, decide_true, Bool.true_and]
  rfl
set_option maxRecDepth 100000 in
theorem con_moves1 (x : Int) (n : Nat) (hn : n ≤ 1000000) : Con Tryz.prog 240 [vi x, .fp [vi n] 0] [] fun r _ => r = .sc (.bool (betweenB x (-1) (n - 1))) := by
  refine Con.intro Tryz.func240 rfl Tryz.ntmps240 Tryz.results240 (by kernel_rfl) (by simp) 0 (by simp) ?_
  have hw : IntKind.i64.wrap ((n : Int) - 1) = n - 1 := wrap_in (by omega) (by omega)
  simp only [go_sem, hw]
  refine CallU.free (con_between x (-1) (n - 1)) (by simp only [go_sem]) (by simp only [go_sem]) ?_
  rintro r bx rfl
  simp only [go_sem]
set_option maxRecDepth 100000 in
set_option maxHeartbeats 1000000 in
theorem con_moves (m : MD) (r : RD) (hl : r.Len) (hm : m.places.length ≤ 1000000) : Con Tryz.prog 211 [vM m, vRule r] [] fun x _ => x = vb (movesB m.places.length r) := by
  refine Con.intro Tryz.func211 rfl Tryz.ntmps211 Tryz.results211 (by kernel_rfl) (by simp) 3 (by simp) ?_
  unfold movesB
  by_cases h1 : r.move.length = 0
  · have h1' : ((r.move.length : Int) == 0) = true := beq_iff_eq.2 (by omega)
    simp only [go_sem, h1]
    all_goals simp
  have h1' : ((r.move.length : Int) == 0) = false := beq_eq_false_iff_ne.2 (by omega)
  have h1n : (r.move.length == 0) = false := beq_eq_false_iff_ne.2 h1
  by_cases h2 : r.move.length = m.places.length
  case neg =>
    have h2' : ((r.move.length : Int) == (m.places.length : Int)) = false := beq_eq_false_iff_ne.2 (by omega)
    simp only [go_sem, h1', h2', h1n, h2, decide_false, Bool.false_and, Bool.or_false]
  have h2' : ((r.move.length : Int) == (m.places.length : Int)) = true := beq_iff_eq.2 (by omega)
  simp only [go_sem, h1', h2']
  refine CallU.look (con_all r.move 240 [.fp [vi m.places.length] 0] (fun x => betweenB x (-1) (m.places.length - 1)) (by simp only [go_sem]) (fun x _ => con_moves1 x m.places.length hm) hl.move) (by simp only [go_sem]) (by simp only [go_sem]) ?_
  rintro x bx rfl
  simp only [go_sem]
  rw [h1n, decide_eq_true h2]; simp

/-! ### equal rules -/
theorem getTake {l : List (Int × Int × Int)} {i : Nat} (h : i < l.length) : (l.map vTake)[i]? = some (.ag [.sc (.int .i64 l[i]!.1), .sc (.int .i64 l[i]!.2.1), .sc (.int .i64 l[i]!.2.2)]) := by
  rw [List.getElem?_map, List.getElem?_eq_getElem h, getElem!_pos l i h, Option.map_some]; rfl
theorem eqA_stop {α : Type} [BEq α] [LawfulBEq α] [Inhabited α] {a b : List α} {i : Nat} (h : a[i]! ≠ b[i]!) : (a == b) = false := by
  rw [beq_eq_false_iff_ne]; intro e; rw [e] at h; exact h rfl
theorem eqA_all {α : Type} [BEq α] [LawfulBEq α] [Inhabited α] {a b : List α} (hl : a.length = b.length) (h : ∀ j, j < a.length → a[j]! = b[j]!) : (a == b) = true := by
  rw [beq_iff_eq]
  apply List.ext_getElem hl
  intro i h1 h2
  have := h i h1
  rw [getElem!_pos a i h1, getElem!_pos b i h2] at this; exact this
theorem eqA_len {α : Type} [BEq α] [LawfulBEq α] {a b : List α} (h : a.length ≠ b.length) : (a == b) = false := by
  rw [beq_eq_false_iff_ne]; intro e; rw [e] at h; exact h rfl
@[go_sem] theorem flat_173 : flatF Tryz.prog 173 = some [(0, true), (1, true), (2, true)] := by kernel_rfl
set_option maxRecDepth 100000 in
theorem con_equalTake (a b : List (Int × Int × Int)) (hl : a.length ≤ 9223372036854775806) : Con Tryz.prog 247 [.sl 0 3 (a.map vTake), .sl 0 3 (b.map vTake)] [] fun r _ => r = .sc (.bool (a == b)) := by
  refine Con.intro Tryz.func247 rfl Tryz.ntmps247 Tryz.results247 (by kernel_rfl) (by simp) 0 (by simp) ?_
  by_cases he : a.length = b.length
  case neg =>
    have he' : ((a.length : Int) != (b.length : Int)) = true := bne_iff_ne.2 (by omega)
    simp only [go_sem, he', eqA_len he]
  simp only [go_sem, he]
  refine LoopK.intro (fun i : Nat => ⟨26, [(0, .sl 0 3 (a.map vTake)), (1, .sl 0 3 (b.map vTake)), (12, vi a.length), (13, vi i)], []⟩)
    (fun i => a.length - i) (fun i => i ≤ a.length ∧ ∀ j, j < i → a[j]! = b[j]!) 0 ⟨by omega, fun j hj => by omega⟩ ?_ ?_
  · simp only [go_sem, he]
    all_goals exact leV_refl _
  rintro i ⟨hi, hb⟩
  by_cases h : i < a.length
  · have h2 : i < b.length := by omega
    have g1 := getTake h
    have g2 := getTake h2
    have hw : IntKind.i64.wrap (i + 1) = i + 1 := wrap_in (by omega) (by omega)
    simp only [go_sem, h]
    refine DrawK.walk 9 mixed (by kernel_rfl) ?_
    by_cases hp : a[i]! = b[i]!
    · simp only [go_sem, h, h2, g1, g2, hp, hw]
      refine roundK.intro (i + 1) ⟨by omega, fun j hj => ?_⟩ (by omega) ?_
      · by_cases hji : j = i
        · subst hji; exact hp
        · exact hb j (by omega)
      · simp only [go_sem]
    · have hp' : (a[i]!.fst == b[i]!.fst && (a[i]!.snd.fst == b[i]!.snd.fst && a[i]!.snd.snd == b[i]!.snd.snd)) = false := by
        rw [Bool.eq_false_iff]
        intro hh
        simp only [Bool.and_eq_true, beq_iff_eq] at hh
        exact hp (Prod.ext hh.1 (Prod.ext hh.2.1 hh.2.2))
      simp only [go_sem, h, h2, g1, g2, hp']
      rw [eqA_stop hp]
  · simp only [go_sem, h]
    rw [eqA_all he (fun j hj => hb j (by omega))]
set_option maxRecDepth 100000 in
set_option maxHeartbeats 2000000 in
theorem con_same_self (a : RD) (hl : a.Len) : Con Tryz.prog 217 [vRule a, vRule a] [] fun x _ => x = vb true := by
  refine Con.intro Tryz.func217 rfl Tryz.ntmps217 Tryz.results217 (by kernel_rfl) (by simp) 2 (by simp) ?_
  dsimp only [List.append]
  simp only [go_sem, beq_self_eq_true]
  refine CallU.free (con_equalInt a.need a.need (hl.need)) (by simp only [go_sem]) (by simp only [go_sem]) ?_
  rintro r bx rfl
  simp only [go_sem, beq_self_eq_true]
  refine CallU.free (con_equalInt a.give a.give (hl.give)) (by simp only [go_sem]) (by simp only [go_sem]) ?_
  rintro r bx rfl
  simp only [go_sem, beq_self_eq_true]
  refine CallU.free (con_equalInt a.move a.move (hl.move)) (by simp only [go_sem]) (by simp only [go_sem]) ?_
  rintro r bx rfl
  simp only [go_sem, beq_self_eq_true]
  refine CallU.free (con_equalInt a.path a.path (hl.path)) (by simp only [go_sem]) (by simp only [go_sem]) ?_
  rintro r bx rfl
  simp only [go_sem, beq_self_eq_true]
  refine CallU.free (con_equalInt a.next a.next (hl.next)) (by simp only [go_sem]) (by simp only [go_sem]) ?_
  rintro r bx rfl
  simp only [go_sem, beq_self_eq_true]
  refine CallU.free (con_equalTake a.takes a.takes (hl.takes)) (by simp only [go_sem]) (by simp only [go_sem]) ?_
  rintro r bx rfl
  simp only [go_sem, beq_self_eq_true]
  refine CallU.free (con_equalInt a.makes a.makes (hl.makes)) (by simp only [go_sem]) (by simp only [go_sem]) ?_
  rintro r bx rfl
  simp only [go_sem, beq_self_eq_true]
end Go.AM

/-! ## CmN -/
namespace Go.AM
open Go Go.Proofs Go.RowKit

theorem Con.leA {P : Program} {f : FuncId} {args args' : List AV} {bx : List (List AV)} {post : AV → List (List AV) → Prop} (h : Con P f args bx post) (ha : leC args' args) : Con P f args' bx post :=
  h.args fun _ _ _ hv => leC_pw ha hv
/-- all orders of a drawn region end in a frame that says no more than τ: what follows is walked from τ, once -/
theorem DrawK.meet {P : Program} {ops : Array Oper} {σ : St} {K : St → Prop} (τ : St) (h : DrawK P ops σ fun σ' => σ'.le τ) (hk : K τ) : DrawK P ops σ K :=
  fun G0 w0 G a w id Q t hs hQ => h G0 w0 G a w id Q t hs fun _ G' a' w' hl h' => hQ τ G' a' w' hk (h'.le hl)
theorem andK_mk {p q : Prop} (h1 : p) (h2 : q) : andK p q := ⟨h1, h2⟩
def rightTree : Tr := .front 0 (.front 2 (.front 4 (.alt (.one 1 (.front 6 (.alt (.one 3 (.alt (.one 5 (.one 7 (.front 8 (.one 9 (.front 10 (.one 11 .done)))))) (.one 7 (.front 8 (.alt (.one 5 (.one 9 (.front 10 (.one 11 .done)))) (.one 9 (.one 5 (.front 10 (.one 11 .done))))))))) (.alt (.one 5 (.alt (.one 3 (.one 7 (.front 8 (.one 9 (.front 10 (.one 11 .done)))))) (.one 7 (.one 3 (.front 8 (.one 9 (.front 10 (.one 11 .done)))))))) (.one 7 (.alt (.one 3 (.front 8 (.alt (.one 5 (.one 9 (.front 10 (.one 11 .done)))) (.one 9 (.one 5 (.front 10 (.one 11 .done))))))) (.one 5 (.one 3 (.front 8 (.one 9 (.front 10 (.one 11 .done)))))))))))) (.alt (.one 3 (.alt (.one 1 (.front 6 (.alt (.one 5 (.one 7 (.front 8 (.one 9 (.front 10 (.one 11 .done)))))) (.one 7 (.front 8 (.alt (.one 5 (.one 9 (.front 10 (.one 11 .done)))) (.one 9 (.one 5 (.front 10 (.one 11 .done)))))))))) (.one 5 (.one 1 (.front 6 (.one 7 (.front 8 (.one 9 (.front 10 (.one 11 .done)))))))))) (.one 5 (.alt (.one 1 (.front 6 (.alt (.one 3 (.one 7 (.front 8 (.one 9 (.front 10 (.one 11 .done)))))) (.one 7 (.one 3 (.front 8 (.one 9 (.front 10 (.one 11 .done))))))))) (.one 3 (.one 1 (.front 6 (.one 7 (.front 8 (.one 9 (.front 10 (.one 11 .done))))))))))))))
theorem nil_of {α : Type} {l : List α} (h : (l.length == 0) = true) : l = [] := List.eq_nil_of_length_eq_zero (by simpa using h)
theorem bare_of {r : RD} (h : bareB r = true) : r = ⟨r.name, r.src, r.dst, r.need, r.give, r.move, 0, 0, 0, [], [], [], [], 0⟩ := by
  unfold bareB at h
  simp only [Bool.and_eq_true, beq_iff_eq] at h
  obtain ⟨⟨⟨⟨⟨⟨⟨h1, h2⟩, h3⟩, h4⟩, h5⟩, h6⟩, h7⟩, h8⟩ := h
  obtain ⟨a, b, c, d, e, f, g, h, i, j, k, l, m, n⟩ := r
  simp only at h1 h2 h3 h4 h5 h6 h7 h8
  rw [h1, h2, h3, List.eq_nil_of_length_eq_zero h4, List.eq_nil_of_length_eq_zero h5, List.eq_nil_of_length_eq_zero h6, List.eq_nil_of_length_eq_zero h7, h8]
abbrev bareR (nm : ByteArray) (s d : Int) (nd gv mv : List Int) : RD := ⟨nm, s, d, nd, gv, mv, 0, 0, 0, [], [], [], [], 0⟩
theorem con_same_only (nm : ByteArray) (s d : Int) (nd gv mv : List Int) (hl : (bareR nm s d nd gv mv).Len) : Con Tryz.prog 217 [vRule (bareR nm s d nd gv mv), .ag [vStr nm, vi s, vi d, vs 0 nd, vs 0 gv, vs 0 mv, vi 0, vi 0, vi 0, .nil, .nil, .nil, .nil, vi 0]] [] fun x _ => x = vb true :=
  (con_same_self _ hl).leA ⟨leV_refl _, leV_ag ⟨leV_refl _, leV_refl _, leV_refl _, leV_refl _, leV_refl _, leV_refl _, leV_refl _, leV_refl _, leV_refl _, leV_nil 0 1, leV_nil 0 1, leV_nil 0 3, leV_nil 0 1, leV_refl _, trivial⟩, trivial⟩
set_option maxRecDepth 100000 in
set_option maxHeartbeats 1000000 in
theorem con_right (m : MD) (r : RD) (hk : m.kind = 1) (hs : m.states.length ≤ 1000000) (hp : m.places.length ≤ 1000000) (hl : r.Len) (hr : ruleB m.states.length m.places.length r = true) (hb : bareB r = true) : Con Tryz.prog 168 [vM m, vRule r] [] fun x _ => x = vb true := by
  obtain ⟨nm, s, d, nd, gv, mv, rfl⟩ : ∃ nm s d nd gv mv, r = bareR nm s d nd gv mv := ⟨_, _, _, _, _, _, bare_of hb⟩
  refine Con.intro Tryz.func168 rfl Tryz.ntmps168 Tryz.results168 (by kernel_rfl) (by simp) 3 (by simp) ?_
  unfold ruleB indexB at hr
  simp only [Bool.and_eq_true] at hr
  obtain ⟨⟨⟨h1, h2⟩, h3⟩, h4⟩ := hr
  have h1 : (decide (0 ≤ d) && decide (d < (m.states.length : Int))) = true := by rw [Bool.and_eq_true]; exact h1
  have h2 : (decide (0 ≤ s) && decide (s < (m.states.length : Int))) = true := by rw [Bool.and_eq_true]; exact h2
  simp only [go_sem, List.map_nil]
  refine CallU.free (con_index d m.states.length (by omega) (by omega)) (by simp only [go_sem]) (by simp only [go_sem]) ?_
  rintro x bx rfl
  simp only [go_sem, h1]
  refine CallU.free (con_index s m.states.length (by omega) (by omega)) (by simp only [go_sem]) (by simp only [go_sem]) ?_
  rintro x bx rfl
  simp only [go_sem, h2, hk]
  refine DrawK.meet ⟨142, [(2, .pb 0 0), (3, .pb 1 0), (4, vb false), (6, .pb 2 0)], [cM m, [vStr nm, vi s, vi d, vs 0 nd, vs 0 gv, vs 0 mv, vi 0, vi 0, vi 0, vs 0 [], vs 0 [], .sl 0 3 [], vs 0 [], vi 0], [vStr nm, vi s, vi d, vs 0 nd, vs 0 gv, vs 0 mv, vi 0, vi 0, vi 0, .nil, .nil, .nil, .nil, vi 0]]⟩ ?_ ?_
  · refine DrawK.tree rightTree mixed (by kernel_rfl) ?_
    unfold rightTree
    repeat' (first | with_reducible apply andK_mk | simp only [go_sem, hk, List.map_nil])
  · simp only [go_sem]
    refine CallU.free (con_changes m (bareR nm s d nd gv mv) hl) (by simp only [go_sem]) (by simp only [go_sem, hk, List.map_nil]) ?_
    rintro x bx rfl
    simp only [go_sem, h3]
    refine CallU.free (con_moves m (bareR nm s d nd gv mv) hl hp) (by simp only [go_sem]) (by simp only [go_sem, hk, List.map_nil]) ?_
    rintro x bx rfl
    simp only [go_sem, h4]
    refine CallU.free (con_same_only nm s d nd gv mv hl) (by simp only [go_sem]) (by simp only [go_sem, List.map_nil]) ?_
    rintro x bx rfl
    simp only [go_sem]
set_option maxRecDepth 100000 in
theorem con_check1 (m : MD) (r : RD) (hk : m.kind = 1) (hs : m.states.length ≤ 1000000) (hp : m.places.length ≤ 1000000) (hl : r.Len) (hr : ruleB m.states.length m.places.length r = true) (hb : bareB r = true) : Con Tryz.prog 167 [vRule r, .fp (cM m) 0] [] fun x _ => x = .sc (.bool false) := by
  refine Con.intro Tryz.func167 rfl Tryz.ntmps167 Tryz.results167 (by kernel_rfl) (by simp) 1 (by simp) ?_
  simp only [go_sem]
  refine CallU.free (con_right m r hk hs hp hl hr hb) (by simp only [go_sem]) (by simp only [go_sem]) ?_
  rintro x bx rfl
  simp only [go_sem]
end Go.AM

/-! ## CmO -/
namespace Go.AM
open Go Go.Proofs Go.RowKit

/-- a type without parts: its kind, its size -/
def vPT (p : Int × Int) : AV := .ag [vi p.1, vi p.2, .nil, .nil]
/-- a tuple of a label and numbers -/
def partsP (ns np : Nat) : List (Int × Int) := (2, (ns : Int)) :: List.replicate np (1, 0)
def flatT (t : Nat) (ps : List (Int × Int)) : AV := .ag [vi 3, vi 0, .nil, .sl t 4 (ps.map vPT)]
attribute [go_sem] vPT flatT
theorem parts_len (ns np : Nat) : (partsP ns np).length = np + 1 := by simp [partsP]
theorem parts_succ (ns i : Nat) : partsP ns (i + 1) = partsP ns i ++ [(1, 0)] := by unfold partsP; rw [List.replicate_succ']; rfl
theorem getPT {l : List (Int × Int)} {i : Nat} (h : i < l.length) : (l.map vPT)[i]? = some (.ag [.sc (.int .i64 l[i]!.1), .sc (.int .i64 l[i]!.2), .nil, .nil]) := by
  rw [List.getElem?_map, List.getElem?_eq_getElem h, getElem!_pos l i h, Option.map_some]; rfl
set_option maxRecDepth 100000 in
theorem con_label (n : Nat) : Con Tryz.prog 197 [vi n] [] fun r _ => r = vPT (2, n) := by
  refine Con.intro Tryz.func197 rfl Tryz.ntmps197 Tryz.results197 (by kernel_rfl) (by simp) 0 (by simp) ?_
  simp only [go_sem]
set_option maxRecDepth 100000 in
set_option maxHeartbeats 1000000 in
theorem con_typed (m : MD) (hk : m.kind = 1) (hp : m.places.length ≤ 1000000) : Con Tryz.prog 157 [vM m] [] fun r _ => r = flatT 2 (partsP m.states.length m.places.length) := by
  refine Con.intro Tryz.func157 rfl Tryz.ntmps157 Tryz.results157 (by kernel_rfl) (by simp) 0 (by simp) ?_
  simp only [go_sem, hk]
  refine CallU.free (con_label m.states.length) (by simp only [go_sem]) (by simp only [go_sem]) ?_
  rintro r bx rfl
  simp only [go_sem]
  refine LoopK.intro (fun i : Nat => ⟨70, [(1, .pb 0 0), (2, .pb 1 0), (3, .sl 640 4 ((partsP m.states.length i).map vPT)), (14, vi m.places.length), (15, vi i)], cM m :: [.any, .any, .any, .any] :: Rk 4 i⟩)
    (fun i => m.places.length - i) (fun i => i ≤ m.places.length) 0 (by omega) ?_ ?_
  · simp only [go_sem, hk, partsP, List.replicate_zero, List.map_cons, List.map_nil]
    exact leB_self _
  rintro i hi
  by_cases h : i < m.places.length
  · have hw : IntKind.i64.wrap (i + 1) = i + 1 := wrap_in (by omega) (by omega)
    have hB := Rk_len 4 i
    have n0 := fun L : List (List AV) => app_at0 (L := L) hB
    have s0 := fun (L : List (List AV)) z => app_set0 (L := L) (z := z) hB
    have e := parts_succ m.states.length i
    simp only [go_sem, h, hk, hw, hB, n0, s0]
    refine ⟨by simp only [roomFor, parts_len]; omega, ?_⟩
    refine roundK.intro (i + 1) (by omega) (by omega) ?_
    simp only [go_sem, Rk_succ, e, List.map_append, List.map_cons, List.map_nil]
    exact leB_RkA ⟨leC_any _ 4 rfl, trivial⟩
  · obtain rfl : i = m.places.length := by omega
    simp only [go_sem, h]

/-! ### right types -/
def TellsP (f : FuncId) (caps : List AV) (l : List (Int × Int)) (p : Int × Int → Bool) : Prop := ∀ x ∈ l, Con Tryz.prog f ([vPT x] ++ caps) [] fun r _ => r = .sc (.bool (p x))
set_option maxRecDepth 100000 in
theorem con_indexPT (l : List (Int × Int)) (f : FuncId) (caps : List AV) (p : Int × Int → Bool) (hc : mapTops (viewV []) caps = caps) (hf : TellsP f caps l p) (hl : l.length ≤ 9223372036854775806) : Con Tryz.prog 263 [.sl 0 4 (l.map vPT), .fn f caps] [] fun r _ => r = vi (findI p l) := by
  refine Con.intro Tryz.func263 rfl Tryz.ntmps263 Tryz.results263 (by kernel_rfl) (by simp) 0 (by simp) ?_
  simp only [go_sem]
  refine LoopK.intro (fun i : Nat => ⟨19, [(0, .sl 0 4 (l.map vPT)), (1, .fn f caps), (7, vi l.length), (8, vi i)], []⟩)
    (fun i => l.length - i) (fun i => i ≤ l.length ∧ ∀ j, j < i → p l[j]! = false) 0 ⟨by omega, fun j hj => by omega⟩ ?_ ?_
  · simp only [go_sem]
    all_goals exact leV_refl _
  · rintro i ⟨hi, hb⟩
    by_cases h : i < l.length
    · have hg := getPT h
      have hw : IntKind.i64.wrap (i + 1) = i + 1 := wrap_in (by omega) (by omega)
      simp only [go_sem, h, hg]
      refine CallU.look (hf l[i]! (mem_bangI h)) (by simp only [go_sem]) (by simp only [go_sem, hc]) ?_
      rintro r bx rfl
      cases hp : p l[i]!
      · simp only [go_sem, hw]
        refine roundK.intro (i + 1) ⟨by omega, fun j hj => ?_⟩ (by omega) ?_
        · by_cases hji : j = i
          · subst hji; exact hp
          · exact hb j (by omega)
        · simp only [go_sem]
      · simp only [go_sem]
        rw [findI_stop h hb hp]
    · simp only [go_sem, h]
      rw [findI_none (fun j hj => hb j (by omega))]
set_option maxRecDepth 100000 in
theorem con_containsPT (l : List (Int × Int)) (f : FuncId) (caps : List AV) (p : Int × Int → Bool) (hc : mapTops (viewV []) caps = caps) (hf : TellsP f caps l p) (hl : l.length ≤ 9223372036854775806) : Con Tryz.prog 249 [.sl 0 4 (l.map vPT), .fn f caps] [] fun r _ => r = .sc (.bool (l.any p)) := by
  refine Con.intro Tryz.func249 rfl Tryz.ntmps249 Tryz.results249 (by kernel_rfl) (by simp) 0 (by simp) ?_
  simp only [go_sem]
  refine CallU.look (con_indexPT l f caps p hc hf hl) (by simp only [go_sem]) (by simp only [go_sem]) ?_
  rintro r bx rfl
  simp only [go_sem, findI_ge]
/-- a type of numbers, or of 1 to 16 labels -/
def LeafP (p : Int × Int) : Prop := p = (1, 0) ∨ p.1 = 2 ∧ 1 ≤ p.2 ∧ p.2 ≤ 16
set_option maxRecDepth 100000 in
theorem con_rightLeaf (p : Int × Int) (d : Int) (hd : d ≠ 0) (hp : LeafP p) : Con Tryz.prog 224 [vPT p, vi d] [] fun r _ => r = vb true := by
  refine Con.intro Tryz.func224 rfl Tryz.ntmps224 Tryz.results224 (by kernel_rfl) (by simp) 2 (by simp) ?_
  have hd' : (d == 0) = false := beq_eq_false_iff_ne.2 hd
  obtain ⟨k, s⟩ := p
  rcases hp with hp | ⟨rfl, h1, h2⟩
  · cases hp
    simp only [go_sem, hd']
  · simp only at h1 h2
    simp only [go_sem, hd', h1, h2]
set_option maxRecDepth 100000 in
theorem con_right1 (p : Int × Int) (hp : LeafP p) : Con Tryz.prog 250 [vPT p, .fp [vi 8] 0] [] fun r _ => r = .sc (.bool false) := by
  refine Con.intro Tryz.func250 rfl Tryz.ntmps250 Tryz.results250 (by kernel_rfl) (by simp) 1 (by simp) ?_
  have hw : IntKind.i64.wrap 7 = 7 := wrap_in (by omega) (by omega)
  simp only [go_sem, hw]
  refine CallU.free (con_rightLeaf p 7 (by omega) hp) (by simp only [go_sem]) (by simp only [go_sem]) ?_
  rintro r bx rfl
  simp only [go_sem]
theorem any_false {α : Type} (l : List α) : (l.any fun _ => false) = false := by simp
set_option maxRecDepth 100000 in
theorem con_rightFlat (ps : List (Int × Int)) (h1 : 1 ≤ ps.length) (h2 : ps.length ≤ 8) (hp : ∀ p ∈ ps, LeafP p) : Con Tryz.prog 224 [flatT 0 ps, vi 8] [] fun r _ => r = vb true := by
  refine Con.intro Tryz.func224 rfl Tryz.ntmps224 Tryz.results224 (by kernel_rfl) (by simp) 2 (by simp) ?_
  have a1 : ((ps.length : Int) == 0) = false := beq_eq_false_iff_ne.2 (by omega)
  have a2 : ¬ ((8 : Int) < ps.length) := by omega
  simp only [go_sem, a1, a2]
  refine CallU.look (con_containsPT ps 250 [.fp [vi 8] 0] (fun _ => false) (by simp only [go_sem]) (fun x hx => con_right1 x (hp x hx)) (by omega)) (by simp only [go_sem]) (by simp only [go_sem]) ?_
  rintro r bx rfl
  simp only [go_sem, any_false]
set_option maxRecDepth 100000 in
theorem con_ocheck (ps : List (Int × Int)) (h1 : 1 ≤ ps.length) (h2 : ps.length ≤ 8) (hp : ∀ p ∈ ps, LeafP p) : Con Tryz.prog 194 [flatT 0 ps] [] fun r _ => r = vi 0 := by
  refine Con.intro Tryz.func194 rfl Tryz.ntmps194 Tryz.results194 (by kernel_rfl) (by simp) 1 (by simp) ?_
  simp only [go_sem]
  refine CallU.free (con_rightFlat ps h1 h2 hp) (by simp only [go_sem]) (by simp only [go_sem]) ?_
  rintro r bx rfl
  simp only [go_sem]
end Go.AM

/-! ## CmP -/
namespace Go.AM
open Go Go.Proofs Go.RowKit

mutual
/-- the number of nodes, or more than 'most' -/
def countV : CV → Int → Int
  | .mk _ kids, most => countVs kids most 1
def countVs : List CV → Int → Int → Int
  | [], _, n => n
  | k :: l, most, n => if most < n then n else countVs l most (n + countV k (most - n))
end
mutual
theorem countV_bnd : ∀ (v : CV) (most : Int), 0 ≤ most → 1 ≤ countV v most ∧ countV v most ≤ most + 1
  | .mk _ kids, most, h => by
    have := countVs_bnd kids most 1 h (by omega) (by omega)
    rw [countV]; exact this
theorem countVs_bnd : ∀ (l : List CV) (most n : Int), 0 ≤ most → 1 ≤ n → n ≤ most + 1 → 1 ≤ countVs l most n ∧ countVs l most n ≤ most + 1
  | [], most, n, h, h1, h2 => by rw [countVs]; exact ⟨h1, h2⟩
  | k :: l, most, n, h, h1, h2 => by
    rw [countVs]
    by_cases hm : most < n
    · rw [if_pos hm]; exact ⟨h1, h2⟩
    · rw [if_neg hm]
      have := countV_bnd k (most - n) (by omega)
      exact countVs_bnd l most _ h (by omega) (by omega)
end
theorem drop_kid {l : List CV} {i : Nat} (h : i < l.length) : l.drop i = l[i]! :: l.drop (i + 1) := by
  rw [List.drop_eq_getElem_cons h, getElem!_pos l i h]
set_option maxRecDepth 100000 in
theorem con_count (v : CV) (most : Int) (h1 : 0 ≤ most) (h2 : most ≤ 128) (hv : v.Ok) : Con Tryz.prog 225 [vV v, vi most] [] fun r _ => r = vi (countV v most) := by
  have key : ∀ (s : Nat) (v : CV) (most : Int), SizeOf.sizeOf v ≤ s → 0 ≤ most → most ≤ 128 → v.Ok → Con Tryz.prog 225 [vV v, vi most] [] fun r _ => r = vi (countV v most) := by
    intro s
    induction s with
    | zero => intro v _ hs; cases v; rw [CV.mk.sizeOf_spec] at hs; omega
    | succ s ih =>
      intro v most hs h1 h2 hv
      have hlen := hv.len
      have e0 : countV v most = countVs v.kids most 1 := by cases v; rw [countV]; rfl
      rw [vV_eq, e0]
      refine Con.intro Tryz.func225 rfl Tryz.ntmps225 Tryz.results225 (by kernel_rfl) (by simp) 1 (by simp) ?_
      simp only [go_sem]
      refine LoopK.intro (fun q : Nat × Int => ⟨27, [(1, vi most), (2, .pb 0 0), (5, vi q.2), (9, .sl 0 2 (v.kids.map vV)), (10, vi v.kids.length), (11, vi q.1)], [vi v.n, .sl 0 2 (v.kids.map vV)] :: Rk 2 q.1⟩)
        (fun q => v.kids.length - q.1) (fun q => q.1 ≤ v.kids.length ∧ 1 ≤ q.2 ∧ q.2 ≤ most + 1 ∧ countVs (v.kids.drop q.1) most q.2 = countVs v.kids most 1) (0, 1) ⟨by simp, by simp, by show (1 : Int) ≤ most + 1; omega, rfl⟩ ?_ ?_
      · simp only [go_sem]
        exact leB_self _
      rintro ⟨i, n⟩ ⟨hi, hn1, hn2, he⟩
      simp only at hi hn1 hn2 he
      by_cases h : i < v.kids.length
      · have hg := getvV h
        have hw : IntKind.i64.wrap (i + 1) = i + 1 := wrap_in (by omega) (by omega)
        have hB := Rk_len 2 i
        have n0 := fun L : List (List AV) => app_at0 (L := L) hB
        have s0 := fun (L : List (List AV)) z => app_set0 (L := L) (z := z) hB
        rw [drop_kid h, countVs] at he
        by_cases hm : most < n
        · rw [if_pos hm] at he
          simp only [go_sem, h, hg, hB, n0, s0, hm]
          rw [he]
        · rw [if_neg hm] at he
          have hmem : v.kids[i]! ∈ v.kids := mem_bangI h
          have hk := countV_bnd v.kids[i]! (most - n) (by omega)
          have hw2 : IntKind.i64.wrap (most - n) = most - n := wrap_in (by omega) (by omega)
          have hw3 : IntKind.i64.wrap (n + countV v.kids[i]! (most - n)) = n + countV v.kids[i]! (most - n) := wrap_in (by omega) (by omega)
          simp only [go_sem, h, hg, hB, n0, s0, hm, hw2]
          refine CallU.free (ih v.kids[i]! (most - n) (by have := kid_size hmem; omega) (by omega) (by omega) (hv.kid hmem)) (by simp only [go_sem]) (by simp only [go_sem, vV_eq]) ?_
          rintro r bx rfl
          simp only [go_sem, hw, hw3]
          refine roundK.intro (i + 1, n + countV v.kids[i]! (most - n)) ⟨by show i + 1 ≤ _; omega, by show 1 ≤ n + _; omega, by show n + _ ≤ most + 1; omega, he⟩ (by show v.kids.length - (i + 1) < v.kids.length - i; omega) ?_
          simp only [go_sem, Rk_succ]
          exact leB_RkA ⟨leC_any _ 2 rfl, trivial⟩
      · obtain rfl : i = v.kids.length := by omega
        rw [List.drop_length, countVs] at he
        simp only [go_sem, h, he]
  exact key _ v most (Nat.le_refl _) h1 h2 hv
set_option maxRecDepth 100000 in
theorem con_size (v : CV) (hv : v.Ok) : Con Tryz.prog 195 [vV v] [] fun r _ => r = vi (countV v 128) := by
  rw [vV_eq]
  refine Con.intro Tryz.func195 rfl Tryz.ntmps195 Tryz.results195 (by kernel_rfl) (by simp) 1 (by simp) ?_
  simp only [go_sem]
  refine CallU.free (con_count v 128 (by omega) (by omega) hv) (by simp only [go_sem]) (by simp only [go_sem, vV_eq]) ?_
  rintro r bx rfl
  have hb := countV_bnd v 128 (by omega)
  have e : min (countV v 128) 129 = countV v 128 := by omega
  simp only [go_sem, e]
/-- a value of a type without parts -/
def leafOk (p : Int × Int) (v : CV) : Bool := if p.1 = 1 then decide (0 ≤ v.n) && decide (v.n ≤ 1048576) && v.kids.length == 0 else decide (0 ≤ v.n) && decide (v.n < p.2) && v.kids.length == 0
theorem zero_len {α : Type} (l : List α) : ((l.length : Int) == 0) = (l.length == 0) := by rw [Bool.eq_iff_iff]; simp
set_option maxRecDepth 100000 in
theorem con_olabel (v : CV) (s : Int) : Con Tryz.prog 226 [vV v, vi s] [] fun r _ => r = vb (decide (0 ≤ v.n) && decide (v.n < s) && v.kids.length == 0) := by
  rw [vV_eq]
  refine Con.intro Tryz.func226 rfl Tryz.ntmps226 Tryz.results226 (by kernel_rfl) (by simp) 1 (by simp) ?_
  by_cases h1 : 0 ≤ v.n
  · by_cases h2 : v.n < s
    · simp only [go_sem, h1, h2, zero_len, decide_true, Bool.true_and]
    · simp only [go_sem, h1, h2, decide_false, Bool.false_and, Bool.and_false]
  · simp only [go_sem, h1, decide_false, Bool.false_and]
set_option maxRecDepth 100000 in
theorem con_oneLeaf (p : Int × Int) (v : CV) (hp : LeafP p) : Con Tryz.prog 196 [vPT p, vV v] [] fun r _ => r = vb (leafOk p v) := by
  rw [vV_eq]
  refine Con.intro Tryz.func196 rfl Tryz.ntmps196 Tryz.results196 (by kernel_rfl) (by simp) 2 (by simp) ?_
  obtain ⟨k, s⟩ := p
  rcases hp with hp | ⟨rfl, h1, h2⟩
  · cases hp
    have e : leafOk (1, 0) v = (decide (0 ≤ v.n) && decide (v.n ≤ 1048576) && v.kids.length == 0) := by unfold leafOk; rw [if_pos rfl]
    rw [e]
    by_cases h1 : 0 ≤ v.n
    · by_cases h2 : v.n ≤ 1048576
      · simp only [go_sem, h1, h2, zero_len, decide_true, Bool.true_and]
      · simp only [go_sem, h1, h2, decide_false, Bool.false_and, Bool.and_false]
    · simp only [go_sem, h1, decide_false, Bool.false_and]
  · have e : leafOk (2, s) v = (decide (0 ≤ v.n) && decide (v.n < s) && v.kids.length == 0) := by unfold leafOk; rw [if_neg (by simp)]
    rw [e]
    simp only [go_sem]
    refine CallU.free (con_olabel v s) (by simp only [go_sem]) (by simp only [go_sem, vV_eq]) ?_
    rintro r bx rfl
    simp only [go_sem]
/-- a value of a tuple's type -/
def flatOk (ps : List (Int × Int)) (v : CV) : Bool := v.n == 0 && decide (v.kids.length = ps.length) && (List.range ps.length).all fun i => leafOk ps[i]! v.kids[i]!
theorem flat_bad {ps : List (Int × Int)} {v : CV} {i : Nat} (h : i < ps.length) (hb : leafOk ps[i]! v.kids[i]! = false) : flatOk ps v = false := by
  unfold flatOk
  have : ((List.range ps.length).all fun i => leafOk ps[i]! v.kids[i]!) = false := by
    rw [List.all_eq_false]; exact ⟨i, List.mem_range.2 h, by rw [hb]; simp⟩
  rw [this, Bool.and_false]
theorem flat_good {ps : List (Int × Int)} {v : CV} (h0 : v.n = 0) (hl : v.kids.length = ps.length) (h : ∀ i, i < ps.length → leafOk ps[i]! v.kids[i]! = true) : flatOk ps v = true := by
  unfold flatOk
  have : ((List.range ps.length).all fun i => leafOk ps[i]! v.kids[i]!) = true := by
    rw [List.all_eq_true]; exact fun i hi => h i (List.mem_range.1 hi)
  rw [this, h0, decide_eq_true hl]; rfl
set_option maxRecDepth 100000 in
theorem con_oneFlat (ps : List (Int × Int)) (v : CV) (hp : ∀ p ∈ ps, LeafP p) (hl : v.kids.length ≤ 9223372036854775806) : Con Tryz.prog 196 [flatT 0 ps, vV v] [] fun r _ => r = vb (flatOk ps v) := by
  rw [vV_eq]
  refine Con.intro Tryz.func196 rfl Tryz.ntmps196 Tryz.results196 (by kernel_rfl) (by simp) 2 (by simp) ?_
  by_cases h0 : v.n = 0
  case neg =>
    have h0' : (v.n != 0) = true := bne_iff_ne.2 h0
    have e : flatOk ps v = false := by unfold flatOk; rw [beq_eq_false_iff_ne.2 h0]; rfl
    simp only [go_sem, h0', e]
  have h0' : (v.n != 0) = false := by rw [h0]; rfl
  by_cases hn : v.kids.length = ps.length
  case neg =>
    have hn' : ((v.kids.length : Int) != (ps.length : Int)) = true := bne_iff_ne.2 (by omega)
    have e : flatOk ps v = false := by unfold flatOk; rw [decide_eq_false hn, Bool.and_false]; rfl
    simp only [go_sem, h0', hn', e]
  have hn' : ((v.kids.length : Int) != (ps.length : Int)) = false := by rw [hn]; simp
  simp only [go_sem, h0', hn']
  refine LoopK.intro (fun i : Nat => ⟨110, [(2, .pb 0 0), (3, .pb 1 0), (46, .sl 0 2 (v.kids.map vV)), (47, vi v.kids.length), (48, vi i)], [vi 3, vi 0, .nil, .sl 0 4 (ps.map vPT)] :: [vi v.n, .sl 0 2 (v.kids.map vV)] :: Rk 2 i⟩)
    (fun i => v.kids.length - i) (fun i => i ≤ v.kids.length ∧ ∀ j, j < i → leafOk ps[j]! v.kids[j]! = true) 0 ⟨by omega, fun j hj => by omega⟩ ?_ ?_
  · simp only [go_sem]
    exact leB_self _
  rintro i ⟨hi, hb⟩
  by_cases h : i < v.kids.length
  · have h2 : i < ps.length := by omega
    have hg := getvV h
    have hg2 := getPT h2
    have hw : IntKind.i64.wrap (i + 1) = i + 1 := wrap_in (by omega) (by omega)
    have hB := Rk_len 2 i
    have n0 := fun L : List (List AV) => app_at0 (L := L) hB
    have s0 := fun (L : List (List AV)) z => app_set0 (L := L) (z := z) hB
    simp only [go_sem, h, hg, hB, n0, s0]
    refine DrawK.walk 8 mixed (by kernel_rfl) ?_
    simp only [go_sem, h2, hg2, n0]
    refine CallY.mk (con_oneLeaf ps[i]! v.kids[i]! (hp _ (mem_bangI h2))) (by simp only [go_sem, vV_eq]) (by simp only [go_sem]) (.inl (by simp only [go_sem])) ?_
    cases hq : leafOk ps[i]! v.kids[i]!
    · simp only [go_sem]
      rw [flat_bad h2 hq]
    · simp only [go_sem, hw]
      refine roundK.intro (i + 1) ⟨by omega, fun j hj => ?_⟩ (by omega) ?_
      · by_cases hji : j = i
        · subst hji; exact hq
        · exact hb j (by omega)
      · simp only [go_sem, Rk_succ]
        exact leB_RkA ⟨leC_any _ 2 rfl, trivial⟩
  · simp only [go_sem, h]
    rw [flat_good h0 hn (fun j hj => hb j (by omega))]
end Go.AM

/-! ## CmQ -/
namespace Go.AM
open Go Go.Proofs Go.RowKit

theorem conf_flat (ns np : Nat) (c : CV) : flatOk (partsP ns np) c = confB ns np c := by
  obtain ⟨n, kids⟩ := c
  rw [Bool.eq_iff_iff]
  unfold flatOk
  rw [parts_len]
  simp only [CV.n, CV.kids, Bool.and_eq_true, beq_iff_eq, List.all_eq_true, List.mem_range]
  have hz : (partsP ns np)[0]! = (2, (ns : Int)) := rfl
  have hs : ∀ i, i < np → (partsP ns np)[i + 1]! = (1, 0) := fun i hi => by
    unfold partsP
    rw [List.getElem!_cons_succ, getElem!_pos _ i (by simpa using hi), List.getElem_replicate]
  have l0 : ∀ x : CV, leafOk (2, (ns : Int)) x = true ↔ 0 ≤ x.n ∧ x.n < ns ∧ x.kids.length = 0 := fun x => by
    unfold leafOk; rw [if_neg (by simp)]
    simp only [Bool.and_eq_true, decide_eq_true_eq, beq_iff_eq, and_assoc]
  have l1 : ∀ x : CV, leafOk (1, 0) x = true ↔ 0 ≤ x.n ∧ x.n ≤ 1048576 ∧ x.kids.length = 0 := fun x => by
    unfold leafOk; rw [if_pos rfl]
    simp only [Bool.and_eq_true, decide_eq_true_eq, beq_iff_eq, and_assoc]
  cases kids with
  | nil => simp [confB]
  | cons x l =>
    unfold confB
    simp only [Bool.and_eq_true, beq_iff_eq, decide_eq_true_eq, List.all_eq_true, List.length_cons]
    constructor
    · rintro ⟨⟨h0, hl⟩, h⟩
      have hl := of_decide_eq_true hl
      have hx := (l0 x).1 (by have := h 0 (by omega); rw [hz] at this; exact this)
      refine ⟨⟨⟨⟨⟨h0, hx.1⟩, hx.2.1⟩, hx.2.2⟩, by omega⟩, fun k hk => ?_⟩
      obtain ⟨j, hj⟩ := List.getElem?_of_mem hk
      have hjl := (List.getElem?_eq_some_iff.1 hj).1
      have hj2 := h (j + 1) (by omega)
      rw [hs j (by omega), List.getElem!_cons_succ, getElem!_pos l j hjl, (List.getElem?_eq_some_iff.1 hj).2] at hj2
      have := (l1 k).1 hj2
      exact ⟨⟨this.1, this.2.1⟩, this.2.2⟩
    · rintro ⟨⟨⟨⟨⟨h0, h1⟩, h2⟩, h3⟩, hl⟩, h⟩
      refine ⟨⟨h0, decide_eq_true (by omega)⟩, fun i hi => ?_⟩
      cases i with
      | zero => rw [hz]; exact (l0 x).2 ⟨h1, h2, h3⟩
      | succ i =>
        rw [hs i (by omega), List.getElem!_cons_succ]
        have hm : l[i]! ∈ l := mem_bangI (by omega)
        have := h _ hm
        exact (l1 _).2 ⟨this.1.1, this.1.2, this.2⟩
theorem count_leaf {k : CV} (h : k.kids.length = 0) (most : Int) : countV k most = 1 := by
  obtain ⟨n, kids⟩ := k
  have : kids = [] := List.eq_nil_of_length_eq_zero h
  subst this
  rw [countV, countVs]
theorem count_leafs : ∀ (l : List CV) (most n : Int), (∀ k ∈ l, k.kids.length = 0) → n + l.length ≤ most + 1 → countVs l most n = n + l.length
  | [], most, n, _, _ => by rw [countVs]; simp
  | k :: l, most, n, h, hb => by
    simp only [List.length_cons] at hb ⊢
    rw [countVs, if_neg (by omega), count_leaf (h k (List.mem_cons_self ..)), count_leafs l most (n + 1) (fun x hx => h x (List.mem_cons_of_mem _ hx)) (by omega)]
    omega
theorem conf_count {ns np : Nat} {c : CV} (hp : np ≤ 100) (h : confB ns np c = true) : countV c 128 ≤ 128 := by
  obtain ⟨n, kids⟩ := c
  cases kids with
  | nil => simp [confB] at h
  | cons x l =>
    unfold confB at h
    simp only [Bool.and_eq_true, beq_iff_eq, decide_eq_true_eq, List.all_eq_true] at h
    obtain ⟨⟨⟨⟨⟨h0, h1⟩, h2⟩, h3⟩, hl⟩, h⟩ := h
    rw [countV, count_leafs (x :: l) 128 1 (fun k hk => ?_) (by simp only [List.length_cons]; omega)]
    · simp only [List.length_cons]; omega
    · rcases List.mem_cons.1 hk with rfl | hk
      · exact h3
      · exact (h k hk).2
theorem parts_leaf {ns np : Nat} (h1 : 1 ≤ ns) (h2 : ns ≤ 16) : ∀ p ∈ partsP ns np, LeafP p := fun p hp => by
  unfold partsP at hp
  rcases List.mem_cons.1 hp with rfl | hp
  · exact .inr ⟨rfl, by show (1 : Int) ≤ ns; omega, by show (ns : Int) ≤ 16; omega⟩
  · exact .inl (List.mem_replicate.1 hp).2
set_option maxRecDepth 100000 in
theorem con_ovalid (ns np : Nat) (v : CV) (h1 : 1 ≤ ns) (h2 : ns ≤ 16) (h3 : np ≤ 7) (hv : v.Ok) (hl : v.kids.length ≤ 9223372036854775806) : Con Tryz.prog 156 [flatT 0 (partsP ns np), vV v] [] fun r _ => r = vb (confB ns np v) := by
  have e0 := vV_eq v
  rw [e0]
  refine Con.intro Tryz.func156 rfl Tryz.ntmps156 Tryz.results156 (by kernel_rfl) (by simp) 2 (by simp) ?_
  simp only [go_sem]
  refine CallU.free (con_ocheck (partsP ns np) (by rw [parts_len]; omega) (by rw [parts_len]; omega) (parts_leaf h1 h2)) (by simp only [go_sem]) (by simp only [go_sem]) ?_
  rintro r bx rfl
  simp only [go_sem]
  refine CallU.free (con_size v hv) (by simp only [go_sem]) (by simp only [go_sem, vV_eq]) ?_
  rintro r bx rfl
  by_cases hc : countV v 128 ≤ 128
  · simp only [go_sem, hc]
    refine CallU.free (con_oneFlat (partsP ns np) v (parts_leaf h1 h2) hl) (by simp only [go_sem]) (by simp only [go_sem, vV_eq]) ?_
    rintro r bx rfl
    simp only [go_sem, conf_flat]
  · have e : confB ns np v = false := by
      cases hb : confB ns np v
      · rfl
      · exact absurd (conf_count (by omega) hb) hc
    simp only [go_sem, hc, e]

/-! ### valid counter models -/
theorem rule_len {ns np : Nat} {r : RD} (hp : np ≤ 1000000) (hr : ruleB ns np r = true) (hb : bareB r = true) : r.Len := by
  unfold ruleB changesB movesB at hr
  unfold bareB at hb
  simp only [Bool.and_eq_true, Bool.or_eq_true, decide_eq_true_eq, beq_iff_eq] at hr hb
  refine ⟨by omega, by omega, ?_, by omega, by omega, by omega, by omega⟩
  rcases hr.2 with h | h <;> omega
theorem conf_ok {ns np : Nat} {c : CV} (hp : np ≤ 1000000) (h : confB ns np c = true) : c.Ok ∧ c.kids.length = np + 1 := by
  obtain ⟨n, kids⟩ := c
  cases kids with
  | nil => simp [confB] at h
  | cons x l =>
    unfold confB at h
    simp only [Bool.and_eq_true, beq_iff_eq, decide_eq_true_eq, List.all_eq_true] at h
    obtain ⟨⟨⟨⟨⟨h0, h1⟩, h2⟩, h3⟩, hl⟩, h⟩ := h
    have leaf : ∀ k : CV, k.kids.length = 0 → k.Ok := fun k hk => by
      obtain ⟨m, ks⟩ := k
      have : ks = [] := List.eq_nil_of_length_eq_zero hk
      subst this
      exact .mk m [] (by simp) (fun _ hx => by simp at hx)
    refine ⟨.mk n _ (by simp only [List.length_cons]; omega) fun k hk => ?_, by simp only [CV.kids, List.length_cons]; omega⟩
    rcases List.mem_cons.1 hk with rfl | hk
    · exact leaf _ h3
    · exact leaf _ (h k hk).2
theorem names_size {l : List ByteArray} (h : namesB l = true) : ∀ s ∈ l, s.size ≤ 9223372036854775806 := fun s hs => by
  unfold namesB at h
  rw [List.all_eq_true] at h
  obtain ⟨i, hi⟩ := List.getElem?_of_mem hs
  have hil := (List.getElem?_eq_some_iff.1 hi).1
  have := h i (List.mem_range.2 hil)
  unfold okN wordB at this
  rw [getElem!_pos l i hil, (List.getElem?_eq_some_iff.1 hi).2] at this
  simp only [Bool.and_eq_true, decide_eq_true_eq] at this
  omega
theorem good_sized {m : MD} (h : GoodM m) : sizedB m = true := by
  have e : limF m.kind = [1, 6, 0, 0, 0, 0, 0, 0] := by rw [h.kind]; rfl
  have h1 := h.states
  have h2 := h.places
  have h3 := h.few
  unfold sizedB lim betweenB
  rw [e, h.letters, h.levels, h.age]
  simp only [List.getD_cons_zero, List.getD_cons_succ, Bool.and_eq_true, decide_eq_true_eq, List.length_nil]
  refine ⟨⟨⟨⟨⟨⟨?_, ?_⟩, ?_⟩, ?_, ?_⟩, ?_⟩, ?_⟩, ?_⟩ <;> first | omega | simp
theorem good_ranked {m : MD} (h : GoodM m) : rankedB m = true := by
  unfold rankedB
  rw [h.kind, h.ranks]; rfl
theorem good_named {m : MD} (h : GoodM m) : (namesOf m).length ≤ 1000000 := by
  have h1 := h.states
  have h2 := h.places
  have h3 := h.few
  unfold namesOf
  simp only [List.length_append, List.length_map, h.letters, List.length_nil]
  omega
set_option maxRecDepth 100000 in
set_option maxHeartbeats 1000000 in
theorem con_begins (m : MD) (h : GoodM m) : Con Tryz.prog 169 [vM m] [] fun r _ => r = vb true := by
  refine Con.intro Tryz.func169 rfl Tryz.ntmps169 Tryz.results169 (by kernel_rfl) (by simp) 1 (by simp) ?_
  have h1 := h.states
  have h2 := h.places
  have hk := h.kind
  have hc := conf_ok (by omega) h.start
  simp only [go_sem, hk]
  refine DrawK.walk 6 mixed (by kernel_rfl) ?_
  simp only [go_sem]
  refine CallY.mk (con_typed m hk (by omega)) (by simp only [go_sem, hk]) (by simp only [go_sem]) (.inl (by simp only [go_sem])) ?_
  simp only [go_sem]
  refine CallY.mk (con_ovalid m.states.length m.places.length m.start (by omega) (by omega) (by omega) hc.1 (by omega)) (by simp only [go_sem, vV_eq]) (by simp only [go_sem]) (.inr (by simp only [go_sem])) ?_
  simp only [go_sem, h.start]
set_option maxRecDepth 100000 in
set_option maxHeartbeats 1000000 in
theorem con_check (m : MD) (h : GoodM m) : Con Tryz.prog 121 [vM m] [] fun r _ => r = vi 0 := by
  refine Con.intro Tryz.func121 rfl Tryz.ntmps121 Tryz.results121 (by kernel_rfl) (by simp) 1 (by simp) ?_
  have h1 := h.states
  have h2 := h.places
  have h3 := h.few
  have hk := h.kind
  have hr0 : m.ranks.length ≤ 9223372036854775806 := by rw [h.ranks]; simp
  simp only [go_sem, hk]
  refine CallU.free (con_between 1 1 6) (by simp only [go_sem]) (by simp only [go_sem]) ?_
  rintro r bx rfl
  have e1 : betweenB 1 1 6 = true := by decide
  simp only [go_sem, e1]
  refine CallU.free (con_sized m) (by simp only [go_sem]) (by simp only [go_sem, hk]) ?_
  rintro r bx rfl
  simp only [go_sem, good_sized h]
  refine CallU.free (con_ranked m hr0) (by simp only [go_sem]) (by simp only [go_sem, hk]) ?_
  rintro r bx rfl
  simp only [go_sem, good_ranked h]
  refine CallU.free (con_named m h1.1 (good_named h) (names_size h.names)) (by simp only [go_sem]) (by simp only [go_sem, hk]) ?_
  rintro r bx rfl
  simp only [go_sem, h.names]
  refine CallU.look (con_containsRule m.rules 167 [.fp (cM m) 0] (fun _ => false) (by simp only [go_sem]) (fun r hr => con_check1 m r hk (by omega) (by omega) (rule_len (by omega) (h.rules r hr).1 (h.rules r hr).2) (h.rules r hr).1 (h.rules r hr).2) (by omega)) (by simp only [go_sem]) (by simp only [go_sem, hk]) ?_
  rintro r bx rfl
  simp only [go_sem, any_false]
  refine CallU.free (con_begins m h) (by simp only [go_sem]) (by simp only [go_sem, hk]) ?_
  rintro r bx rfl
  simp only [go_sem]
set_option maxRecDepth 100000 in
set_option maxHeartbeats 1000000 in
theorem con_mvalid (m : MD) (c : CV) (h : GoodM m) (hc : c.Ok) (hl : c.kids.length ≤ 9223372036854775806) : Con Tryz.prog 94 [vM m, vV c] [] fun r _ => r = vb (confB m.states.length m.places.length c) := by
  have e0 := vV_eq c
  rw [e0]
  refine Con.intro Tryz.func94 rfl Tryz.ntmps94 Tryz.results94 (by kernel_rfl) (by simp) 2 (by simp) ?_
  have h1 := h.states
  have h2 := h.places
  have hk := h.kind
  simp only [go_sem, hk]
  refine DrawK.walk 10 mixed (by kernel_rfl) ?_
  simp only [go_sem]
  refine CallY.mk (con_check m h) (by simp only [go_sem, hk]) (by simp only [go_sem]) (.inl (by simp only [go_sem])) ?_
  simp only [go_sem]
  refine CallY.mk (con_typed m hk (by omega)) (by simp only [go_sem, hk]) (by simp only [go_sem]) (.inl (by simp only [go_sem])) ?_
  simp only [go_sem]
  refine CallY.mk (con_ovalid m.states.length m.places.length c (by omega) (by omega) (by omega) hc hl) (by simp only [go_sem, vV_eq]) (by simp only [go_sem]) (.inr (by simp only [go_sem])) ?_
  simp only [go_sem]
def stillB (r : RD) : Bool := r.move.length == 0
set_option maxRecDepth 100000 in
theorem con_plain1 (r : RD) : Con Tryz.prog 190 [vRule r] [] fun x _ => x = .sc (.bool (!stillB r)) := by
  refine Con.intro Tryz.func190 rfl Tryz.ntmps190 Tryz.results190 (by kernel_rfl) (by simp) 1 (by simp) ?_
  unfold stillB
  simp only [go_sem]
  cases r.move <;> simp
set_option maxRecDepth 100000 in
theorem con_plain (m : MD) (hk : m.kind = 1) (hl : m.rules.length ≤ 9223372036854775806) : Con Tryz.prog 144 [vM m] [] fun x _ => x = vb (m.rules.all stillB) := by
  refine Con.intro Tryz.func144 rfl Tryz.ntmps144 Tryz.results144 (by kernel_rfl) (by simp) 1 (by simp) ?_
  simp only [go_sem, hk]
  refine CallU.free (con_containsRule m.rules 190 [] (fun r => !stillB r) rfl (fun r _ => con_plain1 r) hl) (by simp only [go_sem]) (by simp only [go_sem]) ?_
  rintro r bx rfl
  simp only [go_sem, any_not]
set_option maxRecDepth 100000 in
theorem con_counts (m : MD) (h : GoodM m) (hs : m.rules.all stillB = true) : Con Tryz.prog 82 [vM m] [] fun r _ => r = vi 0 := by
  refine Con.intro Tryz.func82 rfl Tryz.ntmps82 Tryz.results82 (by kernel_rfl) (by simp) 1 (by simp) ?_
  have h3 := h.few
  simp only [go_sem]
  refine CallU.free (con_check m h) (by simp only [go_sem]) (by simp only [go_sem]) ?_
  rintro r bx rfl
  simp only [go_sem]
  refine CallU.free (con_plain m h.kind (by omega)) (by simp only [go_sem]) (by simp only [go_sem]) ?_
  rintro r bx rfl
  simp only [go_sem, hs]
end Go.AM

/-! ## CmR -/
namespace Go.AM
open Go Go.Proofs Go.RowKit

def badC (c : Int) : Bool := decide (c < -4) || decide (4 < c)
set_option maxRecDepth 100000 in
theorem con_fits1 (c : Int) : Con Tryz.prog 158 [vi c] [] fun r _ => r = .sc (.bool (badC c)) := by
  refine Con.intro Tryz.func158 rfl Tryz.ntmps158 Tryz.results158 (by kernel_rfl) (by simp) 0 (by simp) ?_
  unfold badC
  by_cases h1 : c < -4
  · simp only [go_sem, h1, decide_true, Bool.true_or]
  · simp only [go_sem, h1, decide_false, Bool.false_or]
theorem small_fits {c : List Int} (h : SmallI 4 c) : c.any badC = false := by
  rw [List.any_eq_false]
  intro x hx
  have := h x hx
  unfold badC
  rw [decide_eq_false (by omega), decide_eq_false (by omega)]; simp
set_option maxRecDepth 100000 in
theorem con_fits (c : List Int) (h : SmallI 4 c) (hl : c.length ≤ 9223372036854775806) : Con Tryz.prog 96 [vs 0 c] [] fun r _ => r = vb true := by
  refine Con.intro Tryz.func96 rfl Tryz.ntmps96 Tryz.results96 (by kernel_rfl) (by simp) 0 (by simp) ?_
  simp only [go_sem]
  refine CallU.free (con_containsInt c 158 [] badC rfl (fun x _ => con_fits1 x) hl) (by simp only [go_sem]) (by simp only [go_sem]) ?_
  rintro r bx rfl
  simp only [go_sem, small_fits h]
def ModOk (m : Int) : Prop := m = 0 ∨ 2 ≤ m ∧ m ≤ 8
set_option maxRecDepth 100000 in
theorem con_modulus (m : Int) (h : ModOk m) : Con Tryz.prog 97 [vi m] [] fun r _ => r = vb true := by
  refine Con.intro Tryz.func97 rfl Tryz.ntmps97 Tryz.results97 (by kernel_rfl) (by simp) 0 (by simp) ?_
  rcases h with rfl | ⟨h1, h2⟩
  · simp only [go_sem]
  · have h0 : (m == 0) = false := beq_eq_false_iff_ne.2 (by omega)
    simp only [go_sem, h0, h1, h2]
def badV (low high v : Int) : Bool := (v != 1099511627776) && (decide (v < low) || decide (high < v))
set_option maxRecDepth 100000 in
theorem con_acheck1 (v low high : Int) : Con Tryz.prog 115 [vi v, .fp [vi low] 0, .fp [vi high] 0] [] fun r _ => r = .sc (.bool (badV low high v)) := by
  refine Con.intro Tryz.func115 rfl Tryz.ntmps115 Tryz.results115 (by kernel_rfl) (by simp) 0 (by simp) ?_
  unfold badV
  cases h0 : (v != 1099511627776)
  · simp only [go_sem, h0, Bool.false_and]
  · by_cases h1 : v < low
    · simp only [go_sem, h0, h1, decide_true, Bool.true_or, Bool.true_and]
    · simp only [go_sem, h0, h1, decide_false, Bool.false_or, Bool.true_and]
def lowF (mod : Int) : Int := if 0 < mod then 0 else -1099511627776
def highF (mod : Int) : Int := if 0 < mod then mod - 1 else 1099511627775
/-- the values are right for a modulus -/
def valuesB (mod : Int) (l : List Int) : Bool := !l.any (badV (lowF mod) (highF mod))
def acheckF (a : AtomD) : Int := if valuesB a.mod a.values then 0 else 44
/-- the parts of an atom that are not the values are right -/
structure FormA (m : MD) (a : AtomD) : Prop where
  coefs : a.coefs.length = m.places.length
  small : SmallI 4 a.coefs
  mod : ModOk a.mod
  values : a.values.length = m.states.length
def acheckTree : Tr := .front 0 (.alt (.one 1 (.alt (.one 2 (.one 3 (.one 4 .done))) (.one 3 (.one 2 (.one 4 .done))))) (.one 3 (.one 1 (.one 2 (.one 4 .done)))))
set_option maxRecDepth 100000 in
set_option maxHeartbeats 2000000 in
theorem con_acheck (m : MD) (a : AtomD) (h : GoodM m) (hs : m.rules.all stillB = true) (ha : FormA m a) : Con Tryz.prog 53 [vM m, vAtom a] [] fun r _ => r = vi (acheckF a) := by
  refine Con.intro Tryz.func53 rfl Tryz.ntmps53 Tryz.results53 (by kernel_rfl) (by simp) 2 (by simp) ?_
  have h1 := h.states
  have h2 := h.places
  have c1 : ((a.coefs.length : Int) != (m.places.length : Int)) = false := by rw [ha.coefs]; simp
  have c2 : ((a.values.length : Int) != (m.states.length : Int)) = false := by rw [ha.values]; simp
  have l1 := ha.coefs
  have l2 := ha.values
  simp only [go_sem]
  refine CallU.free (con_counts m h hs) (by simp only [go_sem]) (by simp only [go_sem]) ?_
  rintro r bx rfl
  simp only [go_sem, c1]
  refine CallU.free (con_fits a.coefs ha.small (by omega)) (by simp only [go_sem]) (by simp only [go_sem]) ?_
  rintro r bx rfl
  simp only [go_sem]
  refine CallU.free (con_modulus a.mod ha.mod) (by simp only [go_sem]) (by simp only [go_sem]) ?_
  rintro r bx rfl
  have fin : ∀ (low high : Int), low = lowF a.mod → high = highF a.mod → Con Tryz.prog 78 [vs 0 a.values, .fn 115 [.fp [vi low] 0, .fp [vi high] 0]] [] fun r _ => r = .sc (.bool (!valuesB a.mod a.values)) := by
    rintro _ _ rfl rfl
    have := con_containsInt a.values 115 [.fp [vi (lowF a.mod)] 0, .fp [vi (highF a.mod)] 0] (badV (lowF a.mod) (highF a.mod)) (by simp only [go_sem]) (fun x _ => con_acheck1 x _ _) (by omega)
    unfold valuesB
    rw [Bool.not_not]; exact this
  unfold acheckF
  by_cases hp : 0 < a.mod
  · have hw : IntKind.i64.wrap (a.mod - 1) = a.mod - 1 := by have := ha.mod; unfold ModOk at this; exact wrap_in (by omega) (by omega)
    simp only [go_sem, c2, hp]
    refine DrawK.meet ⟨51, [(2, .pb 0 0), (3, .pb 1 0), (4, vi 0), (6, .pb 2 0), (7, .pb 3 0)], [cM m, [vs 0 a.coefs, vi a.mod, vs 0 a.values], [vi 0], [vi (a.mod - 1)]]⟩ ?_ ?_
    · refine DrawK.tree acheckTree mixed (by kernel_rfl) ?_
      unfold acheckTree
      repeat' (first | with_reducible apply andK_mk | simp only [go_sem, hw])
    · simp only [go_sem]
      refine CallU.look (fin 0 (a.mod - 1) (by unfold lowF; rw [if_pos hp]) (by unfold highF; rw [if_pos hp])) (by simp only [go_sem]) (by simp only [go_sem]) ?_
      rintro r bx rfl
      cases valuesB a.mod a.values
      · simp only [go_sem]
        all_goals rfl
      · simp only [go_sem]
        all_goals rfl
  · simp only [go_sem, c2, hp]
    refine CallU.look (fin (-1099511627776) 1099511627775 (by unfold lowF; rw [if_neg hp]) (by unfold highF; rw [if_neg hp])) (by simp only [go_sem]) (by simp only [go_sem]) ?_
    rintro r bx rfl
    cases valuesB a.mod a.values
    · simp only [go_sem]
      all_goals rfl
    · simp only [go_sem]
      all_goals rfl
end Go.AM

/-! ## CmS -/
namespace Go.AM
open Go Go.Proofs Go.RowKit

theorem mul_le6 {n : Nat} (h : n ≤ 6) : 4194304 * (n : Int) ≤ 25165824 := by omega
set_option maxRecDepth 100000 in
theorem con_effect (c : List Int) (r : RD) (h1 : c.length ≤ r.give.length) (h2 : c.length ≤ r.need.length) (h6 : c.length ≤ 6) (hc : SmallI 4 c) (hg : SmallI 1048576 r.give) (hn : SmallI 1048576 r.need) : Con Tryz.prog 155 [vs 0 c, vRule r] [] fun x _ => x = vi (effectF c r) := by
  refine Con.intro Tryz.func155 rfl Tryz.ntmps155 Tryz.results155 (by kernel_rfl) (by simp) 1 (by simp) ?_
  have b1 := sum_small hc hg
  have b2 := sum_small hc hn
  have b3 := mul_le6 h6
  have hw : IntKind.i64.wrap (sumF c r.give - sumF c r.need) = effectF c r := by unfold effectF; exact wrap_in (by omega) (by omega)
  simp only [go_sem]
  refine DrawK.walk 10 mixed (by kernel_rfl) ?_
  simp only [go_sem]
  refine CallY.mk (con_sum c r.give h1 (by omega) hc hg) (by simp only [go_sem]) (by simp only [go_sem]) (.inl (by simp only [go_sem])) ?_
  simp only [go_sem]
  refine CallY.mk (con_sum c r.need h2 (by omega) hc hn) (by simp only [go_sem]) (by simp only [go_sem]) (.inl (by simp only [go_sem])) ?_
  simp only [go_sem, hw]
/-- an atom holds for a state and numbers -/
def holdsF (a : AtomD) (s : Nat) (v : List Int) : Bool := followsF a (sumF a.coefs v) s
/-- a configuration -/
def cfgC (s : Nat) (v : List Int) : CV := .mk 0 (.mk s [] :: v.map fun n => .mk n [])
theorem cfg_nums (v : List Int) : (v.map fun n => CV.mk n []).map CV.n = v := by rw [List.map_map]; exact List.map_id v
set_option maxRecDepth 100000 in
theorem con_holds (a : AtomD) (s : Nat) (v : List Int) (h1 : a.coefs.length ≤ v.length) (h6 : v.length ≤ 1000000) (hc : SmallI 4 a.coefs) (hv : SmallI 1048576 v) (hs : s < a.values.length) (hm : ModOk a.mod) : Con Tryz.prog 95 [vAtom a, vV (cfgC s v)] [] fun x _ => x = vb (holdsF a s v) := by
  have e0 := vV_eq (cfgC s v)
  rw [e0]
  refine Con.intro Tryz.func95 rfl Tryz.ntmps95 Tryz.results95 (by kernel_rfl) (by simp) 2 (by simp) ?_
  have hmo := hm
  unfold ModOk at hmo
  have hk : (cfgC s v).kids = .mk s [] :: v.map fun n => .mk n [] := rfl
  have hg : ((cfgC s v).kids.map vV)[0]? = some (.ag [.sc (.int .i64 s), .sl 0 2 []]) := getvV (l := (cfgC s v).kids) (by rw [hk]; simp)
  have hl : 0 < (cfgC s v).kids.length := by rw [hk]; simp
  have hn := con_numbers (cfgC s v).n (.mk s []) (v.map fun n => .mk n []) (by simpa using h6)
  rw [cfg_nums, ← hk] at hn
  simp only [go_sem]
  refine DrawK.walk 13 mixed (by kernel_rfl) ?_
  simp only [go_sem]
  refine CallY.mk hn (by simp only [go_sem]) (by simp only [go_sem]) (.inl (by simp only [go_sem])) ?_
  simp only [go_sem]
  refine CallY.mk (con_sum a.coefs v h1 (by omega) hc hv) (by simp only [go_sem]) (by simp only [go_sem]) (.inr (by simp only [go_sem])) ?_
  simp only [go_sem, hl, hg]
  refine CallY.mk (con_follows a (sumF a.coefs v) s hs (by omega) (by omega)) (by simp only [go_sem]) (by simp only [go_sem]) (.inl (by simp only [go_sem])) ?_
  simp only [go_sem]
  rfl
/-- rules whose lists have their lengths and small numbers -/
structure FineR (ns np : Nat) (r : RD) : Prop where
  right : RightR ns np r
  need : SmallI 1048576 r.need
  give : SmallI 1048576 r.give
theorem rule_fine {ns np : Nat} {r : RD} (h : ruleB ns np r = true) : FineR ns np r := by
  unfold ruleB changesB indexB smallB betweenB at h
  simp only [Bool.and_eq_true, decide_eq_true_eq, List.all_eq_true] at h
  obtain ⟨⟨⟨⟨h1, h2⟩, ⟨h3, h4⟩⟩, ⟨⟨⟨h5, h6⟩, h7⟩, h8⟩⟩, _⟩ := h
  refine ⟨⟨by omega, by omega, by omega, by omega, h5, h6⟩, fun x hx => ?_, fun x hx => ?_⟩
  · have := h7 x hx; omega
  · have := h8 x hx; omega
theorem effect_small {np : Nat} {c : List Int} {r : RD} {ns : Nat} (hr : FineR ns np r) (hl : c.length ≤ 6) (hc : SmallI 4 c) : -50331648 ≤ effectF c r ∧ effectF c r ≤ 50331648 := by
  have b1 := sum_small hc hr.give
  have b2 := sum_small hc hr.need
  have b3 := mul_le6 hl
  unfold effectF
  omega
/-- the error of a valid atom -/
def closedF (rules : List RD) (s0 : Nat) (v0 : List Int) (a : AtomD) : Int := if holdsF a s0 v0 then (if rules.all (keepsF a) then 0 else 41) else 42
theorem closed_bad {rules : List RD} {s0 : Nat} {v0 : List Int} {a : AtomD} {i : Nat} (h : i < rules.length) (h0 : holdsF a s0 v0 = true) (hb : keepsF a rules[i]! = false) : closedF rules s0 v0 a = 41 := by
  unfold closedF
  have : rules.all (keepsF a) = false := by rw [List.all_eq_false]; exact ⟨rules[i]!, mem_bangI h, by rw [hb]; simp⟩
  rw [h0, this]; rfl
theorem closed_ok {rules : List RD} {s0 : Nat} {v0 : List Int} {a : AtomD} (h0 : holdsF a s0 v0 = true) (h : ∀ i, i < rules.length → keepsF a rules[i]! = true) : closedF rules s0 v0 a = 0 := by
  unfold closedF
  have : rules.all (keepsF a) = true := by
    rw [List.all_eq_true]
    intro r hr
    obtain ⟨j, hj⟩ := List.getElem?_of_mem hr
    have hjl := (List.getElem?_eq_some_iff.1 hj).1
    have := h j hjl
    rw [getElem!_pos rules j hjl, (List.getElem?_eq_some_iff.1 hj).2] at this; exact this
  rw [h0, this]; rfl
set_option maxRecDepth 100000 in
set_option maxHeartbeats 2000000 in
theorem con_closed (m : MD) (a : AtomD) (s0 : Nat) (v0 : List Int) (hst : m.start = cfgC s0 v0) (hv0 : v0.length = m.places.length) (hb0 : SmallI 1048576 v0) (hs0 : s0 < m.states.length)
    (hr : ∀ r ∈ m.rules, FineR m.states.length m.places.length r) (hp : m.places.length ≤ 6) (hrl : m.rules.length ≤ 1000000) (ha : FormA m a) (hB : InB 1099511627776 a.values) :
    Con Tryz.prog 92 [vM m, vAtom a] [] fun x _ => x = vi (closedF m.rules s0 v0 a) := by
  refine Con.intro Tryz.func92 rfl Tryz.ntmps92 Tryz.results92 (by kernel_rfl) (by simp) 2 (by simp) ?_
  have hmo := ha.mod
  unfold ModOk at hmo
  have lc := ha.coefs
  have lv := ha.values
  simp only [go_sem]
  refine CallU.free (con_holds a s0 v0 (by omega) (by omega) ha.small hb0 (by omega) ha.mod) (by simp only [go_sem]) (by simp only [go_sem, ← hst, vV_eq]) ?_
  rintro r bx rfl
  cases hh : holdsF a s0 v0
  · have e : closedF m.rules s0 v0 a = 42 := by unfold closedF; rw [hh]; rfl
    simp only [go_sem, e]
  simp only [go_sem]
  refine LoopK.intro (fun i : Nat => ⟨42, [(2, .pb 0 0), (3, .pb 1 0), (14, .sl 0 14 (m.rules.map vRule)), (15, vi m.rules.length), (16, vi i)], cM m :: [vs 0 a.coefs, vi a.mod, vs 0 a.values] :: Rk 14 i⟩)
    (fun i => m.rules.length - i) (fun i => i ≤ m.rules.length ∧ ∀ j, j < i → keepsF a m.rules[j]! = true) 0 ⟨by omega, fun j hj => by omega⟩ ?_ ?_
  · simp only [go_sem]
    exact leB_self _
  rintro i ⟨hi, hb⟩
  by_cases h : i < m.rules.length
  · have hg := getRule h
    have hw : IntKind.i64.wrap (i + 1) = i + 1 := wrap_in (by omega) (by omega)
    have hB' := Rk_len 14 i
    have n0 := fun L : List (List AV) => app_at0 (L := L) hB'
    have s0' := fun (L : List (List AV)) z => app_set0 (L := L) (z := z) hB'
    have hf := hr m.rules[i]! (mem_bangI h)
    obtain ⟨r1, r2, r3, r4, r5, r6⟩ := hf.right
    have ds : (m.rules[i]!.src.toNat : Int) = m.rules[i]!.src := by omega
    have dd : (m.rules[i]!.dst.toNat : Int) = m.rules[i]!.dst := by omega
    have hsl : m.rules[i]!.src.toNat < a.values.length := by omega
    have hdl : m.rules[i]!.dst.toNat < a.values.length := by omega
    have gs := getv hsl
    simp only [go_sem, h, hg, hB', n0, s0', r1, gs]
    refine ⟨by omega, ?_⟩
    refine DrawK.walk 15 mixed (by kernel_rfl) ?_
    have next : ∀ {P : Prop}, keepsF a m.rules[i]! = true → (∀ j, j < i + 1 → keepsF a m.rules[j]! = true) := fun hk j hj => by
      by_cases hji : j = i
      · subst hji; exact hk
      · exact hb j (by omega)
    by_cases ho : a.values[m.rules[i]!.src.toNat]! = 1099511627776
    · have hk : keepsF a m.rules[i]! = true := by unfold keepsF omegaI; rw [ho]; rfl
      have ho' : (a.values[m.rules[i]!.src.toNat]! != 1099511627776) = false := by rw [ho]; rfl
      simp only [go_sem, ho', hw]
      refine roundK.intro (i + 1) ⟨by omega, next (P := True) hk⟩ (by omega) ?_
      simp only [go_sem, Rk_succ]
      exact leB_RkA ⟨leC_any _ 14 rfl, trivial⟩
    · have ho' : (a.values[m.rules[i]!.src.toNat]! != 1099511627776) = true := bne_iff_ne.2 ho
      have hE := effect_small hf (by omega) ha.small
      have hV := (hB m.rules[i]!.src.toNat).resolve_left ho
      have hw2 : IntKind.i64.wrap (a.values[m.rules[i]!.src.toNat]! + effectF a.coefs m.rules[i]!) = a.values[m.rules[i]!.src.toNat]! + effectF a.coefs m.rules[i]! := wrap_in (by omega) (by omega)
      have hk : keepsF a m.rules[i]! = followsF a (a.values[m.rules[i]!.src.toNat]! + effectF a.coefs m.rules[i]!) m.rules[i]!.dst.toNat := by
        unfold keepsF omegaI
        rw [beq_eq_false_iff_ne.2 ho, Bool.false_or]
      simp only [go_sem, ho', n0]
      refine CallY.mk (con_effect a.coefs m.rules[i]! (by omega) (by omega) (by omega) ha.small hf.give hf.need) (by simp only [go_sem]) (by simp only [go_sem]) (.inl (by simp only [go_sem])) ?_
      simp only [go_sem, hw2, n0]
      refine CallY.mk (con_follows a (a.values[m.rules[i]!.src.toNat]! + effectF a.coefs m.rules[i]!) m.rules[i]!.dst.toNat hdl (by omega) (by omega)) (by simp only [go_sem, dd]) (by simp only [go_sem]) (.inl (by simp only [go_sem])) ?_
      cases hq : followsF a (a.values[m.rules[i]!.src.toNat]! + effectF a.coefs m.rules[i]!) m.rules[i]!.dst.toNat
      · simp only [go_sem]
        rw [closed_bad h hh (by rw [hk]; exact hq)]
      · simp only [go_sem, hw]
        refine roundK.intro (i + 1) ⟨by omega, next (P := True) (by rw [hk]; exact hq)⟩ (by omega) ?_
        simp only [go_sem, Rk_succ]
        exact leB_RkA ⟨leC_any _ 14 rfl, trivial⟩
  · simp only [go_sem, h]
    rw [closed_ok hh (fun j hj => hb j (by omega))]
end Go.AM

/-! ## CmT -/
namespace Go.AM
open Go Go.Proofs Go.RowKit

theorem values_bnd {mod : Int} {l : List Int} (hm : ModOk mod) (h : valuesB mod l = true) : InB 1099511627776 l := fun s => by
  by_cases hs : s < l.length
  · unfold valuesB at h
    simp only [Bool.not_eq_true', List.any_eq_false] at h
    have := h l[s]! (mem_bangI hs)
    unfold badV omegaI at *
    by_cases ho : l[s]! = 1099511627776
    · exact .inl ho
    · have ho' : (l[s]! != 1099511627776) = true := bne_iff_ne.2 ho
      rw [ho', Bool.true_and] at this
      simp only [Bool.or_eq_true, decide_eq_true_eq, not_or] at this
      unfold lowF highF ModOk at *
      right
      split at this <;> omega
  · have : l[s]! = 0 := by rw [getElem!_neg l s hs]; rfl
    rw [this]; right; omega
/-- a configuration that is right -/
structure GoodC (m : MD) (s : Nat) (v : List Int) : Prop where
  state : s < m.states.length
  len : v.length = m.places.length
  low : ∀ x ∈ v, 0 ≤ x ∧ x ≤ 1048576
theorem GoodC.small {m : MD} {s : Nat} {v : List Int} (h : GoodC m s v) : SmallI 1048576 v := fun x hx => by have := h.low x hx; omega
theorem GoodC.conf {m : MD} {s : Nat} {v : List Int} (h : GoodC m s v) : confB m.states.length m.places.length (cfgC s v) = true := by
  have h1 := h.state
  have a1 : (v.map fun n => CV.mk n []).all (fun k => decide (0 ≤ k.n) && decide (k.n ≤ 1048576) && k.kids.length == 0) = true := by
    rw [List.all_map, List.all_eq_true]
    intro n hn
    have := h.low n hn
    show (decide (0 ≤ n) && decide (n ≤ 1048576) && true) = true
    rw [decide_eq_true this.1, decide_eq_true this.2]; rfl
  have a2 : decide ((0 : Int) ≤ (s : Int)) = true := decide_eq_true (by omega)
  have a3 : decide ((s : Int) < (m.states.length : Int)) = true := decide_eq_true (by omega)
  have a4 : ((v.map fun n => CV.mk n []).length == m.places.length) = true := by rw [List.length_map, h.len]; simp
  show (((((((0 : Int) == 0) && decide ((0 : Int) ≤ (s : Int))) && decide ((s : Int) < (m.states.length : Int))) && true) && ((v.map fun n => CV.mk n []).length == m.places.length)) && (v.map fun n => CV.mk n []).all (fun k => decide (0 ≤ k.n) && decide (k.n ≤ 1048576) && k.kids.length == 0)) = true
  rw [a1, a2, a3, a4]; rfl
/-- a counter model without moves -/
structure PlainM (m : MD) (s0 : Nat) (v0 : List Int) : Prop where
  good : GoodM m
  still : m.rules.all stillB = true
  start : m.start = cfgC s0 v0
  conf : GoodC m s0 v0
theorem PlainM.fine {m : MD} {s0 : Nat} {v0 : List Int} (h : PlainM m s0 v0) : ∀ r ∈ m.rules, FineR m.states.length m.places.length r := fun r hr => rule_fine (h.good.rules r hr).1
set_option maxRecDepth 100000 in
set_option maxHeartbeats 1000000 in
theorem con_Holds (m : MD) (a : AtomD) (s0 : Nat) (v0 : List Int) (s : Nat) (v : List Int) (h : PlainM m s0 v0) (ha : FormA m a) (hc : GoodC m s v) :
    Con Tryz.prog 35 [vM m, vAtom a, vV (cfgC s v)] [] fun x _ => x = .tup [vb (valuesB a.mod a.values && holdsF a s v), vi (acheckF a)] := by
  have e0 := vV_eq (cfgC s v)
  have hco := conf_ok (by have := h.good.places; omega) hc.conf
  have h2 := h.good.places
  have h1 := h.good.states
  rw [e0]
  refine Con.intro Tryz.func35 rfl Tryz.ntmps35 Tryz.results35 (by kernel_rfl) (by simp) 3 (by simp) ?_
  simp only [go_sem]
  refine CallU.free (con_acheck m a h.good h.still ha) (by simp only [go_sem]) (by simp only [go_sem]) ?_
  rintro r bx rfl
  unfold acheckF
  cases hv : valuesB a.mod a.values
  · simp only [go_sem, Bool.false_eq_true, if_false]
    all_goals simp
  simp only [go_sem, if_true]
  refine CallU.free (con_mvalid m (cfgC s v) h.good hco.1 (by omega)) (by simp only [go_sem]) (by simp only [go_sem, vV_eq]) ?_
  rintro r bx rfl
  simp only [go_sem, hc.conf]
  refine CallU.free (con_holds a s v (by rw [ha.coefs, hc.len]; exact Nat.le_refl _) (by rw [hc.len]; omega) ha.small hc.small (by rw [ha.values]; exact hc.state) ha.mod) (by simp only [go_sem]) (by simp only [go_sem, vV_eq]) ?_
  rintro r bx rfl
  simp only [go_sem, Bool.true_and]
set_option maxRecDepth 100000 in
set_option maxHeartbeats 1000000 in
theorem con_Closed (m : MD) (a : AtomD) (s0 : Nat) (v0 : List Int) (h : PlainM m s0 v0) (ha : FormA m a) :
    Con Tryz.prog 33 [vM m, vAtom a] [] fun x _ => x = vi (if valuesB a.mod a.values then closedF m.rules s0 v0 a else 44) := by
  have h2 := h.good.places
  have h3 := h.good.few
  refine Con.intro Tryz.func33 rfl Tryz.ntmps33 Tryz.results33 (by kernel_rfl) (by simp) 2 (by simp) ?_
  simp only [go_sem]
  refine CallU.free (con_acheck m a h.good h.still ha) (by simp only [go_sem]) (by simp only [go_sem]) ?_
  rintro r bx rfl
  unfold acheckF
  cases hv : valuesB a.mod a.values
  · simp only [go_sem, Bool.false_eq_true, if_false]
    all_goals simp
  simp only [go_sem, if_true]
  refine CallU.free (con_closed m a s0 v0 h.start h.conf.len h.conf.small h.conf.state h.fine (by omega) (by omega) ha (values_bnd ha.mod hv)) (by simp only [go_sem]) (by simp only [go_sem]) ?_
  rintro r bx rfl
  simp only [go_sem]
set_option maxRecDepth 100000 in
set_option maxHeartbeats 1000000 in
theorem con_Excludes (m : MD) (a : AtomD) (s0 : Nat) (v0 : List Int) (s : Nat) (v : List Int) (h : PlainM m s0 v0) (ha : FormA m a) (hc : GoodC m s v) :
    Con Tryz.prog 36 [vM m, vAtom a, vV (cfgC s v)] [] fun x _ => x = .tup [vb (valuesB a.mod a.values && (!holdsF a s v) && closedF m.rules s0 v0 a == 0), vi (acheckF a)] := by
  have e0 := vV_eq (cfgC s v)
  have h2 := h.good.places
  have h3 := h.good.few
  have hH := con_Holds m a s0 v0 s v h ha hc
  unfold acheckF at hH ⊢
  rw [e0] at hH ⊢
  refine Con.intro Tryz.func36 rfl Tryz.ntmps36 Tryz.results36 (by kernel_rfl) (by simp) 3 (by simp) ?_
  simp only [go_sem]
  refine CallU.free hH (by simp only [go_sem]) (by simp only [go_sem]) ?_
  rintro r bx rfl
  cases hv : valuesB a.mod a.values
  · simp only [go_sem, Bool.false_eq_true, if_false, Bool.false_and]
    all_goals simp
  simp only [go_sem, if_true, Bool.true_and]
  cases hh : holdsF a s v
  · simp only [go_sem]
    refine CallU.free (con_closed m a s0 v0 h.start h.conf.len h.conf.small h.conf.state h.fine (by omega) (by omega) ha (values_bnd ha.mod hv)) (by simp only [go_sem]) (by simp only [go_sem]) ?_
    rintro r bx rfl
    simp only [go_sem]
    all_goals simp
  · simp only [go_sem]
    all_goals simp
end Go.AM

/-! ## CrA -/
namespace Go.AM
open Go Go.Proofs Go.RowKit

set_option maxRecDepth 100000 in
theorem con_rbetween (x lo hi : Int) : Con Tryz.prog 85 [vi x, vi lo, vi hi] [] fun r _ => r = vb (betweenB x lo hi) := by
  refine Con.intro Tryz.func85 rfl Tryz.ntmps85 Tryz.results85 (by kernel_rfl) (by simp) 0 (by simp) ?_
  unfold betweenB
  by_cases h1 : lo ≤ x
  · by_cases h2 : x ≤ hi
    · simp only [go_sem, h1, h2, decide_true, Bool.and_true]
    · simp only [go_sem, h1, h2, decide_true, decide_false, Bool.and_false]
  · simp only [go_sem, h1, decide_false, Bool.false_and]
theorem between_true {x lo hi : Int} (h1 : lo ≤ x) (h2 : x ≤ hi) : betweenB x lo hi = true := by
  unfold betweenB; rw [decide_eq_true h1, decide_eq_true h2]; rfl
set_option maxRecDepth 100000 in
theorem con_rnumbers (m : MD) (h : GoodM m) : Con Tryz.prog 86 [vM m] [] fun r _ => r = vb true := by
  refine Con.intro Tryz.func86 rfl Tryz.ntmps86 Tryz.results86 (by kernel_rfl) (by simp) 0 (by simp) ?_
  have h1 := h.states; have h2 := h.places; have h3 := h.few
  have b1 := con_rbetween m.states.length 1 8
  have b2 := con_rbetween m.places.length 1 6
  have b3 := con_rbetween 0 0 0
  rw [between_true (by omega) (by omega)] at b1 b2
  rw [between_true (by omega) (by omega)] at b3
  have h4 : ¬ ((12 : Int) < m.rules.length) := by omega
  unfold vM cM
  rw [h.kind, h.letters, h.levels, h.age]
  simp only [go_sem, vss, List.length_map]
  refine CallU.free b1 (by simp only [go_sem]) (by simp only [go_sem]) ?_
  rintro r bx rfl
  simp only [go_sem, List.length_map]
  refine CallU.free b2 (by simp only [go_sem]) (by simp only [go_sem]) ?_
  rintro r bx rfl
  simp only [go_sem, List.length_map, h4, List.length_nil]
  refine CallU.free b3 (by simp only [go_sem]) (by simp only [go_sem]) ?_
  rintro r bx rfl
  simp only [go_sem]
  refine CallU.free b3 (by simp only [go_sem]) (by simp only [go_sem]) ?_
  rintro r bx rfl
  simp only [go_sem]
set_option maxRecDepth 100000 in
theorem con_rranks (m : MD) (h : GoodM m) : Con Tryz.prog 87 [vM m] [] fun r _ => r = vb true := by
  refine Con.intro Tryz.func87 rfl Tryz.ntmps87 Tryz.results87 (by kernel_rfl) (by simp) 0 (by simp) ?_
  unfold vM cM
  rw [h.kind, h.ranks]
  simp only [go_sem, List.map_nil, List.length_nil]
set_option maxRecDepth 100000 in
theorem con_rletter (c : UInt8) : Con Tryz.prog 191 [u8v c] [] fun r _ => r = vb (partB c) := by
  refine Con.intro Tryz.func191 rfl Tryz.ntmps191 Tryz.results191 (by kernel_rfl) (by simp) 0 (by simp) ?_
  unfold partB
  rw [u8_eq (k := 95) (c := c) (n := 95) rfl, letterB_eq, digitB_eq]
  by_cases h1 : (97 : Int) ≤ (c.toNat : Int) <;> by_cases h2 : (c.toNat : Int) ≤ 122 <;> by_cases h3 : (48 : Int) ≤ (c.toNat : Int) <;> by_cases h4 : (c.toNat : Int) ≤ 57 <;>
    (simp only [go_sem, h1, h2, h3, h4, decide_true, decide_false, Bool.and_true, Bool.and_false, Bool.true_or, Bool.or_true, Bool.false_or, Bool.or_false]; all_goals simp)
set_option maxRecDepth 100000 in
theorem con_rword (s : ByteArray) (hw : wordB s = true) : Con Tryz.prog 145 [vStr s] [] fun r _ => r = vb true := by
  refine Con.intro Tryz.func145 rfl Tryz.ntmps145 Tryz.results145 (by kernel_rfl) (by simp) 0 (by simp) ?_
  unfold wordB at hw
  rw [ByteArray.toList_eq] at hw
  simp only [Bool.and_eq_true, decide_eq_true_eq, List.all_eq_true] at hw
  obtain ⟨⟨⟨h1, h2⟩, h3⟩, h4⟩ := hw
  have hp : ∀ j, j < s.size → partB s.data.toList[j]! = true := fun j hj => h4 _ (by
    have h5 : j < s.data.toList.length := by rw [ba_len]; exact hj
    rw [getElem!_pos _ j h5]; exact List.getElem_mem h5)
  have e0 : s.get! 0 = s.data.toList[0]! := by
    have h5 : 0 < s.data.toList.length := by rw [ba_len]; exact h1
    rw [getElem!_pos s.data.toList 0 h5, Array.getElem_toList]
    show s.data[0]! = _
    rw [getElem!_pos s.data 0 h1]
  rw [e0, letterB_eq, Bool.and_eq_true, decide_eq_true_eq, decide_eq_true_eq] at h3
  simp only [go_sem]
  refine LoopK.intro (fun i : Nat => ⟨33, [(0, vStr s), (3, vi i)], []⟩) (fun i => s.size - i) (fun i => i ≤ s.size) 0 (by omega) ?_ ?_
  · simp only [go_sem]
  rintro i hi
  by_cases h : i < s.size
  · have hg := ba_get h
    have hw : IntKind.i64.wrap (i + 1) = i + 1 := wrap_in (by omega) (by omega)
    have hl := con_rletter s.data.toList[i]!
    rw [hp i h] at hl
    simp only [go_sem, h, hg]
    refine CallU.free hl (by simp only [go_sem]) (by simp only [go_sem]) ?_
    rintro r bx rfl
    simp only [go_sem, hw]
    refine roundK.intro (i + 1) (by omega) (by omega) ?_
    simp only [go_sem]
  · have hg := ba_get h1
    have g1 : (1 : Int) ≤ (s.size : Int) := by omega
    have g2 : (s.size : Int) ≤ 12 := by omega
    simp only [go_sem, h, hg, g1, g2, h3.1, h3.2]
theorem ba_eq {a b : ByteArray} : (a.toList == b.toList) = (a.data.toList == b.data.toList) := by rw [ByteArray.toList_eq, ByteArray.toList_eq]
end Go.AM

/-! ## CrB -/
namespace Go.AM
open Go Go.Proofs Go.RowKit

theorem keyword_no {s : ByteArray} (h : keywordB s = false) {i : Nat} (hi : i < kwL.length) : (kwL[i]!.toList == s.toList) = false := by
  unfold keywordB at h
  rw [List.any_eq_false] at h
  have := h kwL[i]! (mem_bangI hi)
  rw [Bool.not_eq_true] at this
  rw [beq_eq_false_iff_ne] at this ⊢
  exact fun e => this e.symm
theorem kwL_len : kwL.length = 18 := rfl
set_option maxRecDepth 100000 in
theorem con_rkeyword (s : ByteArray) (hk : keywordB s = false) : Con Tryz.prog 146 [vStr s] [] fun r _ => r = vb false := by
  refine Con.intro Tryz.func146 rfl Tryz.ntmps146 Tryz.results146 (by kernel_rfl) (by simp) 0 (by simp) ?_
  simp only [go_sem]
  refine LoopK.intro (fun i : Nat => ⟨18, [(0, vStr s), (3, .sl 384 1 (kwL.map vStr)), (4, vi i)], []⟩) (fun i => 18 - i) (fun i => i ≤ 18) 0 (by omega) ?_ ?_
  · simp only [go_sem, kwL, List.map_cons, List.map_nil]
  rintro i hi
  by_cases h : i < 18
  · have hl : i < kwL.length := by rw [kwL_len]; exact h
    have hg := getStr hl
    have hw : IntKind.i64.wrap (i + 1) = i + 1 := wrap_in (by omega) (by omega)
    have hn := keyword_no hk hl
    simp only [go_sem, kwL_len, h, hg, hn, hw]
    refine roundK.intro (i + 1) (by omega) (by omega) ?_
    simp only [go_sem]
  · simp only [go_sem, kwL_len, h]
set_option maxRecDepth 100000 in
theorem con_rlist (l : List Int) (n : Nat) (lo hi : Int) (hn : l.length = n) (h6 : n ≤ 1000000) (hb : ∀ x ∈ l, betweenB x lo hi = true) : Con Tryz.prog 147 [vs 0 l, vi n, vi lo, vi hi] [] fun r _ => r = vb true := by
  refine Con.intro Tryz.func147 rfl Tryz.ntmps147 Tryz.results147 (by kernel_rfl) (by simp) 0 (by simp) ?_
  simp only [go_sem]
  refine LoopK.intro (fun i : Nat => ⟨28, [(0, vs 0 l), (1, vi n), (2, vi lo), (3, vi hi), (9, vi i)], []⟩) (fun i => l.length - i) (fun i => i ≤ l.length) 0 (by omega) ?_ ?_
  · simp only [go_sem]
  rintro i hi2
  by_cases h : i < l.length
  · have hg := getv h
    have hw : IntKind.i64.wrap (i + 1) = i + 1 := wrap_in (by omega) (by omega)
    have hc := con_rbetween l[i]! lo hi
    rw [hb _ (mem_bangI h)] at hc
    simp only [go_sem, h, hg]
    refine CallU.free hc (by simp only [go_sem]) (by simp only [go_sem]) ?_
    rintro r bx rfl
    simp only [go_sem, hw]
    refine roundK.intro (i + 1) (by omega) (by omega) ?_
    simp only [go_sem]
  · subst hn
    simp only [go_sem, h]
def namesTree : Tr := .front 0 (.front 3 (.front 6 (.alt (.one 1 (.alt (.one 2 (.alt (.one 4 (.alt (.one 5 (.one 7 (.one 8 (.one 9 .done)))) (.one 7 (.one 5 (.one 8 (.one 9 .done)))))) (.one 7 (.one 4 (.one 5 (.one 8 (.one 9 .done))))))) (.alt (.one 4 (.alt (.one 2 (.alt (.one 5 (.one 7 (.one 8 (.one 9 .done)))) (.one 7 (.one 5 (.one 8 (.one 9 .done)))))) (.one 7 (.one 2 (.one 5 (.one 8 (.one 9 .done))))))) (.one 7 (.alt (.one 2 (.one 4 (.one 5 (.one 8 (.one 9 .done))))) (.one 4 (.one 2 (.one 5 (.one 8 (.one 9 .done)))))))))) (.alt (.one 4 (.alt (.one 1 (.alt (.one 2 (.alt (.one 5 (.one 7 (.one 8 (.one 9 .done)))) (.one 7 (.one 5 (.one 8 (.one 9 .done)))))) (.one 7 (.one 2 (.one 5 (.one 8 (.one 9 .done))))))) (.one 7 (.one 1 (.one 2 (.one 5 (.one 8 (.one 9 .done)))))))) (.one 7 (.alt (.one 1 (.alt (.one 2 (.one 4 (.one 5 (.one 8 (.one 9 .done))))) (.one 4 (.one 2 (.one 5 (.one 8 (.one 9 .done))))))) (.one 4 (.one 1 (.one 2 (.one 5 (.one 8 (.one 9 .done))))))))))))
theorem names_at {l : List ByteArray} (h : namesB l = true) {i : Nat} (hi : i < l.length) : wordB l[i]! = true ∧ keywordB l[i]! = false ∧ ∀ k, k < i → (l[k]!.toList == l[i]!.toList) = false := by
  unfold namesB at h
  have h1 := List.all_eq_true.1 h i (List.mem_range.2 hi)
  unfold okN at h1
  simp only [Bool.and_eq_true, Bool.not_eq_true'] at h1
  refine ⟨h1.1.1, h1.1.2, fun k hk => ?_⟩
  have h2 := h1.2
  rw [ba_eq, beq_eq_false_iff_ne]
  intro e
  have h3 : l[i]!.data.toList ∈ (l.take i).map fun s => s.data.toList := by
    refine List.mem_map.2 ⟨l[k]!, ?_, e⟩
    rw [getElem!_pos l k (by omega)]
    exact List.mem_of_getElem? (i := k) (by rw [List.getElem?_take, if_pos hk]; simp)
  rw [List.contains_iff_mem.2 h3] at h2
  cases h2
set_option maxRecDepth 100000 in
set_option maxHeartbeats 4000000 in
theorem con_rnames (m : MD) (h : GoodM m) : Con Tryz.prog 88 [vM m] [] fun r _ => r = vb true := by
  refine Con.intro Tryz.func88 rfl Tryz.ntmps88 Tryz.results88 (by kernel_rfl) (by simp) 0 (by simp) ?_
  have h1 := h.states; have h2 := h.places; have h3 := h.few
  have r1 : roomFor m.states.length 16 := by simp only [roomFor]; omega
  have r2 : roomFor (m.states.length + m.places.length) 16 := by simp only [roomFor]; omega
  have e0 : namesTo m 0 = m.states ++ m.places := by rw [namesTo_zero, h.letters]; simp
  unfold vM cM
  simp only [go_sem, vss, h.letters, List.map_nil]
  refine DrawK.meet ⟨65, [(1, .pb 0 0), (2, vb false), (3, .sl 640 1 ((namesTo m 0).map vStr))], [[vi m.kind, .sl 0 1 (m.states.map vStr), .sl 0 1 (m.places.map vStr), .sl 0 1 [], vs 0 m.ranks, vi m.levels, vi m.age, .sl 0 14 (m.rules.map vRule), vi m.start.n, .sl 0 2 (m.start.kids.map vV)]]⟩ ?_ ?_
  · refine DrawK.tree namesTree mixed (by kernel_rfl) ?_
    unfold namesTree
    rw [e0, List.map_append]
    repeat' (first | with_reducible apply andK_mk | simp only [go_sem, List.length_map, List.length_append, List.append_nil, r1, r2])
  · simp only [go_sem]
    refine LoopK.intro (fun i : Nat => ⟨65, [(1, .pb 0 0), (2, vb false), (3, .sl 640 1 ((namesTo m i).map vStr)), (4, vi i)], [[vi m.kind, .sl 0 1 (m.states.map vStr), .sl 0 1 (m.places.map vStr), .sl 0 1 [], vs 0 m.ranks, vi m.levels, vi m.age, .sl 0 14 (m.rules.map vRule), vi m.start.n, .sl 0 2 (m.start.kids.map vV)]]⟩)
      (fun i => m.rules.length - i) (fun i => i ≤ m.rules.length) 0 (by omega) ?_ ?_
    · simp only [go_sem]
    rintro i hi
    have hn := namesTo_len (m := m) (i := i)
    have hL : (namesOf m).length ≤ 1000 := by unfold namesOf; simp only [List.length_append, List.length_map, h.letters, List.length_nil]; omega
    by_cases hlt : i < m.rules.length
    · have hg := getRule hlt
      have hw : IntKind.i64.wrap (i + 1) = i + 1 := wrap_in (by omega) (by omega)
      have e := namesTo_succ hlt
      have hr : roomFor ((namesTo m i).length + 1) 16 := by simp only [roomFor]; omega
      simp only [go_sem, hlt, hg, hw, hr]
      refine roundK.intro (i + 1) (by omega) (by omega) ?_
      simp only [go_sem, e, List.map_append, List.map_cons, List.map_nil]
    obtain rfl : i = m.rules.length := by omega
    rw [namesTo_all]
    simp only [go_sem, hlt]
    have hnm := h.names
    generalize namesOf m = l at *
    refine LoopK.intro (fun i : Nat => ⟨65, [(1, .pb 0 0), (2, vb false), (3, .sl 640 1 (l.map vStr)), (5, vi i)], [[vi m.kind, .sl 0 1 (m.states.map vStr), .sl 0 1 (m.places.map vStr), .sl 0 1 [], vs 0 m.ranks, vi m.levels, vi m.age, .sl 0 14 (m.rules.map vRule), vi m.start.n, .sl 0 2 (m.start.kids.map vV)]]⟩)
      (fun i => l.length - i) (fun i => i ≤ l.length) 0 (by omega) ?_ ?_
    · simp only [go_sem]
    rintro i hi
    by_cases hlt2 : i < l.length
    · obtain ⟨a1, a2, a3⟩ := names_at hnm hlt2
      have hg := getStr hlt2
      have hw : IntKind.i64.wrap (i + 1) = i + 1 := wrap_in (by omega) (by omega)
      simp only [go_sem, hlt2, hg]
      refine CallU.free (con_rword l[i]! a1) (by simp only [go_sem]) (by simp only [go_sem]) ?_
      rintro r bx rfl
      simp only [go_sem, hlt2, hg]
      refine CallU.free (con_rkeyword l[i]! a2) (by simp only [go_sem]) (by simp only [go_sem]) ?_
      rintro r bx rfl
      simp only [go_sem]
      refine LoopK.intro (fun k : Nat => ⟨65, [(1, .pb 0 0), (2, vb false), (3, .sl 640 1 (l.map vStr)), (5, vi i), (6, vi k)], [[vi m.kind, .sl 0 1 (m.states.map vStr), .sl 0 1 (m.places.map vStr), .sl 0 1 [], vs 0 m.ranks, vi m.levels, vi m.age, .sl 0 14 (m.rules.map vRule), vi m.start.n, .sl 0 2 (m.start.kids.map vV)]]⟩)
        (fun k => i - k) (fun k => k ≤ i) 0 (by omega) ?_ ?_
      · simp only [go_sem]
      rintro k hk
      by_cases hki : k < i
      · have hkl : k < l.length := by omega
        have hgk := getStr hkl
        have hwk : IntKind.i64.wrap (k + 1) = k + 1 := wrap_in (by omega) (by omega)
        have hne := a3 k hki
        simp only [go_sem, hki]
        refine DrawK.walk 9 mixed (by kernel_rfl) ?_
        simp only [go_sem, hlt2, hkl, hg, hgk, hne, hwk]
        refine roundK.intro (k + 1) (by omega) (by omega) ?_
        simp only [go_sem]
      · simp only [go_sem, hki, hw]
        refine roundK.intro (i + 1) (by omega) (by omega) ?_
        simp only [go_sem]
    · simp only [go_sem, hlt2]
end Go.AM

/-! ## CrC -/
namespace Go.AM
open Go Go.Proofs Go.RowKit

set_option maxRecDepth 100000 in
set_option maxHeartbeats 4000000 in
theorem con_rright (m : MD) (r : RD) (h : GoodM m) (hr : r ∈ m.rules) : Con Tryz.prog 89 [vM m, vRule r] [] fun x _ => x = vb true := by
  refine Con.intro Tryz.func89 rfl Tryz.ntmps89 Tryz.results89 (by kernel_rfl) (by simp) 0 (by simp) ?_
  have h1 := h.states; have h2 := h.places
  obtain ⟨hb1, hb2⟩ := h.rules r hr
  obtain ⟨nm, s, d, nd, gv, mv, rfl⟩ : ∃ nm s d nd gv mv, r = bareR nm s d nd gv mv := ⟨_, _, _, _, _, _, bare_of hb2⟩
  unfold ruleB changesB movesB indexB smallB at hb1
  simp only [Bool.and_eq_true, decide_eq_true_eq, List.all_eq_true, Bool.or_eq_true] at hb1
  obtain ⟨⟨⟨⟨d1, d2⟩, ⟨s1, s2⟩⟩, ⟨⟨⟨n1, g1⟩, n2⟩, g2⟩⟩, mv1⟩ := hb1
  have ws : IntKind.i64.wrap ((m.states.length : Int) - 1) = (m.states.length : Int) - 1 := wrap_in (by omega) (by omega)
  have wp : IntKind.i64.wrap ((m.places.length : Int) - 1) = (m.places.length : Int) - 1 := wrap_in (by omega) (by omega)
  have b1 := con_rbetween s 0 ((m.states.length : Int) - 1)
  have b2 := con_rbetween d 0 ((m.states.length : Int) - 1)
  rw [between_true (by omega) (by omega)] at b1 b2
  have l1 := con_rlist nd m.places.length 0 16 n1 (by omega) n2
  have l2 := con_rlist gv m.places.length 0 16 g1 (by omega) g2
  unfold vM cM
  rw [h.kind]
  simp only [go_sem, vss, List.length_map, ws]
  refine CallU.free b1 (by simp only [go_sem]) (by simp only [go_sem]) ?_
  rintro x bx rfl
  simp only [go_sem, List.length_map, ws]
  refine CallU.free b2 (by simp only [go_sem]) (by simp only [go_sem]) ?_
  rintro x bx rfl
  simp only [go_sem, List.length_map]
  refine CallU.free l1 (by simp only [go_sem]) (by simp only [go_sem]) ?_
  rintro x bx rfl
  simp only [go_sem, List.length_map]
  refine CallU.free l2 (by simp only [go_sem]) (by simp only [go_sem]) ?_
  rintro x bx rfl
  by_cases hm : (0 : Int) < mv.length
  · have hml : mv.length = m.places.length ∧ ∀ x ∈ mv, betweenB x (-1) ((m.places.length : Int) - 1) = true := by
      rcases mv1 with e | e
      · rw [beq_iff_eq] at e; omega
      · exact e
    have l3 := con_rlist mv m.places.length (-1) ((m.places.length : Int) - 1) hml.1 (by omega) hml.2
    simp only [go_sem, List.length_map, hm, wp]
    refine CallU.free l3 (by simp only [go_sem]) (by simp only [go_sem]) ?_
    rintro x bx rfl
    simp only [go_sem, List.length_nil]
  · simp only [go_sem, List.length_map, hm, List.length_nil]
end Go.AM

/-! ## CrD -/
namespace Go.AM
open Go Go.Proofs Go.RowKit

set_option maxRecDepth 100000 in
set_option maxHeartbeats 1000000 in
theorem con_rtypeOf (m : MD) (h : GoodM m) : Con Tryz.prog 91 [vM m] [] fun r _ => r = flatT 2 (partsP m.states.length m.places.length) := by
  refine Con.intro Tryz.func91 rfl Tryz.ntmps91 Tryz.results91 (by kernel_rfl) (by simp) 0 (by simp) ?_
  have h2 := h.places
  unfold vM cM
  rw [h.kind, h.letters]
  simp only [go_sem, vss, List.length_map, List.map_nil, List.length_nil]
  refine LoopK.intro (fun i : Nat => ⟨96, [(1, .pb 0 0), (2, .pb 1 0), (3, .pb 2 0), (4, .pb 3 0), (8, vi i)], [vi 1, .sl 0 1 (m.states.map vStr), .sl 0 1 (m.places.map vStr), .sl 0 1 [], vs 0 m.ranks, vi m.levels, vi m.age, .sl 0 14 (m.rules.map vRule), vi m.start.n, .sl 0 2 (m.start.kids.map vV)] :: [.any, .any, .any, .any] :: [vi 3, vi 0, .nil, .sl 960 4 ((partsP m.states.length i).map vPT)] :: [.any, .any, .any, .any] :: Rk 4 i⟩)
    (fun i => m.places.length - i) (fun i => i ≤ m.places.length) 0 (by omega) ?_ ?_
  · simp only [go_sem, partsP, List.replicate_zero, List.map_cons, List.map_nil]
    all_goals exact leB_self _
  rintro i hi
  by_cases hlt : i < m.places.length
  · have hw : IntKind.i64.wrap (i + 1) = i + 1 := wrap_in (by omega) (by omega)
    have hB := Rk_len 4 i
    have n0 := fun L : List (List AV) => app_at0 (L := L) hB
    have s0 := fun (L : List (List AV)) z => app_set0 (L := L) (z := z) hB
    have e := parts_succ m.states.length i
    simp only [go_sem, hlt, hw, hB, n0, s0, List.length_map]
    refine ⟨by simp only [roomFor, parts_len]; omega, ?_⟩
    refine roundK.intro (i + 1) (by omega) (by omega) ?_
    simp only [go_sem, Rk_succ, e, List.map_append, List.map_cons, List.map_nil]
    exact leB_RkA ⟨leC_any _ 4 rfl, trivial⟩
  · obtain rfl : i = m.places.length := by omega
    simp only [go_sem, hlt, List.length_map]

set_option maxRecDepth 100000 in
theorem con_rvalidLeaf (p : Int × Int) (d : Int) (hp : LeafP p) (hd : d ≠ 0) : Con Tryz.prog 192 [vPT p, vi d] [] fun r _ => r = vb true := by
  refine Con.intro Tryz.func192 rfl Tryz.ntmps192 Tryz.results192 (by kernel_rfl) (by simp) 0 (by simp) ?_
  have hd0 : (d == 0) = false := beq_eq_false_iff_ne.2 hd
  obtain ⟨k, s⟩ := p
  rcases hp with hp | ⟨rfl, h1, h2⟩
  · cases hp
    simp only [go_sem, hd0]
  · simp only [go_sem, hd0, h1, h2]
set_option maxRecDepth 100000 in
set_option maxHeartbeats 1000000 in
theorem con_rvalidFlat (ps : List (Int × Int)) (hl : 1 ≤ ps.length) (hl2 : ps.length ≤ 8) (hp : ∀ p ∈ ps, LeafP p) : Con Tryz.prog 192 [flatT 0 ps, vi 8] [] fun r _ => r = vb true := by
  refine Con.intro Tryz.func192 rfl Tryz.ntmps192 Tryz.results192 (by kernel_rfl) (by simp) 0 (by simp) ?_
  have a1 : ¬ ((ps.length : Int) < 1) := by omega
  have a2 : ¬ ((8 : Int) < (ps.length : Int)) := by omega
  simp only [go_sem, a1, a2]
  refine LoopK.intro (fun i : Nat => ⟨132, [(1, vi 8), (2, .pb 0 0), (5, vi i)], [[vi 3, vi 0, .nil, .sl 0 4 (ps.map vPT)]]⟩)
    (fun i => ps.length - i) (fun i => i ≤ ps.length) 0 (by omega) ?_ ?_
  · simp only [go_sem]
  rintro i hi
  by_cases h : i < ps.length
  · have hg := getPT h
    have hw : IntKind.i64.wrap (i + 1) = i + 1 := wrap_in (by omega) (by omega)
    simp only [go_sem, h, hg]
    refine CallU.free (con_rvalidLeaf ps[i]! 7 (hp _ (mem_bangI h)) (by omega)) (by simp only [go_sem]) (by simp only [go_sem]; rfl) ?_
    rintro r bx rfl
    simp only [go_sem, hw]
    refine roundK.intro (i + 1) (by omega) (by omega) ?_
    simp only [go_sem]
  · simp only [go_sem, h]
set_option maxRecDepth 100000 in
theorem con_rtcheck (ps : List (Int × Int)) (hl : 1 ≤ ps.length) (hl2 : ps.length ≤ 8) (hp : ∀ p ∈ ps, LeafP p) : Con Tryz.prog 151 [flatT 0 ps] [] fun r _ => r = vi 0 := by
  refine Con.intro Tryz.func151 rfl Tryz.ntmps151 Tryz.results151 (by kernel_rfl) (by simp) 0 (by simp) ?_
  simp only [go_sem]
  refine CallU.free (con_rvalidFlat ps hl hl2 hp) (by simp only [go_sem]) (by simp only [go_sem]) ?_
  rintro r bx rfl
  simp only [go_sem]
end Go.AM

/-! ## CrE -/
namespace Go.AM
open Go Go.Proofs Go.RowKit

set_option maxRecDepth 100000 in
theorem con_rsizeLeaf (v : CV) (most : Int) (hk : v.kids = []) : Con Tryz.prog 152 [vV v, vi most] [] fun r _ => r = vi 1 := by
  rw [vV_eq]
  refine Con.intro Tryz.func152 rfl Tryz.ntmps152 Tryz.results152 (by kernel_rfl) (by simp) 0 (by simp) ?_
  rw [hk]
  simp only [go_sem, List.map_nil]
  refine LoopK.intro (fun _ : Nat => ⟨31, [(1, vi most), (2, .pb 0 0), (5, vi 1), (6, vi 0)], [[vi v.n, .sl 0 2 []]]⟩) (fun i => i) (fun _ => True) 0 trivial ?_ ?_
  · simp only [go_sem]
  rintro i _
  simp only [go_sem, List.length_nil]
set_option maxRecDepth 100000 in
theorem con_rsize (v : CV) (hk : ∀ x ∈ v.kids, x.kids = []) (hl : v.kids.length ≤ 100) : Con Tryz.prog 152 [vV v, vi 128] [] fun r _ => r = vi (1 + v.kids.length) := by
  rw [vV_eq]
  refine Con.intro Tryz.func152 rfl Tryz.ntmps152 Tryz.results152 (by kernel_rfl) (by simp) 0 (by simp) ?_
  simp only [go_sem]
  refine LoopK.intro (fun i : Nat => ⟨31, [(1, vi 128), (2, .pb 0 0), (5, vi (1 + i)), (6, vi i)], [[vi v.n, .sl 0 2 (v.kids.map vV)]]⟩) (fun i => v.kids.length - i) (fun i => i ≤ v.kids.length) 0 (by omega) ?_ ?_
  · simp only [go_sem]
    all_goals exact leV_refl _
  rintro i hi
  by_cases h : i < v.kids.length
  · have hg := getvV h
    have hw : IntKind.i64.wrap (i + 1) = i + 1 := wrap_in (by omega) (by omega)
    have hw2 : IntKind.i64.wrap (1 + (i : Int) + 1) = 1 + (i + 1) := by rw [wrap_in (by omega) (by omega)]; omega
    have hw3 : IntKind.i64.wrap (128 - (1 + (i : Int))) = 128 - (1 + i) := wrap_in (by omega) (by omega)
    have h8 : 1 + (i : Int) ≤ 128 := by omega
    simp only [go_sem, h, h8, hg, hw3]
    refine CallU.free (con_rsizeLeaf v.kids[i]! (128 - (1 + i)) (hk _ (mem_bangI h))) (by simp only [go_sem]) (by simp only [go_sem, vV_eq]) ?_
    rintro r bx rfl
    simp only [go_sem, hw, hw2]
    refine roundK.intro (i + 1) (by omega) (by omega) ?_
    simp only [go_sem]
  · have e : i = v.kids.length := by omega
    subst e
    simp only [go_sem, h]
set_option maxRecDepth 100000 in
theorem con_rofLeaf (p : Int × Int) (v : CV) (hp : LeafP p) (h : leafOk p v = true) : Con Tryz.prog 153 [vPT p, vV v] [] fun r _ => r = vb true := by
  rw [vV_eq]
  refine Con.intro Tryz.func153 rfl Tryz.ntmps153 Tryz.results153 (by kernel_rfl) (by simp) 0 (by simp) ?_
  obtain ⟨k, s⟩ := p
  rcases hp with hp | ⟨rfl, h1, h2⟩
  · cases hp
    unfold leafOk at h
    rw [if_pos rfl] at h
    simp only [Bool.and_eq_true, decide_eq_true_eq, beq_iff_eq] at h
    obtain ⟨⟨g1, g2⟩, g3⟩ := h
    have e : v.kids = [] := List.eq_nil_of_length_eq_zero g3
    simp only [go_sem, g1, g2, e, List.map_nil, List.length_nil]
  · unfold leafOk at h
    rw [if_neg (show ¬ ((2 : Int) = 1) by decide)] at h
    simp only [Bool.and_eq_true, decide_eq_true_eq, beq_iff_eq] at h
    obtain ⟨⟨g1, g2⟩, g3⟩ := h
    have e : v.kids = [] := List.eq_nil_of_length_eq_zero g3
    simp only [go_sem, g1, g2, e, List.map_nil, List.length_nil]
set_option maxRecDepth 100000 in
set_option maxHeartbeats 1000000 in
theorem con_rofFlat (ps : List (Int × Int)) (v : CV) (hp : ∀ p ∈ ps, LeafP p) (hl : ps.length ≤ 1000000) (h : flatOk ps v = true) : Con Tryz.prog 153 [flatT 0 ps, vV v] [] fun r _ => r = vb true := by
  rw [vV_eq]
  refine Con.intro Tryz.func153 rfl Tryz.ntmps153 Tryz.results153 (by kernel_rfl) (by simp) 0 (by simp) ?_
  unfold flatOk at h
  simp only [Bool.and_eq_true, beq_iff_eq, decide_eq_true_eq, List.all_eq_true, List.mem_range] at h
  obtain ⟨⟨g1, g2⟩, g3⟩ := h
  have hn : ((v.kids.length : Int) != (ps.length : Int)) = false := by rw [g2]; simp
  simp only [go_sem, g1, hn]
  refine LoopK.intro (fun i : Nat => ⟨169, [(2, .pb 0 0), (3, .pb 1 0), (5, vi i)], [[vi 3, vi 0, .nil, .sl 0 4 (ps.map vPT)], [vi 0, .sl 0 2 (v.kids.map vV)]]⟩) (fun i => v.kids.length - i) (fun i => i ≤ v.kids.length) 0 (by omega) ?_ ?_
  · simp only [go_sem]
    all_goals exact leB_self _
  rintro i hi
  by_cases h : i < v.kids.length
  · have hip : i < ps.length := by omega
    have hg := getvV h
    have hg2 := getPT hip
    have hw : IntKind.i64.wrap (i + 1) = i + 1 := wrap_in (by omega) (by omega)
    simp only [go_sem, h]
    refine DrawK.walk 12 mixed (by kernel_rfl) ?_
    simp only [go_sem, h, hip, hg, hg2]
    refine CallY.mk (con_rofLeaf ps[i]! v.kids[i]! (hp _ (mem_bangI hip)) (g3 i hip)) (by simp only [go_sem, vV_eq]) (by simp only [go_sem]) (.inl (by simp only [go_sem])) ?_
    simp only [go_sem, hw]
    refine roundK.intro (i + 1) (by omega) (by omega) ?_
    simp only [go_sem]
  · simp only [go_sem, h]
set_option maxRecDepth 100000 in
theorem con_rvalid (ns np : Nat) (v : CV) (h1 : 1 ≤ ns) (h2 : ns ≤ 16) (h3 : np ≤ 7) (hc : confB ns np v = true) : Con Tryz.prog 90 [flatT 0 (partsP ns np), vV v] [] fun r _ => r = vb true := by
  have e0 := vV_eq v
  rw [e0]
  refine Con.intro Tryz.func90 rfl Tryz.ntmps90 Tryz.results90 (by kernel_rfl) (by simp) 0 (by simp) ?_
  obtain ⟨_, hlen⟩ := conf_ok (by omega) hc
  have hkids : ∀ x ∈ v.kids, x.kids = [] := by
    intro x hx
    have hf := hc
    rw [← conf_flat] at hf
    unfold flatOk at hf
    simp only [Bool.and_eq_true, beq_iff_eq, decide_eq_true_eq, List.all_eq_true, List.mem_range] at hf
    obtain ⟨i, hi, e⟩ := List.getElem_of_mem hx
    have h4 := hf.2 i (by omega)
    rw [getElem!_pos v.kids i hi, e] at h4
    unfold leafOk at h4
    split at h4
    · simp only [Bool.and_eq_true, beq_iff_eq] at h4; exact List.eq_nil_of_length_eq_zero h4.2
    · simp only [Bool.and_eq_true, beq_iff_eq] at h4; exact List.eq_nil_of_length_eq_zero h4.2
  simp only [go_sem]
  refine CallU.free (con_rtcheck (partsP ns np) (by rw [parts_len]; omega) (by rw [parts_len]; omega) (parts_leaf h1 h2)) (by simp only [go_sem]) (by simp only [go_sem]) ?_
  rintro r bx rfl
  simp only [go_sem]
  refine CallU.free (con_rsize v hkids (by omega)) (by simp only [go_sem]) (by simp only [go_sem, vV_eq]) ?_
  rintro r bx rfl
  have h8 : 1 + (v.kids.length : Int) ≤ 128 := by omega
  simp only [go_sem, h8]
  refine CallU.free (con_rofFlat (partsP ns np) v (parts_leaf h1 h2) (by rw [parts_len]; omega) (by rw [conf_flat]; exact hc)) (by simp only [go_sem]) (by simp only [go_sem, vV_eq]) ?_
  rintro r bx rfl
  simp only [go_sem]
set_option maxRecDepth 100000 in
set_option maxHeartbeats 1000000 in
theorem con_rmcheck (m : MD) (h : GoodM m) : Con Tryz.prog 30 [vM m] [] fun r _ => r = vi 0 := by
  refine Con.intro Tryz.func30 rfl Tryz.ntmps30 Tryz.results30 (by kernel_rfl) (by simp) 0 (by simp) ?_
  have h1 := h.states; have h2 := h.places; have h3 := h.few
  have hk := h.kind
  have b1 := con_rbetween 1 1 6
  rw [between_true (by omega) (by omega)] at b1
  simp only [go_sem, vM, cM, vss, hk]
  refine CallU.free b1 (by simp only [go_sem]) (by simp only [go_sem]) ?_
  rintro r bx rfl
  simp only [go_sem]
  refine CallU.free (con_rnumbers m h) (by simp only [go_sem]) (by simp only [go_sem, vM, cM, vss, hk]) ?_
  rintro r bx rfl
  simp only [go_sem]
  refine CallU.free (con_rranks m h) (by simp only [go_sem]) (by simp only [go_sem, vM, cM, vss, hk]) ?_
  rintro r bx rfl
  simp only [go_sem]
  refine CallU.free (con_rnames m h) (by simp only [go_sem]) (by simp only [go_sem, vM, cM, vss, hk]) ?_
  rintro r bx rfl
  simp only [go_sem]
  refine LoopK.intro (fun i : Nat => ⟨52, [(1, .pb 0 0), (2, vi 0), (3, vi i)], [[vi 1, .sl 0 1 (m.states.map vStr), .sl 0 1 (m.places.map vStr), .sl 0 1 (m.letters.map vStr), vs 0 m.ranks, vi m.levels, vi m.age, .sl 0 14 (m.rules.map vRule), vi m.start.n, .sl 0 2 (m.start.kids.map vV)]]⟩)
    (fun i => m.rules.length - i) (fun i => i ≤ m.rules.length) 0 (by omega) ?_ ?_
  · simp only [go_sem]
  rintro i hi
  by_cases hlt : i < m.rules.length
  · have hg := getRule hlt
    have hw : IntKind.i64.wrap (i + 1) = i + 1 := wrap_in (by omega) (by omega)
    simp only [go_sem, hlt]
    refine DrawK.walk 8 mixed (by kernel_rfl) ?_
    simp only [go_sem, hlt, hg]
    refine CallY.mk (con_rright m m.rules[i]! h (mem_bangI hlt)) (by simp only [go_sem, vM, cM, vss, hk]) (by simp only [go_sem]) (.inl (by simp only [go_sem])) ?_
    simp only [go_sem, hw]
    refine roundK.intro (i + 1) (by omega) (by omega) ?_
    simp only [go_sem]
  · simp only [go_sem, hlt]
    refine DrawK.walk 6 mixed (by kernel_rfl) ?_
    simp only [go_sem]
    refine CallY.mk (con_rtypeOf m h) (by simp only [go_sem, vM, cM, vss, hk]) (by simp only [go_sem]) (.inl (by simp only [go_sem])) ?_
    simp only [go_sem]
    refine CallY.mk (con_rvalid m.states.length m.places.length m.start (by omega) (by omega) (by omega) h.start) (by simp only [go_sem, vV_eq]) (by simp only [go_sem]) (.inr (by simp only [go_sem])) ?_
    simp only [go_sem]
end Go.AM

/-! ## CrF -/
namespace Go.AM
open Go Go.Proofs Go.RowKit

set_option maxRecDepth 100000 in
set_option maxHeartbeats 1000000 in
theorem con_rmvalid (m : MD) (c : CV) (h : GoodM m) (hc : confB m.states.length m.places.length c = true) : Con Tryz.prog 40 [vM m, vV c] [] fun r _ => r = vb true := by
  rw [vV_eq c]
  refine Con.intro Tryz.func40 rfl Tryz.ntmps40 Tryz.results40 (by kernel_rfl) (by simp) 0 (by simp) ?_
  have h1 := h.states; have h2 := h.places
  simp only [go_sem, vM, cM, vss]
  refine DrawK.walk 10 mixed (by kernel_rfl) ?_
  simp only [go_sem]
  refine CallY.mk (con_rmcheck m h) (by simp only [go_sem, vM, cM, vss]) (by simp only [go_sem]) (.inl (by simp only [go_sem])) ?_
  simp only [go_sem]
  refine CallY.mk (con_rtypeOf m h) (by simp only [go_sem, vM, cM, vss]) (by simp only [go_sem]) (.inl (by simp only [go_sem])) ?_
  simp only [go_sem]
  refine CallY.mk (con_rvalid m.states.length m.places.length c (by omega) (by omega) (by omega) hc) (by simp only [go_sem, vV_eq]) (by simp only [go_sem]) (.inr (by simp only [go_sem])) ?_
  simp only [go_sem]
set_option maxRecDepth 100000 in
theorem con_rplain (m : MD) (h : GoodM m) (hs : m.rules.all stillB = true) : Con Tryz.prog 39 [vM m] [] fun r _ => r = vi 0 := by
  refine Con.intro Tryz.func39 rfl Tryz.ntmps39 Tryz.results39 (by kernel_rfl) (by simp) 0 (by simp) ?_
  have h3 := h.few
  have hk := h.kind
  simp only [go_sem, vM, cM, vss, hk]
  refine CallU.free (con_rmcheck m h) (by simp only [go_sem]) (by simp only [go_sem, vM, cM, vss, hk]) ?_
  rintro r bx rfl
  simp only [go_sem]
  refine LoopK.intro (fun i : Nat => ⟨28, [(1, .pb 0 0), (4, vi i)], [[vi 1, .sl 0 1 (m.states.map vStr), .sl 0 1 (m.places.map vStr), .sl 0 1 (m.letters.map vStr), vs 0 m.ranks, vi m.levels, vi m.age, .sl 0 14 (m.rules.map vRule), vi m.start.n, .sl 0 2 (m.start.kids.map vV)]]⟩)
    (fun i => m.rules.length - i) (fun i => i ≤ m.rules.length) 0 (by omega) ?_ ?_
  · simp only [go_sem]
  rintro i hi
  by_cases hlt : i < m.rules.length
  · have hg := getRule hlt
    have hw : IntKind.i64.wrap (i + 1) = i + 1 := wrap_in (by omega) (by omega)
    have hst := List.all_eq_true.1 hs _ (mem_bangI hlt)
    unfold stillB at hst
    rw [beq_iff_eq] at hst
    have hmv : m.rules[i]!.move = [] := List.eq_nil_of_length_eq_zero hst
    simp only [go_sem, hlt, hg, hmv, hw, List.map_nil, List.length_nil]
    refine roundK.intro (i + 1) (by omega) (by omega) ?_
    simp only [go_sem]
  · simp only [go_sem, hlt]
theorem tail_step {L : List CV} {i : Nat} (h1 : 1 ≤ i) (h : i < L.length) : ((L.take (i + 1)).drop 1).map CV.n = ((L.take i).drop 1).map CV.n ++ [L[i]!.n] := by
  rw [List.take_add_one, List.getElem?_eq_getElem h, getElem!_pos L i h, Option.toList, List.drop_append_of_le_length (by rw [List.length_take]; omega), List.map_append]; rfl
set_option maxRecDepth 100000 in
theorem con_rNumbers (n : Int) (x : CV) (l : List CV) (hl : l.length ≤ 1000000) : Con Tryz.prog 24 [.ag [vi n, .sl 0 2 ((x :: l).map vV)]] [] fun r _ => r = vs 2 (l.map CV.n) := by
  refine Con.intro Tryz.func24 rfl Tryz.ntmps24 Tryz.results24 (by kernel_rfl) (by simp) 0 (by simp) ?_
  obtain ⟨L, hL⟩ : ∃ L, L = x :: l := ⟨_, rfl⟩
  have hLl : L.length = l.length + 1 := by rw [hL]; rfl
  have e : l.map CV.n = ((L.take L.length).drop 1).map CV.n := by rw [List.take_length, hL]; rfl
  rw [e, ← hL]
  simp only [go_sem]
  refine LoopK.intro (fun i : Nat => ⟨22, [(1, .pb 0 0), (3, vs 1344 (((L.take i).drop 1).map CV.n)), (4, vi i)], [[vi n, .sl 0 2 (L.map vV)]]⟩) (fun i => L.length - i) (fun i => 1 ≤ i ∧ i ≤ L.length) 1 ⟨by omega, by omega⟩ ?_ ?_
  · have e1 : (L.take 1).drop 1 = [] := by rw [hL]; rfl
    simp only [go_sem, e1, List.map_nil]
    all_goals exact leV_int rfl
  rintro i ⟨hi1, hi⟩
  by_cases h : i < L.length
  · have hg := getvV h
    have hw : IntKind.i64.wrap (i + 1) = i + 1 := wrap_in (by omega) (by omega)
    have hr : roomFor (((L.take i).drop 1).length + 1) 8 := by simp only [roomFor, List.length_drop, List.length_take]; omega
    have e2 := tail_step hi1 h
    simp only [go_sem, h, hg, hw, hr]
    refine roundK.intro (i + 1) ⟨by omega, by omega⟩ (by omega) ?_
    simp only [go_sem, e2, List.map_append, List.map_cons, List.map_nil]
  · obtain rfl : i = L.length := by omega
    simp only [go_sem, h]
set_option maxRecDepth 100000 in
theorem con_rr (n m : Int) (hm : 1 ≤ m ∧ m ≤ 8) (hn : -1125899906842624 ≤ n ∧ n ≤ 1125899906842624) : Con Tryz.prog 119 [vi n, vi m] [] fun r _ => r = vi (restF n m) := by
  refine Con.intro Tryz.func119 rfl Tryz.ntmps119 Tryz.results119 (by kernel_rfl) (by simp) 0 (by simp) ?_
  have hz : ¬ m = 0 := by omega
  have t1 : -8 < Int.tmod n m ∧ Int.tmod n m < 8 := by
    have := Int.tmod_lt_of_pos n (show 0 < m by omega)
    have := Int.lt_tmod_of_pos n (show 0 < m by omega)
    omega
  have t2 : -8 < Int.tmod (Int.tmod n m + m) m ∧ Int.tmod (Int.tmod n m + m) m < 8 := by
    have := Int.tmod_lt_of_pos (Int.tmod n m + m) (show 0 < m by omega)
    have := Int.lt_tmod_of_pos (Int.tmod n m + m) (show 0 < m by omega)
    omega
  have w1 : IntKind.i64.wrap (Int.tmod n m) = Int.tmod n m := wrap_in (by omega) (by omega)
  have w2 : IntKind.i64.wrap (Int.tmod n m + m) = Int.tmod n m + m := wrap_in (by omega) (by omega)
  have w3 : IntKind.i64.wrap (Int.tmod (Int.tmod n m + m) m) = Int.tmod (Int.tmod n m + m) m := wrap_in (by omega) (by omega)
  unfold restF
  simp only [go_sem, hz, w2]
set_option maxRecDepth 100000 in
theorem con_rRight (c : List Int) (mod : Int) (hl : c.length ≤ 1000000) (hc : SmallI 4 c) (hm : ModOk mod) : Con Tryz.prog 116 [vs 0 c, vi mod] [] fun r _ => r = vb true := by
  refine Con.intro Tryz.func116 rfl Tryz.ntmps116 Tryz.results116 (by kernel_rfl) (by simp) 0 (by simp) ?_
  simp only [go_sem]
  refine LoopK.intro (fun i : Nat => ⟨34, [(0, vs 0 c), (1, vi mod), (5, vi i)], []⟩) (fun i => c.length - i) (fun i => i ≤ c.length) 0 (by omega) ?_ ?_
  · simp only [go_sem]
  rintro i hi
  by_cases h : i < c.length
  · have hg := getv h
    have hw : IntKind.i64.wrap (i + 1) = i + 1 := wrap_in (by omega) (by omega)
    have hx := hc c[i]! (mem_bangI h)
    have x1 : ¬ c[i]! < -4 := by omega
    have x2 : ¬ (4 : Int) < c[i]! := by omega
    simp only [go_sem, h, hg, x1, x2, hw]
    refine roundK.intro (i + 1) (by omega) (by omega) ?_
    simp only [go_sem]
  · rcases hm with rfl | ⟨m1, m2⟩
    · simp only [go_sem, h]
    · have m0 : (mod == 0) = false := beq_eq_false_iff_ne.2 (by omega)
      simp only [go_sem, h, m0, m1, m2]
end Go.AM

/-! ## CrL -/
namespace Go.AM
open Go Go.Proofs Go.RowKit

set_option maxRecDepth 100000 in
theorem con_rkind (m : MD) (h : GoodM m) : Con Tryz.prog 70 [vM m] [] fun r _ => r = vi 0 := by
  refine Con.intro Tryz.func70 rfl Tryz.ntmps70 Tryz.results70 (by kernel_rfl) (by simp) 0 (by simp) ?_
  have hk := h.kind
  simp only [go_sem, vM, cM, vss, hk]
  refine CallU.free (con_rmcheck m h) (by simp only [go_sem]) (by simp only [go_sem, vM, cM, vss, hk]) ?_
  rintro r bx rfl
  simp only [go_sem]
set_option maxRecDepth 100000 in
theorem con_rquiet (m : MD) (c : CV) (h : GoodM m) (hc : confB m.states.length m.places.length c = true) : Con Tryz.prog 71 [vM m, vV c] [] fun r _ => r = .tup [.nil, vi 0] := by
  have e0 := vV_eq c
  rw [e0]
  refine Con.intro Tryz.func71 rfl Tryz.ntmps71 Tryz.results71 (by kernel_rfl) (by simp) 0 (by simp) ?_
  have hk := h.kind
  simp only [go_sem, vM, cM, vss, hk]
  refine CallU.free (con_rkind m h) (by simp only [go_sem]) (by simp only [go_sem, vM, cM, vss, hk]) ?_
  rintro r bx rfl
  simp only [go_sem]
  refine CallU.free (con_rmvalid m c h hc) (by simp only [go_sem]) (by simp only [go_sem, vM, cM, vss, hk, e0]) ?_
  rintro r bx rfl
  simp only [go_sem]
set_option maxRecDepth 100000 in
theorem con_rfault (m : MD) (i : Nat) (h : GoodM m) (hi : i < m.rules.length) : Con Tryz.prog 187 [vM m, vi i] [] fun r _ => r = vi 0 := by
  refine Con.intro Tryz.func187 rfl Tryz.ntmps187 Tryz.results187 (by kernel_rfl) (by simp) 0 (by simp) ?_
  have hk := h.kind
  have a1 : ¬ ((i : Int) < 0) := by omega
  have a2 : ¬ ((m.rules.length : Int) ≤ (i : Int)) := by omega
  simp only [go_sem, vM, cM, vss, hk]
  refine CallU.free (con_rmcheck m h) (by simp only [go_sem]) (by simp only [go_sem, vM, cM, vss, hk]) ?_
  rintro r bx rfl
  simp only [go_sem, a1, a2, List.length_map]
/-- a rule can be used -/
def enF (r : RD) (s : Nat) (v : List Int) : Bool := ((s : Int) == r.src) && (List.range r.need.length).all fun i => decide (r.need[i]! ≤ v[i]!)
theorem cfg_kid {s : Nat} {v : List Int} {i : Nat} (h : i < v.length) : ((cfgC s v).kids.map vV)[i + 1]? = some (.ag [.sc (.int .i64 v[i]!), .sl 0 2 []]) := by
  show ((CV.mk s [] :: v.map fun n => CV.mk n []).map vV)[i + 1]? = _
  rw [List.map_cons, List.getElem?_cons_succ, List.getElem?_map, List.getElem?_map, List.getElem?_eq_getElem h, getElem!_pos v i h]
  show some (vV (CV.mk v[i] [])) = _
  rw [vV_eq]; rfl
theorem cfg_first {s : Nat} {v : List Int} : ((cfgC s v).kids.map vV)[0]? = some (.ag [.sc (.int .i64 s), .sl 0 2 []]) := by
  show ((CV.mk s [] :: v.map fun n => CV.mk n []).map vV)[0]? = _
  rw [List.map_cons, List.getElem?_cons_zero, vV_eq]; rfl
theorem cfg_klen {s : Nat} {v : List Int} : (cfgC s v).kids.length = v.length + 1 := by
  show (CV.mk s [] :: v.map fun n => CV.mk n []).length = _
  simp
set_option maxRecDepth 100000 in
set_option maxHeartbeats 1000000 in
theorem con_renabled (r : RD) (s : Nat) (v : List Int) (hl : r.need.length = v.length) (h6 : v.length ≤ 6) : Con Tryz.prog 188 [vRule r, vV (cfgC s v)] [] fun x _ => x = vb (enF r s v) := by
  rw [vV_eq (cfgC s v)]
  refine Con.intro Tryz.func188 rfl Tryz.ntmps188 Tryz.results188 (by kernel_rfl) (by simp) 0 (by simp) ?_
  have g0 := cfg_first (s := s) (v := v)
  have kl := cfg_klen (s := s) (v := v)
  have k0 : 0 < (cfgC s v).kids.length := by rw [kl]; omega
  simp only [go_sem]
  refine DrawK.walk 8 mixed (by kernel_rfl) ?_
  simp only [go_sem, k0, g0]
  by_cases hs : (s : Int) = r.src
  case neg =>
    have hn : ((s : Int) != r.src) = true := bne_iff_ne.2 hs
    have e : enF r s v = false := by unfold enF; rw [beq_eq_false_iff_ne.2 hs]; rfl
    simp only [go_sem, hn, e]
  have hn : ((s : Int) != r.src) = false := by rw [hs]; simp
  simp only [go_sem, hn]
  refine LoopK.intro (fun i : Nat => ⟨34, [(2, .pb 0 0), (3, .pb 1 0), (5, vi i)], [[vStr r.name, vi r.src, vi r.dst, vs 0 r.need, vs 0 r.give, vs 0 r.move, vi r.channel, vi r.act, vi r.letter, vs 0 r.path, vs 0 r.next, .sl 0 3 (r.takes.map vTake), vs 0 r.makes, vi r.second], [vi (cfgC s v).n, .sl 0 2 ((cfgC s v).kids.map vV)]]⟩)
    (fun i => r.need.length - i) (fun i => i ≤ r.need.length ∧ ∀ j, j < i → r.need[j]! ≤ v[j]!) 0 ⟨by omega, fun j hj => by omega⟩ ?_ ?_
  · simp only [go_sem]
    all_goals exact leB_self _
  rintro i ⟨hi, hb⟩
  by_cases h : i < r.need.length
  · have hg := getv h
    have hk := cfg_kid (s := s) (v := v) (i := i) (by omega)
    have hkl : i + 1 < (cfgC s v).kids.length := by rw [kl]; omega
    have hw : IntKind.i64.wrap (i + 1) = i + 1 := wrap_in (by omega) (by omega)
    have hw2 : IntKind.i64.wrap (1 + (i : Int)) = ((i + 1 : Nat) : Int) := by rw [wrap_in (by omega) (by omega)]; omega
    simp only [go_sem, h]
    refine DrawK.walk 13 mixed (by kernel_rfl) ?_
    have ht : ((i : Int) + 1).toNat = i + 1 := by omega
    have hk2 : Option.map vV (cfgC s v).kids[i + 1]? = some (.ag [.sc (.int .i64 v[i]!), .sl 0 2 []]) := by rw [← List.getElem?_map]; exact hk
    have hkl2 : (i : Int) + 1 < ((cfgC s v).kids.length : Int) := by omega
    simp only [go_sem, h, hg, hw2, ht, hk2, hkl2]
    refine ⟨by omega, ?_⟩
    by_cases hq : v[i]! < r.need[i]!
    · have e : enF r s v = false := by
        unfold enF
        rw [Bool.and_eq_false_iff]
        right
        rw [List.all_eq_false]
        exact ⟨i, List.mem_range.2 h, by rw [decide_eq_false (by omega)]; simp⟩
      simp only [go_sem, hq, e]
    · simp only [go_sem, hq, hw]
      refine roundK.intro (i + 1) ⟨by omega, fun j hj => ?_⟩ (by omega) ?_
      · by_cases hji : j = i
        · subst hji; omega
        · exact hb j (by omega)
      · simp only [go_sem]
  · have e : enF r s v = true := by
      unfold enF
      rw [beq_iff_eq.2 hs, Bool.true_and, List.all_eq_true]
      intro j hj
      have := List.mem_range.1 hj
      exact decide_eq_true (hb j (by omega))
    simp only [go_sem, h, e]
end Go.AM
